/- How a statement's function is entered: from the executor to the call. -/
import Derived.Test.YtieoipmbcdfmeaaDoorTrAb21
import Derived.Test.YtieoipmbcdfmeaaDoorTrAbT
import Derived.Test.YtieoipmbcdfmeaaDoorTrArgs
import Derived.Stop.LaidErr
import Derived.Shelf.Abstract
import Derived.LaidLaws
namespace Go.Proofs.YtieoipmbcdfmeaaDoor.Ab
open Go Go.RowKit Go.Sort Go.Shelf
set_option linter.unusedVariables false
set_option linter.unusedSimpArgs false
set_option maxRecDepth 100000
/-- The blocks of the variables of the library that are read. -/
def ρ0 : Env := ⟨fun _ => none, fun b => b = 0 ∨ b = 2 ∨ b = 3⟩
theorem cell_lt {W : World} {a : Addr} {v : Value} (h : W.cell? a = some v) : a.block < W.heap.size := by
  simp only [World.cell?] at h
  cases hh : W.heap[a.block]? with
  | none => simp [hh] at h
  | some o => exact lt_of_get hh
theorem J_lt {W : World} (h : J W) : 0 < W.heap.size ∧ 2 < W.heap.size ∧ 3 < W.heap.size := by
  obtain ⟨⟨v2, h2, -⟩, v3, h3, -⟩ := J_cells h
  have h0 := World.var?_cell gPow h.1 0
  exact ⟨cell_lt (a := ⟨0, 0, none⟩) (h0.trans rfl), cell_lt h2, cell_lt h3⟩
theorem J_of {u u' : World} (h : J u) (hb : ∀ b, ρ0.F b → u'.heap[b]? = u.heap[b]?) : J u' := by
  have e0 := hb 0 (.inl rfl); have e2 := hb 2 (.inr (.inl rfl)); have e3 := hb 3 (.inr (.inr rfl))
  obtain ⟨h1, ⟨v2, h2, i2⟩, v3, h3, i3⟩ := h
  refine ⟨?_, ⟨v2, ?_, i2⟩, v3, ?_, i3⟩
  · unfold Lib.TabIs at h1 ⊢
    rw [← h1]
    unfold World.var?
    rw [gPow]
    simp only [Option.bind_some, e0]
  · rw [← h2]
    unfold World.var?
    rw [gES]
    simp only [Option.bind_some, e2]
  · rw [← h3]
    unfold World.var?
    rw [gER]
    simp only [Option.bind_some, e3]
theorem mut0 {b : Nat} : Mut ρ0 [] b ↔ ρ0.F b := by
  unfold Mut
  constructor
  · rintro (h | ⟨id, o, v, h, -⟩)
    · exact h
    · cases h
  · exact .inl
theorem rep0 {W : World} (h : J W) : Rep ρ0 0 [] W where
  nodup := List.nodup_nil
  objs := fun id o hm => by cases hm
  inj := fun i o j o' v v' b hm => by cases hm
  fresh := fun _ _ => rfl
  sep := fun id o v b hm => by cases hm
  old := ⟨fun b hb => by
      obtain ⟨h0, h2, h3⟩ := J_lt h
      rcases hb with rfl | rfl | rfl <;> assumption, h, fun u u' hu hb => J_of hu hb⟩
theorem enter_call {f : Nat} {fn : Func} {args : List AV} {vals : List Value} {W : World} (hf : Tryd.prog.funcs[f]? = some fn) (hn : (fn.name == "runtime.NumGoroutine") = false) (hb : fn.body.isSome = true)
    (hc : CallE Tryd.prog f args 0 [] (Gets fun v => v = .d (.bool true))) (hJ : J W) (ha : RelVs ρ0 W (Mut ρ0 []) args vals) :
    Calls Tryd.prog f vals.toArray W fun e W' => e = .returned (.bool true) ∧ Below W.heap.size W W' := by
  have key : ∀ v W', Done (Gets fun v => v = .d (.bool true)) 0 ρ0 [] W v W' → v = .bool true ∧ Below W.heap.size W W' := by
    rintro v W' ⟨av, ρ', n', h', ⟨⟨rfl⟩, -, rfl, rfl⟩, -, -, h4, h5⟩
    exact ⟨h4, h5.os, h5.tape, h5.output, h5.size, fun k hk => h5.block k hk (by rintro ⟨id, o, v, hm, -⟩; cases hm)⟩
  cases hc with
  | enter fn' hf' hn' hb' run =>
    refine (run ρ0 W vals (rep0 hJ) ha).mono ?_
    rintro e W' ⟨v, rfl, hd⟩
    obtain ⟨rfl, hb⟩ := key _ _ hd
    exact ⟨rfl, hb⟩
  | ext run =>
    obtain ⟨v, W', h1, -⟩ := run ρ0 W vals (rep0 hJ) ha
    obtain ⟨c, hc⟩ := Option.isSome_iff_exists.1 hb
    rw [enters_of hf hn hc] at h1
    cases h1
/-- A slice of numbers that came in. -/
theorem rel_ints {w : World} {M : Nat → Prop} : ∀ (xs : List Int) (vs : List Value), (∀ j, j < xs.length → vs[j]? = some (.int .i64 (xs.getD j 0))) → RelRows w M (xs.map fun x => [.int .i64 x]) vs
  | [], vs, _ => trivial
  | x :: xs, vs, h => by
    have h0 := h 0 (by simp)
    obtain ⟨r, rfl⟩ : ∃ r, vs = .int .i64 x :: r := by
      cases vs with
      | nil => simp at h0
      | cons v r => simp at h0; exact ⟨r, by rw [h0]⟩
    exact ⟨⟨_, _, rfl, rfl, rfl⟩, rel_ints xs r (fun j hj => by
      have := h (j + 1) (by simpa using hj)
      simpa using this)⟩
/-- What stands where numbers stand is none of the library's variables. -/
theorem not_F {W : World} (hJ : J W) {b off : Nat} {x : Int} (h : W.cell? ⟨b, off, none⟩ = some (.int .i64 x)) : ¬ ρ0.F b := by
  obtain ⟨h1, ⟨v2, h2, i2⟩, v3, h3, i3⟩ := hJ
  rintro (rfl | rfl | rfl)
  · have e := (World.var?_cell gPow h1 off).symm.trans h
    simp only [List.getElem?_toArray, List.getElem?_map, Option.map_eq_some_iff] at e
    obtain ⟨z, -, e⟩ := e
    cases e
  · have e := (World.var?_cell gES h2 off).symm.trans h
    cases off with
    | zero =>
      simp at e
      subst e
      rcases i2 with e | ⟨_, _, e⟩ <;> cases e
    | succ off => simp at e
  · have e := (World.var?_cell gER h3 off).symm.trans h
    cases off with
    | zero =>
      simp at e
      subst e
      rcases i3 with e | ⟨_, _, e⟩ <;> cases e
    | succ off => simp at e
theorem imm_of_ints {W : World} {a : Option Addr} {rows : List (List Value)} {cap : Nat} (hJ : J W) (h : Tr.Rows [.int .i64] W a rows cap) :
    ∃ xs : List Int, (∀ x ∈ xs, (Lit.int .i64 x).wf = true) ∧ RelD W (Mut ρ0 []) (.imm (xs.map fun x => [.int .i64 x])) (.slice a rows.length cap) := by
  have hcap := h.1
  obtain ⟨xs, rfl, hwf, hc⟩ := h.ints
  refine ⟨xs, hwf, a, cap, by simp, by simpa using hcap, ?_⟩
  cases xs with
  | nil => exact .inl rfl
  | cons x xs =>
    right
    obtain ⟨b, off, rfl, hcell⟩ := hc (by simp)
    have h0 := hcell 0 (by simp)
    have hF := not_F hJ h0
    simp only [World.cell?] at h0 hcell
    cases hh : W.heap[b]? with
    | none => simp [hh] at h0
    | some o =>
      cases o with
      | cells cs e fz =>
        refine ⟨b, off, cs, e, fz, 1, rfl, hh, fun hm => hF (mut0.1 hm), by simp, rel_ints _ _ fun j hj => ?_⟩
        have := hcell j hj
        rw [hh] at this
        rw [List.getElem?_drop]
        simpa using this
      | _ => simp [hh] at h0
end Go.Proofs.YtieoipmbcdfmeaaDoor.Ab
