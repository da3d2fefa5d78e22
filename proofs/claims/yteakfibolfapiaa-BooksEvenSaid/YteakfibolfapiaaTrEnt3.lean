/- How a statement's function is entered, where nothing is known of the world all along; rows of flat cells that came in. -/
import Derived.Test.YteakfibolfapiaaTrAb21
import Derived.Test.YteakfibolfapiaaTrAbT
import Derived.Test.YteakfibolfapiaaTrArgs
import Derived.Shelf.Abstract
import Derived.LaidLaws
namespace Go.Proofs.Yteakfibolfapiaa.Ab
open Go Go.RowKit Go.Sort Go.Shelf
set_option linter.unusedVariables false
set_option linter.unusedSimpArgs false
set_option maxRecDepth 100000
def ρ0 : Env := ⟨fun _ => none, fun _ => False⟩
theorem mut0 {b : Nat} : ¬ Mut ρ0 [] b := by
  unfold Mut
  rintro (h | ⟨id, o, v, h, -⟩)
  · exact h
  · cases h
theorem rep0 (W : World) : Rep ρ0 0 [] W where
  nodup := List.nodup_nil
  objs := fun id o hm => by cases hm
  inj := fun i o j o' v v' b hm => by cases hm
  fresh := fun _ _ => rfl
  sep := fun id o v b hm => by cases hm
  old := ⟨fun b hb => hb.elim, trivial, fun u u' hu hb => trivial⟩
theorem enter_call {f : Nat} {fn : Func} {args : List AV} {vals : List Value} {W : World} (hf : Try.prog.funcs[f]? = some fn) (hn : (fn.name == "runtime.NumGoroutine") = false) (hb : fn.body.isSome = true)
    (hc : CallE Try.prog f args 0 [] (Gets fun v => v = .d (.bool true))) (ha : RelVs ρ0 W (Mut ρ0 []) args vals) :
    Calls Try.prog f vals.toArray W fun e W' => e = .returned (.bool true) ∧ Below W.heap.size W W' := by
  have key : ∀ v W', Done (Gets fun v => v = .d (.bool true)) 0 ρ0 [] W v W' → v = .bool true ∧ Below W.heap.size W W' := by
    rintro v W' ⟨av, ρ', n', h', ⟨⟨rfl⟩, -, rfl, rfl⟩, -, -, h4, h5⟩
    exact ⟨h4, h5.os, h5.tape, h5.output, h5.size, fun k hk => h5.block k hk (by rintro ⟨id, o, v, hm, -⟩; cases hm)⟩
  cases hc with
  | enter fn' hf' hn' hb' run =>
    refine (run ρ0 W vals (rep0 W) ha).mono ?_
    rintro e W' ⟨v, rfl, hd⟩
    obtain ⟨rfl, hb⟩ := key _ _ hd
    exact ⟨rfl, hb⟩
  | ext run =>
    obtain ⟨v, W', h1, -⟩ := run ρ0 W vals (rep0 W) ha
    obtain ⟨c, hc⟩ := Option.isSome_iff_exists.1 hb
    rw [enters_of hf hn hc] at h1
    cases h1
/-! rows of flat cells -/
def dOf : Value → D
  | .int k n => .int k n
  | .bool b => .bool b
  | .string s => .str s.data.toList
  | _ => .nilp
theorem dOf_ok {w : World} {M : Nat → Prop} {k : Tr.CK} {v : Value} (h : k.ok v) : RelD w M (dOf v) v := by
  cases k with
  | int k => obtain ⟨n, rfl, -⟩ := h; rfl
  | bool => obtain ⟨b, rfl⟩ := h; rfl
  | str => obtain ⟨s, rfl, -⟩ := h; simp [dOf, RelD]
theorem tcells_rel {w : World} {M : Nat → Prop} : ∀ (ks : List Tr.CK) (r : List Value), Tr.Cells ks r → RelDs w M (r.map dOf) r
  | [], r, h => by cases h; rfl
  | k :: ks, r, ⟨v, t, e, h1, h2⟩ => by subst e; exact ⟨_, _, rfl, dOf_ok h1, tcells_rel ks t h2⟩
theorem take_of {α : Type} : ∀ (r vs : List α), (∀ (j : Nat) (x : α), r[j]? = some x → vs[j]? = some x) → vs.take r.length = r
  | [], vs, _ => rfl
  | x :: r, vs, h => by
    have h0 := h 0 x rfl
    cases vs with
    | nil => simp at h0
    | cons v t =>
      simp at h0
      subst h0
      simp only [List.length_cons, List.take_succ_cons]
      rw [take_of r t fun j y hj => by simpa using h (j + 1) y (by simpa using hj)]
theorem rel_rows {w : World} {M : Nat → Prop} {ks : List Tr.CK} : ∀ (rows : List (List Value)) (vs : List Value), (∀ r ∈ rows, Tr.Cells ks r) →
    (∀ (i : Nat) (r : List Value), rows[i]? = some r → ∀ (j : Nat) (x : Value), r[j]? = some x → vs[i * ks.length + j]? = some x) → RelRows w M (rows.map (·.map dOf)) vs
  | [], vs, _, _ => trivial
  | r :: rest, vs, h, hx => by
    have h0 := h r (by simp)
    refine ⟨?_, ?_⟩
    · rw [List.length_map, take_of r vs fun j x hj => by simpa using hx 0 r rfl j x hj]
      exact tcells_rel ks r h0
    · rw [List.length_map, h0.length]
      refine rel_rows rest _ (fun q hq => h q (by simp [hq])) fun i q hi j x hj => ?_
      rw [List.getElem?_drop, show ks.length + (i * ks.length + j) = (i + 1) * ks.length + j by rw [Nat.succ_mul]; omega]
      exact hx (i + 1) q (by simpa using hi) j x hj
theorem imm_of_rows {W : World} {a : Option Addr} {rows : List (List Value)} {cap : Nat} {k : Tr.CK} {ks : List Tr.CK} (h : Tr.Rows (k :: ks) W a rows cap) :
    RelD W (Mut ρ0 []) (.imm (rows.map (·.map dOf))) (.slice a rows.length cap) := by
  obtain ⟨hcap, -, -, hc, hcell⟩ := h
  refine ⟨a, cap, by simp, by simpa using hcap, ?_⟩
  cases rows with
  | nil => exact .inl rfl
  | cons r0 rest =>
    right
    obtain ⟨b, off, rfl, hx0⟩ := hcell 0 r0 rfl
    obtain ⟨v0, t0, e0, hv0, -⟩ := hc 0 r0 rfl
    have h0 := hx0 0 v0 (by rw [e0]; rfl)
    have hcell' : ∀ (i : Nat) (r : List Value), (r0 :: rest)[i]? = some r → ∀ (j : Nat) (x : Value), r[j]? = some x → W.cell? ⟨b, off + (i * (k :: ks).length + j), none⟩ = some x := by
      intro i r hi j x hj
      obtain ⟨b', off', e, hx⟩ := hcell i r hi
      cases e
      exact hx j x hj
    simp only [World.cell?] at h0 hcell'
    cases hh : W.heap[b]? with
    | none => simp [hh] at h0
    | some o =>
      cases o with
      | cells cs e fz =>
        refine ⟨b, off, cs, e, fz, (k :: ks).length, rfl, hh, mut0, ?_, rel_rows (ks := k :: ks) _ _ (fun r hr => ?_) fun i r hi j x hj => ?_⟩
        · intro r hr
          obtain ⟨r', hr', rfl⟩ := List.mem_map.1 hr
          obtain ⟨i, hi⟩ := List.getElem?_of_mem hr'
          rw [List.length_map]
          exact (hc i r' hi).length
        · obtain ⟨i, hi⟩ := List.getElem?_of_mem hr
          exact hc i r hi
        · have := hcell' i r hi j x hj
          rw [hh] at this
          rw [List.getElem?_drop]
          simpa using this
      | _ => simp [hh] at h0
theorem i64_wf {n : Int} (h : (Lit.int .i64 n).wf = true) : -9223372036854775808 ≤ n ∧ n ≤ 9223372036854775807 := by
  have e1 : IntKind.i64.min = -9223372036854775808 := rfl
  have e2 : IntKind.i64.max = 9223372036854775807 := rfl
  simpa [Lit.wf, e1, e2] using h
theorem u8_wf {n : Int} (h : (Lit.int .u8 n).wf = true) : 0 ≤ n ∧ n ≤ 255 := by
  have e1 : IntKind.u8.min = 0 := rfl
  have e2 : IntKind.u8.max = 255 := rfl
  simpa [Lit.wf, e1, e2] using h
theorem u16_wf {n : Int} (h : (Lit.int .u16 n).wf = true) : 0 ≤ n ∧ n ≤ 65535 := by
  have e1 : IntKind.u16.min = 0 := rfl
  have e2 : IntKind.u16.max = 65535 := rfl
  simpa [Lit.wf, e1, e2] using h
end Go.Proofs.Yteakfibolfapiaa.Ab
