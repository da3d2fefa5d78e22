/- Books: totals of lists, the calls' contracts. -/
import Derived.Test.YteakfibolfapiaaTrBk1
import Derived.Test.YteakfibolfapiaaTrCents
namespace Go.Proofs.Yteakfibolfapiaa.Ab
open Go Go.RowKit Go.Sort
set_option linter.unusedVariables false
set_option linter.unusedSimpArgs false
set_option maxRecDepth 100000
set_option maxHeartbeats 4000000
theorem iR_len (xs : List Int) : (iR xs).length = xs.length := by simp [iR]
theorem rows_cells {w : World} {M : Nat → Prop} : ∀ (xs : List Int) (vs : List Value), RelRows w M (iR xs) vs → ∀ j, j < xs.length → vs[j]? = some (.int .i64 (xs.getD j 0))
  | [], vs, _, j, hj => by simp at hj
  | x :: xs, vs, h, j, hj => by
    obtain ⟨⟨v, r, hv, hd, -⟩, h2⟩ := h
    obtain hd : v = .int .i64 x := hd
    obtain ⟨a, rest, rfl⟩ : ∃ a rest, vs = a :: rest := by
      cases vs with
      | nil => simp at hv
      | cons a rest => exact ⟨a, rest, rfl⟩
    simp only [List.length_singleton, List.take_succ_cons, List.take_zero, List.cons.injEq] at hv
    obtain ⟨rfl, rfl⟩ := hv
    cases j with
    | zero => simp [hd]
    | succ j =>
      have := rows_cells xs rest h2 j (by simpa using hj)
      simpa using this
theorem ints_of {w : World} {M : Nat → Prop} {xs : List Int} {v : Value} (h : RelD w M (.imm (iR xs)) v) : Ints .i64 w v xs := by
  obtain ⟨a, cap, rfl, hc, h1⟩ := h
  refine ⟨a, cap, by rw [iR_len], fun h0 => ?_⟩
  rcases h1 with h1 | ⟨b, off, cs, e, fz, c, rfl, hb, hm, hl, hr⟩
  · have := iR_len xs
    rw [h1] at this
    simp at this
    omega
  · refine ⟨b, off, rfl, lt_of_get hb, fun j hj => ?_⟩
    have h2 := rows_cells xs _ hr j hj
    rw [List.getElem?_drop] at h2
    simp only [World.cell?, hb]
    simpa using h2
theorem ints_own {w : World} {M : Nat → Prop} {xs : List Int} {v : Value} {cs : List Value} {ty : TypeId} (h : w.ownsRow 0 ty 1 v (iR xs).length cs) (hr : RelRows w M (iR xs) cs) : Ints .i64 w v xs := by
  obtain ⟨hl, h⟩ := h
  rw [iR_len] at h hl
  rcases h with ⟨rfl, h0⟩ | ⟨g, cap, cur, rfl, -, hb, h1, h2, h3, h4⟩
  · refine ⟨none, 0, by rw [h0], fun h => by omega⟩
  · refine ⟨_, cap, rfl, fun h0 => ⟨g, 0, rfl, lt_of_get hb, fun j hj => ?_⟩⟩
    have h5 := rows_cells xs _ hr j hj
    rw [← h4, List.getElem?_take_of_lt (by omega), Array.getElem?_toList] at h5
    simp only [World.cell?, hb]
    simpa using h5
/-- Total of one of the bag's slices, its newest. -/
def S_TotalR (v : Value) (K : CallK) (n : Nat) (h : Hp) : Prop := match bagOf h with
  | some (id, c, p :: L) => Nd (fun _ => c = 1 ∧ p.1 = v ∧ ∃ xs, p.2 = iR xs ∧ xs.length ≤ 100000 ∧ ∀ x ∈ xs, I64 x) ∧ Al (fun q : Int × Int => ∃ xs, p.2 = iR xs ∧ q = (amt xs.sum, amtE xs.sum)) fun q => K (.tup [.d (.int .i64 q.1), .d (.int .i64 q.2)]) n h
  | _ => False
theorem L_TotalR {v : Value} {n : Nat} {h : Hp} {K : CallK} (hK : S_TotalR v K n h) : CallE Try.prog 49 [.raw v] n h K := by
  unfold S_TotalR at hK
  split at hK
  · rename_i id c p L hbg
    obtain ⟨⟨rfl, rfl, xs, hp, hl, hx⟩, hk⟩ := hK
    refine .enter _ Try.func49 (by kernel_rfl) (by kernel_rfl) (fun ρ w vs r a => ?_)
    obtain ⟨v0, rest, rfl, ⟨rfl, -⟩, hrest⟩ := a
    obtain rfl : rest = [] := hrest
    obtain ⟨vs, h1, h2, h3, h4, h5⟩ := r.objs _ _ (bagOf_mem hbg)
    obtain ⟨cs, ty, g1, g2, g3⟩ := h4 p (by simp)
    rw [hp] at g1 g3
    refine (C_Total _ xs w (ints_own g1 g3) hx (by omega)).mono ?_
    rintro e w' ⟨rfl, hb⟩
    have hg : Grows w w' := fun b o hbo => by rw [hb.block b (lt_of_get hbo)]; exact hbo
    exact ⟨_, rfl, _, ρ, n, h, hk.h _ ⟨xs, hp, rfl⟩, r.grow hg, Nat.le_refl _, by simp [RelVs, RelV, RelD], goes_grow hg hb.os hb.tape hb.output hb.size⟩
  · exact hK.elim
theorem call_old3 {P : Program} {n : Nat} {h : Hp} {f : Nat} {fn : Func} {args : List AV} {Q : World → List Value → Prop} {av : AV} {v : Value} {K : CallK} (hf : P.funcs[f]? = some fn) (hn : (fn.name == "runtime.NumGoroutine") = false) (hb : fn.body.isNone = false)
    (ha : ∀ ρ w M vs, RelVs ρ w M args vs → Q w vs) (hv : ∀ ρ w M, RelV ρ w M av v) (hc : ∀ w vs, J w → Q w vs → Calls P f vs.toArray w fun e w' => e = .returned v ∧ Below w.heap.size w w') (hK : K av n h) : CallE P f args n h K := by
  refine .enter fn hf hn hb (fun ρ w vs hr hvs => ?_)
  refine Calls.mono (hc w vs hr.old.inv (ha _ _ _ _ hvs)) ?_
  rintro e w' ⟨rfl, hb⟩
  have hg : Grows w w' := fun b o hbo => by rw [hb.block b (lt_of_get hbo)]; exact hbo
  exact ⟨_, rfl, av, ρ, n, h, hK, hr.grow hg, Nat.le_refl _, hv _ _ _, goes_grow hg hb.os hb.tape hb.output hb.size⟩
/-- Total of a list that stays. -/
def S_Total (l : List (List D)) (K : CallK) (n : Nat) (h : Hp) : Prop := Nd (fun _ => ∃ xs, l = iR xs ∧ xs.length ≤ 100000 ∧ ∀ x ∈ xs, I64 x) ∧ Al (fun q : Int × Int => ∃ xs, l = iR xs ∧ q = (amt xs.sum, amtE xs.sum)) fun q => K (.tup [.d (.int .i64 q.1), .d (.int .i64 q.2)]) n h
theorem L_Total {l : List (List D)} {n : Nat} {h : Hp} {K : CallK} (hK : S_Total l K n h) : CallE Try.prog 49 [.d (.imm l)] n h K := by
  obtain ⟨⟨xs, rfl, hl, hx⟩, hk⟩ := hK
  exact call_old3 (Q := fun w vs => ∃ v, vs = [v] ∧ Ints .i64 w v xs) (v := .tuple #[.int .i64 (amt xs.sum), .int .i64 (amtE xs.sum)]) Try.func49 (by kernel_rfl) (by kernel_rfl)
    (by rintro ρ w M vs ⟨v, r, rfl, h1, rfl⟩; exact ⟨v, rfl, ints_of h1⟩) (by intro ρ w M; simp [RelVs, RelV, RelD]) (by rintro w vs hJ ⟨v, rfl, hi⟩; exact C_Total v xs w hi hx (by omega)) (hk.h _ ⟨xs, rfl, rfl⟩)
/-! the contracts -/
def S_amounts (r : List (List D)) (K : CallK) (n : Nat) (h : Hp) : Prop := Nd (fun _ => ∃ qs, r = lnR qs ∧ qs.length ≤ 1000) ∧
  Al (fun p : ML × Bag => ∃ qs, r = lnR qs ∧ AMP p.1 p.2 qs) fun p => K (.map n) (n + 2) (h ++ [(n + 1, .bag 1 p.2), (n, .mp .i64 p.1)])
theorem L_amounts {r : List (List D)} {n : Nat} {h : Hp} {K : CallK} (hK : S_amounts r K n h) : CallE Try.prog 48 [.d (.imm r)] n h K := by
  obtain ⟨⟨qs, hr, hl⟩, hk⟩ := hK
  refine call_frame (g := fun i => i) (CallE.fin (K_amounts0 r qs hr hl)) rfl rfl (fun i j hi => absurd hi (Nat.not_lt_zero _)) (fun i hi => absurd hi (Nat.not_lt_zero _)) (fun i o hm => by cases hm) (by intro j hj; cases hj) ?_
  rintro v n1 h1 - ⟨m, L, hA, rfl, rfl, rfl⟩
  rw [outs_zero]
  have e : n + (2 - 0) = n + 2 := rfl
  have e0 : lift (fun i => i) 0 n 0 = n := by simp [lift]; rfl
  have e1 : lift (fun i => i) 0 n 1 = n + 1 := by simp [lift]; rfl
  simp only [renH, renV, renO, renVs, e0, e1, e]
  exact hk.h (m, L) ⟨qs, hr, hA⟩
def S_Bal (i : Nat) (k : Int) (K : CallK) (n : Nat) (h : Hp) : Prop := pat2 h i fun j m => Nd (fun _ => i < n ∧ j < n ∧ i ≠ j ∧ gB m) ∧ Al (fun z : Int => z = bal m k) fun z => K (.d (.int .i64 z)) n (out2 i j h m)
theorem L_Bal {i n : Nat} {k : Int} {h : Hp} {K : CallK} (hK : S_Bal i k K n h) : CallE Try.prog 17 [.ptr i 0, .d (.int .i64 k)] n h K := by
  obtain ⟨j, m, hg, hg2, ⟨⟨hi, hj, hij, hm⟩⟩, hk⟩ := pat2_elim hK
  refine call_recv2 (CallE.fin (K_Balance0 m hm k)) rfl hi hj hij hg hg2 ?_
  rintro v n1 h1 ⟨rfl, rfl, rfl⟩ -
  exact hk.h _ rfl
def S_set (i : Nat) (k z : Int) (K : CallK) (n : Nat) (h : Hp) : Prop := pat2 h i fun j m => Nd (fun _ => i < n ∧ j < n ∧ i ≠ j ∧ gB m) ∧ Al (fun m' : ML => m' = setM m k z) fun m' => K (.tup []) n (out2 i j h m')
theorem L_set {i n : Nat} {k z : Int} {h : Hp} {K : CallK} (hK : S_set i k z K n h) : CallE Try.prog 50 [.ptr i 0, .d (.int .i64 k), .d (.int .i64 z)] n h K := by
  obtain ⟨j, m, hg, hg2, ⟨⟨hi, hj, hij, hm⟩⟩, hk⟩ := pat2_elim hK
  refine call_recv2 (CallE.fin (K_set0 m hm k z)) rfl hi hj hij hg hg2 ?_
  rintro v n1 h1 ⟨rfl, rfl, rfl⟩ -
  exact hk.h _ rfl
end Go.Proofs.Yteakfibolfapiaa.Ab
