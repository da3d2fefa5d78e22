/- ShiftKeeps, the plain law: what stands in the law's variables, act by act. -/
import Derived.Test.YtjkfkgpdlflbhaaTrShiftWakes
import Derived.Test.YtjkfkgpdlflbhaaTrMaps
namespace Go.Proofs.Ytjkfkgpdlflbhaa
open Tr (IL look put)
set_option linter.unusedVariables false
set_option linter.unusedSimpArgs false

def B40 : Int := 1099511627776
/-- i acts were done: the shifts, the sums of the open one, the totals of all closed ones. -/
def KInv (i : Nat) (x : Sh) (sm ct : Int) (Ts : List Tot) : Prop :=
  x.ok ∧ x.keep = 6 ∧ x.lastN = Ts.length ∧ x.cl = Ts.drop (Ts.length - 6) ∧ Ts.length ≤ i ∧ (0 ≤ sm ∧ sm ≤ i * B40) ∧ (0 ≤ ct ∧ ct ≤ i) ∧
  (x.op = true → x.now.s + x.now.v + x.now.r + x.now.i + x.now.o = sm ∧ x.now.n = ct) ∧ i ≤ 60
theorem KInv.start0 : KInv 0 ⟨6, 1, false, .zero, []⟩ 0 0 [] := by
  unfold KInv Sh.ok Tot.ok Amt Sh.lastN Tot.zero B40; simp

theorem KInv.start {i : Nat} {x : Sh} {sm ct : Int} {Ts : List Tot} (h : KInv i x sm ct Ts) (hi : i < 60) :
    (x.start.2.2 = 0 ∧ KInv (i + 1) x.start.1 0 0 Ts) ∨ (x.start.2.2 = 20 ∧ KInv (i + 1) x.start.1 sm ct Ts) := by
  obtain ⟨ho, hk, hl, hcl, hT, hsm, hct, hop, -⟩ := h
  obtain ⟨keep, next, op, now, cl⟩ := x
  dsimp only at *
  cases op with
  | true =>
    right
    refine ⟨by simp [Sh.start], ?_⟩
    rw [show (Sh.start ⟨keep, next, true, now, cl⟩).1 = ⟨keep, next, true, now, cl⟩ by simp [Sh.start]]
    exact ⟨ho, hk, hl, hcl, by omega, ⟨hsm.1, by unfold B40 at *; omega⟩, ⟨hct.1, by omega⟩, hop, by omega⟩
  | false =>
    left
    have hn : ¬ 4294967295 < next := by
      have : next - 1 = Ts.length := by simpa [Sh.lastN] using hl
      omega
    have e : Sh.start ⟨keep, next, false, now, cl⟩ = (⟨keep, next + 1, true, .zero, cl⟩, next, 0) := by simp [Sh.start, hn]
    rw [e]
    refine ⟨rfl, ?_, hk, ?_, hcl, by omega, ⟨by omega, by unfold B40; omega⟩, ⟨by omega, by omega⟩, fun _ => by simp [Tot.zero], by omega⟩
    · obtain ⟨h1, h2, h3, h4, h5, h6⟩ := ho
      refine ⟨h1, ?_, Tot.zero_ok, h4, h5, ?_⟩
      · dsimp only at *; omega
      · simp at h6 ⊢; omega
    · simp [Sh.lastN] at hl ⊢; omega

theorem KInv.stop {i : Nat} {keep next : Int} {now : Tot} {cl : List Tot} {sm ct : Int} {Ts : List Tot} (h : KInv i ⟨keep, next, true, now, cl⟩ sm ct Ts) (hi : i < 60) :
    next - 1 = Ts.length + 1 ∧ KInv (i + 1) ⟨keep, next, false, now, (cl ++ [now]).drop (cl.length + 1 - keep.toNat)⟩ sm ct (Ts ++ [now]) := by
  obtain ⟨ho, hk, hl, hcl, hT, hsm, hct, hop, -⟩ := h
  dsimp only at *
  subst hk
  have hn : next - 2 = Ts.length := by simpa [Sh.lastN] using hl
  have hcll : cl.length = min Ts.length 6 := by rw [hcl, List.length_drop]; omega
  refine ⟨by omega, ?_, rfl, ?_, ?_, ?_, ⟨hsm.1, by unfold B40 at *; omega⟩, ⟨hct.1, by omega⟩, (fun h => by cases h), by omega⟩
  · obtain ⟨h1, h2, h3, h4, h5, h6⟩ := ho
    dsimp only at *
    refine ⟨h1, h2, h3, ?_, ?_, ?_⟩
    · intro t ht
      dsimp only at ht
      rcases List.mem_append.1 (List.mem_of_mem_drop ht) with ht | ht
      · exact h4 t ht
      · simp at ht; subst ht; exact h3
    · simp; omega
    · simp; omega
  · simp [Sh.lastN]; omega
  · dsimp only
    rw [hcl, List.length_drop, List.length_append, List.length_singleton]
    have e6 : (6 : Int).toNat = 6 := rfl
    rw [e6]
    by_cases h6 : Ts.length < 6
    · rw [show Ts.length - 6 = 0 by omega, show Ts.length + 1 - 6 = 0 by omega, show Ts.length - 0 + 1 - 6 = 0 by omega]; simp
    · rw [show Ts.length - (Ts.length - 6) + 1 - 6 = 1 by omega, show Ts.length + 1 - 6 = (Ts.length - 6) + 1 by omega]
      rw [← List.drop_append_of_le_length (by omega), List.drop_drop]
  · simp; omega

theorem KInv.add {i : Nat} {x : Sh} {sm ct : Int} {Ts : List Tot} (h : KInv i x sm ct Ts) (hi : i < 60) (k : Nat) (hk : 1 ≤ k ∧ k ≤ 5) (a : Int) (ha : 0 ≤ a ∧ a < B40) :
    ((x.add k a).2 = 0 ∧ KInv (i + 1) (x.add k a).1 (sm + a) (ct + 1) Ts) ∨ ((x.add k a).2 = 20 ∧ KInv (i + 1) (x.add k a).1 sm ct Ts) := by
  obtain ⟨ho, hkp, hl, hcl, hT, hsm, hct, hop, -⟩ := h
  obtain ⟨keep, next, op, now, cl⟩ := x
  have hbad : ¬ (k < 1 ∨ 6 < k ∨ a < 0) := by omega
  cases op with
  | false =>
    right
    have e : Sh.add ⟨keep, next, false, now, cl⟩ k a = (⟨keep, next, false, now, cl⟩, 20) := by unfold Sh.add; rw [if_neg hbad, if_pos rfl]
    rw [e]
    exact ⟨rfl, ho, hkp, hl, hcl, by omega, ⟨hsm.1, by unfold B40 at *; omega⟩, ⟨hct.1, by omega⟩, hop, by omega⟩
  | true =>
    left
    obtain ⟨hs, hn⟩ := hop rfl
    obtain ⟨n, s, v, r, io, o⟩ := now
    obtain ⟨h1, h2, ⟨h30, h31, h32, h33, h34, h35⟩, h4, h5, h6⟩ := ho
    unfold Amt at *
    unfold B40 at *
    dsimp only at *
    have hov : ¬ (k ≤ 5 ∧ 9223372036854775807 < (Tot.mk n s v r io o).get k + a) := by
      have : k = 1 ∨ k = 2 ∨ k = 3 ∨ k = 4 ∨ k = 5 := by omega
      rcases this with rfl | rfl | rfl | rfl | rfl <;> simp only [Tot.get] <;> omega
    have e : Sh.add ⟨keep, next, true, ⟨n, s, v, r, io, o⟩, cl⟩ k a = (⟨keep, next, true, { (Tot.mk n s v r io o).put k (Tot.get ⟨n, s, v, r, io, o⟩ k + a) with n := n + 1 }, cl⟩, 0) := by
      unfold Sh.add
      rw [if_neg hbad, if_neg (by simp), if_neg (by dsimp only; omega), if_neg hov]
    rw [e]
    refine ⟨rfl, ⟨h1, h2, ?_, h4, h5, h6⟩, hkp, hl, hcl, by omega, ⟨by omega, by unfold B40; omega⟩, ⟨by omega, by omega⟩, fun _ => ?_, by omega⟩
    · have : k = 1 ∨ k = 2 ∨ k = 3 ∨ k = 4 ∨ k = 5 := by omega
      unfold Tot.ok Amt
      rcases this with rfl | rfl | rfl | rfl | rfl <;> simp only [Tot.get, Tot.put] <;> omega
    · have : k = 1 ∨ k = 2 ∨ k = 3 ∨ k = 4 ∨ k = 5 := by omega
      rcases this with rfl | rfl | rfl | rfl | rfl <;> simp only [Tot.get, Tot.put] <;> omega

theorem KInv.totals {i : Nat} {x : Sh} {sm ct : Int} {Ts : List Tot} (h : KInv i x sm ct Ts) (j : Nat) (hj : j < Ts.length) :
    x.totals (j + 1) = if Ts.length - (j + 1) < 6 then (Ts.getD j .zero, true) else (.zero, false) := by
  obtain ⟨ho, hk, hl, hcl, hT, -⟩ := h
  have hcll : x.cl.length = min Ts.length 6 := by rw [hcl, List.length_drop]; omega
  unfold Sh.totals
  have hopn : ((j : Int) + 1) ≠ x.openN := by
    unfold Sh.openN; unfold Sh.lastN at hl
    split at hl <;> simp_all <;> omega
  rw [if_neg (by omega), if_neg hopn]
  have hat : x.at_ (j + 1) = x.cl.length - 1 - (Ts.length - (j + 1)) := by unfold Sh.at_; rw [hl]
  by_cases hlt : Ts.length - (j + 1) < 6
  · rw [if_pos hlt, if_pos (by rw [hat]; omega)]
    congr 1
    have e : (x.at_ (j + 1)).toNat = j - (Ts.length - 6) := by rw [hat]; omega
    rw [e, hcl]
    simp only [List.getD]
    rw [List.getElem?_drop, show Ts.length - 6 + (j - (Ts.length - 6)) = j by omega]
  · rw [if_neg hlt, if_neg (by rw [hat]; omega)]

/-- What stands in the map. -/
def closed (Ts : List Tot) : IL := Ts.mapIdx fun j t => ((j : Int) + 1, t.val)
theorem closed_len (Ts : List Tot) : (closed Ts).length = Ts.length := by simp [closed]
theorem closed_mem {Ts : List Tot} {p : Int × Value} (h : p ∈ closed Ts) : ∃ j, j < Ts.length ∧ p = ((j : Int) + 1, (Ts.getD j .zero).val) := by
  obtain ⟨j, hj, rfl⟩ := List.getElem_of_mem h
  have hj' : j < Ts.length := by simpa [closed] using hj
  refine ⟨j, hj', ?_⟩
  simp [closed, List.getD, hj']
theorem closed_put (Ts : List Tot) (t : Tot) : put (closed Ts) ((Ts.length : Int) + 1) t.val = closed (Ts ++ [t]) := by
  have hn : (closed Ts).findIdx? (·.1 == (Ts.length : Int) + 1) = none := by
    rw [List.findIdx?_eq_none_iff]
    intro p hp
    obtain ⟨j, hj, rfl⟩ := closed_mem hp
    simp; omega
  unfold put
  rw [hn]
  simp [closed, List.mapIdx_append]
end Go.Proofs.Ytjkfkgpdlflbhaa
