/- The reference of the amounts: halves, and back. -/
import Derived.Test.YtjkfkgpdlflbhaaDoorTrCents
namespace Go.Proofs.YtjkfkgpdlflbhaaDoor
open Go.RowKit Go.Sort
set_option linter.unusedVariables false
set_option linter.unusedSimpArgs false
set_option maxRecDepth 100000 in
set_option maxHeartbeats 1000000 in
theorem C_Half (a : Int) (ha : I64 a) (w : World) :
    Calls Tryd.prog 22 #[.int .i64 a] w fun e w' => e = .returned (.agg #[.int .i64 (a.tdiv 1000000000), .int .i64 (a.tmod 1000000000)]) ∧ Below w.heap.size w w' := by
  unfold I64 at ha
  go_enter Tryd.func22, Tryd.ntmps22
  go_wp2_with fail
  refine bodyPost_ret (Tr.results_run [.cell 2 66] [_] rfl ⟨_, _, rfl, ⟨_, rfl, Tr.load_blk (Tr.blk_at (by simp)) Tryd.underlying66 rfl (by kernel_rfl)⟩, rfl⟩ _ rfl) rfl ⟨rfl, ?_⟩
  (repeat (first | with_reducible assumption | (with_reducible exact Below.refl _ _) | ((with_reducible refine Tr.below_alloc ?_ ?_); rotate_left; focus (first | omega | exact Nat.le_refl _)) | (with_reducible refine Tr.below_drew ?_) | (with_reducible refine Tr.below_drewN ?_) | ((with_reducible refine Tr.below_set ?_ ?_); rotate_left; focus (first | omega | (simp; done) | (simp; omega))) | ((with_reducible refine Tr.below_trans ?_ (by assumption) ?_); rotate_left; focus (first | exact Nat.le_refl _ | omega))))
theorem half_facts (h : Int) : h = 1000000000 * h.tdiv 1000000000 + h.tmod 1000000000 ∧ (0 ≤ h → 0 ≤ h.tmod 1000000000 ∧ h.tmod 1000000000 < 1000000000 ∧ 0 ≤ h.tdiv 1000000000) ∧
    (h ≤ 0 → h.tmod 1000000000 ≤ 0 ∧ -1000000000 < h.tmod 1000000000 ∧ h.tdiv 1000000000 ≤ 0) := by
  have e := (Int.mul_tdiv_add_tmod h 1000000000).symm
  refine ⟨e, fun h0 => ?_, fun h0 => ?_⟩
  · rw [Int.tmod_eq_emod_of_nonneg h0, Int.tdiv_eq_ediv_of_nonneg h0]; omega
  · obtain ⟨k, rfl⟩ : ∃ k, h = -k := ⟨-h, by omega⟩
    rw [Int.neg_tmod, Int.neg_tdiv, Int.tmod_eq_emod_of_nonneg (by omega), Int.tdiv_eq_ediv_of_nonneg (by omega)]; omega
/-- What the end tells is the sum, or that it is none. -/
theorem back_in (h0 h1 q r a b : Int) (e : h1 = 1000000000 * q + r) (hs : a * 1000000000 + b = h0 * 1000000000 + h1) (hb : (0 ≤ a → 0 ≤ b ∨ a = 0) ∧ (a ≤ 0 → b ≤ 0 ∨ a = 0)) (hr : -1000000000 < b ∧ b < 1000000000)
    (hn : ¬ (9223372036 < a ∨ a < -9223372036 ∨ (a = 9223372036 ∧ 854775807 < b) ∨ (a = -9223372036 ∧ b < -854775808))) :
    amt (h0 * 1000000000 + h1) = a * 1000000000 + b ∧ amtE (h0 * 1000000000 + h1) = 0 := by
  have : I64 (h0 * 1000000000 + h1) := by unfold I64; omega
  rw [(amt_yes this).1, (amt_yes this).2]; exact ⟨hs.symm, rfl⟩
theorem back_out (h0 h1 a b : Int) (hs : a * 1000000000 + b = h0 * 1000000000 + h1) (hb : (0 < a → 0 ≤ b) ∧ (a < 0 → b ≤ 0))
    (hn : (9223372036 < a ∨ a < -9223372036 ∨ (a = 9223372036 ∧ 854775807 < b) ∨ (a = -9223372036 ∧ b < -854775808))) :
    amt (h0 * 1000000000 + h1) = 0 ∧ amtE (h0 * 1000000000 + h1) = 6 := by
  have : ¬ I64 (h0 * 1000000000 + h1) := by unfold I64; omega
  exact amt_no this
theorem ret_amt {V x y : Int} (h : amt V = x ∧ amtE V = y) : Ending.returned (.tuple #[.int .i64 x, .int .i64 y]) = .returned (.tuple #[.int .i64 (amt V), .int .i64 (amtE V)]) := by rw [h.1, h.2]
theorem amt_is (V x : Int) (h : x = V) (g : -9223372036854775808 ≤ V ∧ V ≤ 9223372036854775807) : amt V = x ∧ amtE V = 0 := by rw [h]; exact amt_yes g
set_option maxRecDepth 100000 in
set_option maxHeartbeats 4000000 in
theorem C_Back (h0 h1 : Int) (a0 : -1152921504606846976 ≤ h0) (a1 : h0 ≤ 1152921504606846976) (b0 : -1152921504606846976 ≤ h1) (b1 : h1 ≤ 1152921504606846976) (w : World) :
    Calls Tryd.prog 23 #[.agg #[.int .i64 h0, .int .i64 h1]] w fun e w' => e = .returned (.tuple #[.int .i64 (amt (h0 * 1000000000 + h1)), .int .i64 (amtE (h0 * 1000000000 + h1))]) ∧ Below w.heap.size w w' := by
  obtain ⟨e, hp, hn⟩ := half_facts h1
  have q0 : -1152921505 ≤ h1.tdiv 1000000000 := by omega
  have q1 : h1.tdiv 1000000000 ≤ 1152921505 := by omega
  have r0 : -1000000000 < h1.tmod 1000000000 := by omega
  have r1 : h1.tmod 1000000000 < 1000000000 := by omega
  have E := Lib.hid e; have HP := Lib.hid hp; have HNN := Lib.hid hn
  clear e hp hn
  go_enter Tryd.func23, Tryd.ntmps23
  go_wp2_with fail
  all_goals
    go_ret2
    refine ⟨?_, by (repeat (first | with_reducible assumption | (with_reducible exact Below.refl _ _) | ((with_reducible refine Tr.below_alloc ?_ ?_); rotate_left; focus (first | omega | exact Nat.le_refl _)) | (with_reducible refine Tr.below_drew ?_) | (with_reducible refine Tr.below_drewN ?_) | ((with_reducible refine Tr.below_set ?_ ?_); rotate_left; focus (first | omega | (simp; done) | (simp; omega))) | ((with_reducible refine Tr.below_trans ?_ (by assumption) ?_); rotate_left; focus (first | exact Nat.le_refl _ | omega))))⟩
    have e := E.out
    first
      | (refine ret_amt (back_out h0 h1 (h0 + h1.tdiv 1000000000) (h1.tmod 1000000000) ?_ ?_ ?_) <;> omega)
      | (refine ret_amt (back_out h0 h1 (h0 + h1.tdiv 1000000000 - 1) (h1.tmod 1000000000 + 1000000000) ?_ ?_ ?_) <;> omega)
      | (refine ret_amt (back_out h0 h1 (h0 + h1.tdiv 1000000000 + 1) (h1.tmod 1000000000 - 1000000000) ?_ ?_ ?_) <;> omega)
      | (refine ret_amt (amt_is (h0 * 1000000000 + h1) _ ?_ ?_) <;> omega)
end Go.Proofs.YtjkfkgpdlflbhaaDoor
