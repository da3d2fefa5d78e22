/- shifts: the law's signs of life. -/
import Derived.Test.YtjkfkgpdlflbhaaDoorTrShift3
namespace Go.Proofs.YtjkfkgpdlflbhaaDoor
open Go.RowKit Go.Sort
open Tr (Sl Chg)
set_option linter.unusedVariables false
set_option linter.unusedSimpArgs false
def W0 : Sh := ⟨2, 1, false, .zero, []⟩
def W1 : Sh := ⟨2, 2, true, .zero, []⟩
def W2 : Sh := ⟨2, 2, true, ⟨1, 500, 0, 0, 0, 0⟩, []⟩
def W3 : Sh := ⟨2, 2, false, ⟨1, 500, 0, 0, 0, 0⟩, [⟨1, 500, 0, 0, 0, 0⟩]⟩
theorem W0_ok : W0.ok := by unfold Sh.ok Tot.ok Amt W0 Tot.zero; simp
theorem W1_ok : W1.ok := by unfold Sh.ok Tot.ok Amt W1 Tot.zero; simp
theorem W2_ok : W2.ok := by unfold Sh.ok Tot.ok Amt W2; simp
theorem W3_ok : W3.ok := by unfold Sh.ok Tot.ok Amt W3; simp
theorem WStart (b : Nat) (w : World) (h : W0.is w b) : Calls Tryd.prog 6 #[.pointer (some ⟨b, 0, none⟩)] w fun e w' => e = .returned (.tuple #[.int .i64 1, .int .i64 0]) ∧ W1.is w' b ∧ Chg b w w' := C_Start b W0 w h W0_ok
theorem WAdd (b : Nat) (w : World) (h : W1.is w b) : Calls Tryd.prog 8 #[.pointer (some ⟨b, 0, none⟩), .int .u8 1, .int .i64 500] w fun e w' => e = .returned (.int .i64 0) ∧ W2.is w' b ∧ Chg b w w' :=
  C_ShAdd b 1 500 W1 w (by omega) (by unfold I64; omega) h W1_ok
theorem WEnd (b : Nat) (w : World) (h : W2.is w b) : Calls Tryd.prog 7 #[.pointer (some ⟨b, 0, none⟩)] w fun e w' => e = .returned (.tuple #[.int .i64 1, .agg #[.int .i64 1, .int .i64 500, .int .i64 0, .int .i64 0, .int .i64 0, .int .i64 0], .int .i64 0]) ∧ W3.is w' b ∧ Chg b w w' :=
  C_End_yes b 2 2 ⟨1, 500, 0, 0, 0, 0⟩ [] w h W2_ok
theorem WTotals (b : Nat) (w : World) (h : W3.is w b) : Calls Tryd.prog 11 #[.pointer (some ⟨b, 0, none⟩), .int .i64 1] w fun e w' => e = .returned (.tuple #[.agg #[.int .i64 1, .int .i64 500, .int .i64 0, .int .i64 0, .int .i64 0, .int .i64 0], .bool true]) ∧ Below w.heap.size w w' :=
  C_Totals b W3 1 (by unfold I64; omega) w h W3_ok
theorem WOpen (b : Nat) (w : World) (h : W3.is w b) : Calls Tryd.prog 9 #[.pointer (some ⟨b, 0, none⟩)] w fun e w' => e = .returned (.int .i64 0) ∧ Below w.heap.size w w' := C_Open b W3 w h W3_ok
set_option maxRecDepth 100000 in
set_option maxHeartbeats 8000000 in
theorem C_wakes26 (w : World) : Calls Tryd.prog 5 #[] w fun e w' => e = .returned (.bool true) ∧ Below w.heap.size w w' := by
  go_enter Tryd.func5, Tryd.ntmps5
  go_wp2_with fail
  refine (C_New_yes 2 (by omega) (by omega) _).mono ?_
  rintro e w1 ⟨rfl, h0, hb1⟩
  have H0 := Lib.hid h0
  clear h0
  go_wp2_with fail
  refine (WStart _ _ H0.out).mono ?_
  rintro e w2 ⟨rfl, h1, hc2⟩
  have hB2 := hc2.below hb1 (Nat.le_refl _) (Nat.le_refl _)
  have H1 := Lib.hid h1
  clear h1 H0
  go_wp2_with fail
  refine (WAdd _ _ H1.out).mono ?_
  rintro e w3 ⟨rfl, h2, hc3⟩
  have hB3 := hc3.below hB2 (Nat.le_refl _) (Nat.le_refl _)
  have H2 := Lib.hid h2
  clear h2 H1
  go_wp2_with fail
  refine (WEnd _ _ H2.out).mono ?_
  rintro e w4 ⟨rfl, h3, hc4⟩
  have hB4 := hc4.below hB3 (Nat.le_refl _) (Nat.le_refl _)
  have H3 := Lib.hid h3
  clear h3 H2 hb1 hc2 hc3 hc4 hB2 hB3
  go_wp2_with fail
  refine (WTotals _ _ (Sh.is_keep H3.out (by (repeat (first | with_reducible assumption | (with_reducible exact Below.refl _ _) | ((with_reducible refine Tr.below_alloc ?_ ?_); rotate_left; focus (first | omega | exact Nat.le_refl _)) | (with_reducible refine Tr.below_drew ?_) | (with_reducible refine Tr.below_drewN ?_) | ((with_reducible refine Tr.below_set ?_ ?_); rotate_left; focus (first | omega | (simp; done) | (simp; omega))) | ((with_reducible refine Tr.below_trans ?_ (by assumption) ?_); rotate_left; focus (first | exact Nat.le_refl _ | omega))))))).mono ?_
  rintro e w5 ⟨rfl, hb5⟩
  have bt := Tr.blk_keep hb5 (Tr.blk_new _ _)
  have ct := fun o => Tr.cell_blk (o := o) bt
  have h5 : W3.is w5 w.heap.size := Sh.is_keep (Sh.is_keep H3.out (by (repeat (first | with_reducible assumption | (with_reducible exact Below.refl _ _) | ((with_reducible refine Tr.below_alloc ?_ ?_); rotate_left; focus (first | omega | exact Nat.le_refl _)) | (with_reducible refine Tr.below_drew ?_) | (with_reducible refine Tr.below_drewN ?_) | ((with_reducible refine Tr.below_set ?_ ?_); rotate_left; focus (first | omega | (simp; done) | (simp; omega))) | ((with_reducible refine Tr.below_trans ?_ (by assumption) ?_); rotate_left; focus (first | exact Nat.le_refl _ | omega)))))) hb5
  have hB5 := Tr.below_trans (Tr.below_alloc hB4 (Nat.le_refl _)) hb5
  have H5 := Lib.hid h5
  have hlt := Tr.blk_lt bt
  clear bt h5 H3 hb5 hB4
  go_wp2_with (go_at_call 9; refine (WOpen _ _ (Sh.is_keep H5.out (by (repeat (first | with_reducible assumption | (with_reducible exact Below.refl _ _) | ((with_reducible refine Tr.below_alloc ?_ ?_); rotate_left; focus (first | omega | exact Nat.le_refl _)) | (with_reducible refine Tr.below_drew ?_) | (with_reducible refine Tr.below_drewN ?_) | ((with_reducible refine Tr.below_set ?_ ?_); rotate_left; focus (first | omega | (simp; done) | (simp; omega))) | ((with_reducible refine Tr.below_trans ?_ (by assumption) ?_); rotate_left; focus (first | exact Nat.le_refl _ | omega))))))).mono ?_; rintro e w6 ⟨rfl, hb6⟩)
  go_ret
  exact ⟨rfl, by (repeat (first | with_reducible assumption | (with_reducible exact Below.refl _ _) | ((with_reducible refine Tr.below_alloc ?_ ?_); rotate_left; focus (first | omega | exact Nat.le_refl _)) | (with_reducible refine Tr.below_drew ?_) | (with_reducible refine Tr.below_drewN ?_) | ((with_reducible refine Tr.below_set ?_ ?_); rotate_left; focus (first | omega | (simp; done) | (simp; omega))) | ((with_reducible refine Tr.below_trans ?_ (by assumption) ?_); rotate_left; focus (first | exact Nat.le_refl _ | omega))))⟩

/-! the law's own words -/
set_option maxRecDepth 100000 in
set_option maxHeartbeats 1000000 in
theorem C_of26 (t : Tot) (w : World) : Calls Tryd.prog 12 #[t.val] w fun e w' => e = .returned t.val ∧ Below w.heap.size w w' := by
  obtain ⟨n, s, v, r, i, o⟩ := t
  unfold Tot.val
  dsimp only
  go_enter Tryd.func12, Tryd.ntmps12
  go_wp2_with fail
  first
    | (go_ret; exact ⟨rfl, by (repeat (first | with_reducible assumption | (with_reducible exact Below.refl _ _) | ((with_reducible refine Tr.below_alloc ?_ ?_); rotate_left; focus (first | omega | exact Nat.le_refl _)) | (with_reducible refine Tr.below_drew ?_) | (with_reducible refine Tr.below_drewN ?_) | ((with_reducible refine Tr.below_set ?_ ?_); rotate_left; focus (first | omega | (simp; done) | (simp; omega))) | ((with_reducible refine Tr.below_trans ?_ (by assumption) ?_); rotate_left; focus (first | exact Nat.le_refl _ | omega))))⟩)
    | (refine bodyPost_ret (Tr.results_run [.cell 2 47] [_] rfl ⟨_, _, rfl, ⟨_, rfl, Tr.load_blk (Tr.blk_at (by simp)) Tryd.underlying47 rfl (by kernel_rfl)⟩, rfl⟩ _ rfl) rfl ⟨rfl, ?_⟩
       (repeat (first | with_reducible assumption | (with_reducible exact Below.refl _ _) | ((with_reducible refine Tr.below_alloc ?_ ?_); rotate_left; focus (first | omega | exact Nat.le_refl _)) | (with_reducible refine Tr.below_drew ?_) | (with_reducible refine Tr.below_drewN ?_) | ((with_reducible refine Tr.below_set ?_ ?_); rotate_left; focus (first | omega | (simp; done) | (simp; omega))) | ((with_reducible refine Tr.below_trans ?_ (by assumption) ?_); rotate_left; focus (first | exact Nat.le_refl _ | omega)))))
end Go.Proofs.YtjkfkgpdlflbhaaDoor
