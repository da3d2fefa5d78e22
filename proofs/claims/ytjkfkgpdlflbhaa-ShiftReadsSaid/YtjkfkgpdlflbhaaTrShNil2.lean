/- Shifts that are nil; readers that are; keeps that may not be. -/
import Derived.Test.YtjkfkgpdlflbhaaTrRd4
import Derived.Test.YtjkfkgpdlflbhaaTrShNil
import Derived.Lib.BufferRead
namespace Go.Proofs.Ytjkfkgpdlflbhaa
open Go.RowKit Go.Sort
open Tr (Sl Chg)
set_option linter.unusedVariables false
set_option linter.unusedSimpArgs false

set_option maxRecDepth 100000 in
theorem C_Write_none (g : Nat) (w : World) : Calls Try.prog 35 #[.pointer none, .pointer (some ⟨g, 0, none⟩)] w fun e w' => e = .returned (.tuple #[]) ∧ Below w.heap.size w w' := by
  go_enter Try.func35, Try.ntmps35
  go_wp2_with fail
  refine bodyPost_ret (results_none rfl _ _ _) rfl ?_
  exact ⟨rfl, by (repeat (first | with_reducible assumption | (with_reducible exact Below.refl _ _) | ((with_reducible refine Tr.below_alloc ?_ ?_); rotate_left; focus (first | omega | exact Nat.le_refl _)) | (with_reducible refine Tr.below_drew ?_) | (with_reducible refine Tr.below_drewN ?_) | ((with_reducible refine Tr.below_set ?_ ?_); rotate_left; focus (first | omega | (simp; done) | (simp; omega))) | ((with_reducible refine Tr.below_trans ?_ (by assumption) ?_); rotate_left; focus (first | exact Nat.le_refl _ | omega))))⟩
set_option maxRecDepth 100000 in
theorem C_Start_nil (w : World) : Calls Try.prog 23 #[.pointer none] w fun e w' => e = .returned (.tuple #[.int .i64 0, .int .i64 1]) ∧ Below w.heap.size w w' := by
  go_enter Try.func23, Try.ntmps23
  go_wp2_with fail
  go_ret2
  exact ⟨rfl, by (repeat (first | with_reducible assumption | (with_reducible exact Below.refl _ _) | ((with_reducible refine Tr.below_alloc ?_ ?_); rotate_left; focus (first | omega | exact Nat.le_refl _)) | (with_reducible refine Tr.below_drew ?_) | (with_reducible refine Tr.below_drewN ?_) | ((with_reducible refine Tr.below_set ?_ ?_); rotate_left; focus (first | omega | (simp; done) | (simp; omega))) | ((with_reducible refine Tr.below_trans ?_ (by assumption) ?_); rotate_left; focus (first | exact Nat.le_refl _ | omega))))⟩
set_option maxRecDepth 100000 in
theorem C_Add_nil (w : World) : Calls Try.prog 25 #[.pointer none, .int .u8 1, .int .i64 1] w fun e w' => e = .returned (.int .i64 1) ∧ Below w.heap.size w w' := by
  go_enter Try.func25, Try.ntmps25
  go_wp2_with fail
  go_ret
  exact ⟨rfl, by (repeat (first | with_reducible assumption | (with_reducible exact Below.refl _ _) | ((with_reducible refine Tr.below_alloc ?_ ?_); rotate_left; focus (first | omega | exact Nat.le_refl _)) | (with_reducible refine Tr.below_drew ?_) | (with_reducible refine Tr.below_drewN ?_) | ((with_reducible refine Tr.below_set ?_ ?_); rotate_left; focus (first | omega | (simp; done) | (simp; omega))) | ((with_reducible refine Tr.below_trans ?_ (by assumption) ?_); rotate_left; focus (first | exact Nat.le_refl _ | omega))))⟩
set_option maxRecDepth 100000 in
set_option maxHeartbeats 2000000 in
theorem C_ShRead_keep (p : Option Addr) (keep : Int) (hk : keep < 1 ∨ 64 < keep) (w : World) : Calls Try.prog 40 #[.pointer p, .int .i64 keep] w fun e w' => e = .returned (.tuple #[.pointer none, .int .i64 2]) ∧ Below w.heap.size w w' := by
  have hN := C_New_no keep hk w
  have HN := Lib.hid hN
  clear hN hk
  go_enter Try.func40, Try.ntmps40
  go_wp2_with (go_at_call 21; refine HN.out.mono ?_; rintro e w1 ⟨rfl, hb1⟩)
  go_ret2
  exact ⟨rfl, hb1⟩
set_option maxRecDepth 100000 in
set_option maxHeartbeats 2000000 in
theorem C_ShRead_nil (w : World) : Calls Try.prog 40 #[.pointer none, .int .i64 3] w fun e w' => e = .returned (.tuple #[.pointer none, .int .i64 4]) ∧ Below w.heap.size w w' := by
  go_enter Try.func40, Try.ntmps40
  go_wp2_with (first
    | (go_at_call 59; have hk := C_RdNumber_nil 1 w3 (by omega) (by omega); refine Calls.mono hk ?_; rintro e w4 ⟨rfl, hb4⟩)
    | (go_at_call 59; have hk := C_RdNumber_nil 1 w2 (by omega) (by omega); refine Calls.mono hk ?_; rintro e w3 ⟨rfl, hb3⟩)
    | (go_at_call 59; have hk := C_RdNumber_nil 5 w1 (by omega) (by omega); refine Calls.mono hk ?_; rintro e w2 ⟨rfl, hb2⟩)
    | (go_at_call 21; refine (C_New_yes 3 (by omega) (by omega) w).mono ?_; rintro e w1 ⟨rfl, -, hb1⟩)
    | fail)
  go_ret2
  exact ⟨rfl, Tr.below_trans (Tr.below_trans (Tr.below_trans hb1 hb2) hb3) hb4⟩
set_option maxRecDepth 100000 in
set_option maxHeartbeats 1000000 in
theorem C_Bytes_empty (g : Nat) (w : World) (h : w.heap[g]? = some (.cells #[.slice none 0 0, .bool false] 84 (0, 0))) :
    Calls Try.prog 36 #[.pointer (some ⟨g, 0, none⟩)] w fun e w' => e = .returned (.tuple #[.string ⟨#[]⟩, .int .i64 0]) ∧ Below w.heap.size w w' := by
  have hconv : ∀ W : World, (convert 42 9 (.slice none 0 0)).run Try.prog W = .ok (.string ⟨#[]⟩) W := fun W => Go.Lib.run_convert_nil_bytes (P := Try.prog) W 42 9 5 0 Try.underlying42 Try.underlying5 Try.underlying9
  have hc := fun o => Tr.cell_blk (o := o) h
  clear h
  go_enter Try.func36, Try.ntmps36
  go_wp2_with fail
  go_ret2
  exact ⟨rfl, by (repeat (first | with_reducible assumption | (with_reducible exact Below.refl _ _) | ((with_reducible refine Tr.below_alloc ?_ ?_); rotate_left; focus (first | omega | exact Nat.le_refl _)) | (with_reducible refine Tr.below_drew ?_) | (with_reducible refine Tr.below_drewN ?_) | ((with_reducible refine Tr.below_set ?_ ?_); rotate_left; focus (first | omega | (simp; done) | (simp; omega))) | ((with_reducible refine Tr.below_trans ?_ (by assumption) ?_); rotate_left; focus (first | exact Nat.le_refl _ | omega))))⟩
end Go.Proofs.Ytjkfkgpdlflbhaa
