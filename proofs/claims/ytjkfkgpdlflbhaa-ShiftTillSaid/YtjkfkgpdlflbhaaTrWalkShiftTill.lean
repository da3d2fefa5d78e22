/- ShiftTill: what should be in a till is the document's. -/
import Derived.Test.YtjkfkgpdlflbhaaTrShiftWakes
import Derived.Test.YtjkfkgpdlflbhaaTrRefTill
import Derived.Test.YtjkfkgpdlflbhaaTrSayShiftTill
namespace Go.Proofs.Ytjkfkgpdlflbhaa
open Go.RowKit Go.Sort
set_option linter.unusedVariables false
set_option linter.unusedSimpArgs false
set_option maxRecDepth 100000 in
set_option maxHeartbeats 4000000 in
theorem walk_ShiftTill : SayShiftTill := by
  rintro n c1 w hn ⟨_, _, rfl, ⟨s, rfl, hs⟩, _, _, rfl, ⟨v, rfl, hv⟩, _, _, rfl, ⟨r, rfl, hr⟩, _, _, rfl, ⟨i, rfl, hi⟩, _, _, rfl, ⟨o, rfl, ho⟩, rfl⟩
  replace hs : I64 s := bounds_i64 hs
  replace hv : I64 v := bounds_i64 hv
  replace hr : I64 r := bounds_i64 hr
  replace hi : I64 i := bounds_i64 hi
  replace ho : I64 o := bounds_i64 ho
  have HS := Lib.hid hs; have HV := Lib.hid hv; have HR := Lib.hid hr; have HI := Lib.hid hi; have HO := Lib.hid ho
  clear hs hv hr hi ho hn
  show Calls Try.prog 8 #[.int .i64 n, .agg #[.int .i64 s, .int .i64 v, .int .i64 r, .int .i64 i, .int .i64 o]] w _
  go_enter Try.func8, Try.ntmps8
  go_wp2_with fail
  refine (C_Till n s v r i o HS.out HV.out HR.out HI.out HO.out _).mono ?_
  rintro e w1 ⟨rfl, hb1⟩
  have b1 := Tr.blk_keep (b := w.heap.size + 1) hb1 (Tr.blk_at (by simp))
  have c1 := fun o => Tr.cell_blk (o := o) b1
  have hB1 := Tr.below_trans (Tr.below_alloc (Tr.below_alloc (Below.refl w.heap.size w) (Nat.le_refl _)) (Nat.le_refl _)) hb1
  clear b1 hb1
  go_wp2_with fail
  refine (C_of26 ⟨n, s, v, r, i, o⟩ _).mono ?_
  rintro e w2 ⟨rfl, hb2⟩
  unfold Tot.val
  have hB2 := Tr.below_trans hB1 hb2
  go_wp2_with fail
  refine (C_RTill n s v r i o HS.out HV.out HR.out HI.out HO.out _).mono ?_
  rintro e w3 ⟨rfl, hb3⟩
  have hB3 := Tr.below_trans hB2 hb3
  clear c1
  go_wp2_with (go_at_call 22; refine (C_wakes26 _).mono ?_; rintro e w4 ⟨rfl, hb4⟩)
  go_ret
  exact ⟨by simp, Tr.below_trans hB3 hb4⟩
end Go.Proofs.Ytjkfkgpdlflbhaa
