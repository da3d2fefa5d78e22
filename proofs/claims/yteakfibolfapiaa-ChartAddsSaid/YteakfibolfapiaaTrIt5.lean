/- A chart's list. -/
import Derived.Test.YteakfibolfapiaaTrIt4
import Derived.Test.YteakfibolfapiaaSrt
import Derived.Shelf.SlSortCmp.NoneTotal
namespace Go.Proofs.Yteakfibolfapiaa.It
open Go Go.RowKit Go.Maps Go.Sort Go.Shelf
set_option linter.unusedVariables false
set_option linter.unusedSimpArgs false
theorem sortAt : SortAt := fun blk off cap d w hH hblk hsz =>
  AnyQ.slices_SortFunc Try.sortAcc 3 Try.isAgg31 Try.sizeOf31 encL (fun _ => rfl) (fun x v hv => by simp [encL] at hv; rcases hv with rfl | rfl | rfl <;> rfl) (fun x y => Lib.compareInt x.c y.c) swoC 44 #[] blk off cap d w
    (enters_of Try.func44 (by kernel_rfl) rfl) (cmpLays blk off d.size w) hH hblk hsz
theorem noneAt : NoneAt := fun p cap w => AnyF.slices_SortFunc_none Try.sortAcc p cap _ w
set_option maxRecDepth 100000 in
set_option maxHeartbeats 1000000 in
theorem C_List (bi bj : Nat) (m : ML) (hm0 : gC m) (hml : m.length ≤ 1000) (w : World) (hm : w.cell? ⟨bi, 0, none⟩ = some (.map (some bj))) (hown : Mk.IMap .i64 w bj m) :
    Calls Try.prog 10 #[.pointer (some ⟨bi, 0, none⟩)] w fun e w' =>
      ∃ (v : Value) (xs : List Acc), e = .returned v ∧ (xs.map pr).Perm m ∧ (xs.Pairwise fun x y => x.c ≤ y.c) ∧ w'.ownsRow w.heap.size 31 3 v xs.length (cellsA xs) ∧ RowKit.Below w.heap.size w w' := by
  have hb1 : RowKit.Below w.heap.size w (w.alloc (Obj.cells #[.map (some bj)] 96)) := (RowKit.Below.refl _ w).alloc (Nat.le_refl _) _
  have hs := sortedFunc sortAt noneAt w.heap.size bj m hm0 hml (w.alloc (Obj.cells #[.map (some bj)] 96)) (by simp) (by simp) (hown.keep hb1)
  go_enter Try.func10, Try.ntmps10
  go_wp2_with (first
    | (go_at_call 43; refine (values bj w).mono ?_; rintro e w1 ⟨rfl, rfl⟩)
    | (go_at_call 42; refine hs.mono ?_; rintro e w2 ⟨v, xs, rfl, h1, h2, h3, h4⟩))
  go_ret
  refine ⟨v, xs, rfl, h1, h2, ⟨h3.1, ?_⟩, hb1.trans (h4.mono (by simp))⟩
  rcases h3.2 with h | ⟨g, cap, cur, hv, hbg, rest⟩
  · exact .inl h
  · exact .inr ⟨g, cap, cur, hv, by simp at hbg; omega, rest⟩
end Go.Proofs.Yteakfibolfapiaa.It
