/- slices.Collect(maps.Values(m)), the comparison of accounts. -/
import Derived.Test.YteakfibolfapiaaTrIt2
import Derived.Test.YteakfibolfapiaaShelf
import Derived.Shelf.SlSortCmp.InsertionK
namespace Go.Proofs.Yteakfibolfapiaa.It
open Go Go.RowKit Go.Maps Go.Sort Go.Shelf
set_option linter.unusedVariables false
set_option linter.unusedSimpArgs false
def encL (a : Acc) : List Value := [.int .i64 a.c, .int .u8 a.k, .string ⟨⟨a.s⟩⟩]
set_option maxHeartbeats 1000000 in
/-- The comparison: by the codes; two blocks are laid. -/
theorem closure (x y : Acc) (W : World) : Calls Try.prog 44 #[.agg #[.int .i64 x.c, .int .u8 x.k, .string ⟨⟨x.s⟩⟩], .agg #[.int .i64 y.c, .int .u8 y.k, .string ⟨⟨y.s⟩⟩]] W fun e w' => e = .returned (.int .i64 (Lib.compareInt x.c y.c)) ∧ ∃ q os', w' = grow (W.drewN q) os' := by
  have hcon := fun W' => Try.cmp_Compare_int x.c y.c W'
  generalize Lib.compareInt x.c y.c = r at hcon ⊢
  go_enter Try.func44, Try.ntmps44
  go_wp2_with (go_at_call 45; refine (hcon _).mono ?_; rintro e w' ⟨rfl, rfl⟩)
  go_ret
  exact ⟨rfl, 0, _, by rw [alloc_eq_grow, alloc_eq_grow, grow_grow]; rfl⟩
theorem cmpLays (blk off size : Nat) (w : World) : CmpLays Try.prog 44 #[] encL 3 (fun x y => Lib.compareInt x.c y.c) blk off size w :=
  fun _ _ _ _ x y => closure x y _
theorem ltC (x y : Acc) : ltOf (fun x y : Acc => Lib.compareInt x.c y.c) x y = decide (x.c < y.c) := by
  unfold ltOf Lib.compareInt
  by_cases h1 : x.c < y.c
  · simp [h1]
  · by_cases h2 : y.c < x.c <;> simp [h1, h2]
theorem swoC : SWO (ltOf fun x y : Acc => Lib.compareInt x.c y.c) where
  irrefl x := by rw [ltC]; simp
  trans x y z h1 h2 := by rw [ltC] at *; simp at *; omega
  ntrans x y z h1 h2 := by rw [ltC] at *; simp at *; omega
set_option maxRecDepth 100000 in
set_option maxHeartbeats 1000000 in
theorem collect (Bm b : Nat) (m : ML) (hm0 : gC m) (hml : m.length ≤ 1000) (w : World) (hBm : Bm < w.heap.size) (hm : w.cell? ⟨Bm, 0, none⟩ = some (.map (some b))) (hown : Mk.IMap .i64 w b m) :
    Calls Try.prog 63 #[.func (.func 65) #[] #[.pointer (some ⟨Bm, 0, none⟩)]] w fun e w' =>
      ∃ (v : Value) (xs : List Acc), e = .returned v ∧ (xs.map pr).Perm m ∧ w'.ownsRow w.heap.size 31 3 v xs.length (cellsA xs) ∧ (v = .slice none 0 0 ↔ xs = []) ∧ Below w.heap.size w w' := by
  have hap := callsIn_wide.1 (append_seq Fence.wide 9 trivial trivial rfl (by omega) Bm b m hm0 hml w hBm hm hown)
  go_enter Try.func63, Try.ntmps63
  go_wp2_with (go_at_call 81; refine hap.mono ?_; rintro e w' ⟨v, xs, rfl, h1, h2, h3, h4⟩)
  go_ret
  exact ⟨v, xs, rfl, h1, h2, h3, h4⟩
set_option maxHeartbeats 1000000 in
theorem values (b : Nat) (w : World) : Calls Try.prog 43 #[.map (some b)] w fun e w' =>
    e = .returned (.func (.func 65) #[] #[.pointer (some ⟨w.heap.size, 0, none⟩)]) ∧ w' = w.alloc (.cells #[.map (some b)] 96) := by
  go_enter Try.func43, Try.ntmps43
  go_wp2
  go_ret
  exact ⟨rfl, rfl⟩
end Go.Proofs.Yteakfibolfapiaa.It
