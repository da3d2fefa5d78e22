/- Numbers as bytes, most significant first. -/
import Derived.Test.YteakfibolfapiaaTrCents
import Derived.Laws.IdiomStrings
namespace Go.Proofs.Yteakfibolfapiaa
open Go.RowKit Go.Sort
set_option linter.unusedVariables false
set_option linter.unusedSimpArgs false

set_option maxHeartbeats 1000000 in
theorem C_may_yes (k : Int) (h1 : 1 ≤ k) (h2 : k ≤ 8) (w : World) : Calls Try.prog 87 #[.int .i64 k] w fun e w' => e = .returned (.bool true) ∧ Below w.heap.size w w' := by
  go_enter Try.func87, Try.ntmps87
  go_wp2_with fail
  go_ret
  exact ⟨rfl, by (repeat (first | with_reducible assumption | (with_reducible exact Below.refl _ _) | ((with_reducible refine Tr.below_alloc ?_ ?_); rotate_left; focus (first | omega | exact Nat.le_refl _)) | (with_reducible refine Tr.below_drew ?_) | (with_reducible refine Tr.below_drewN ?_) | ((with_reducible refine Tr.below_set ?_ ?_); rotate_left; focus (first | omega | (simp; done) | (simp; omega))) | ((with_reducible refine Tr.below_trans ?_ (by assumption) ?_); rotate_left; focus (first | exact Nat.le_refl _ | omega))))⟩

/-- The last so many bytes of a number. -/
def be8 (n : Nat) : List UInt8 := (List.range 8).map fun j => UInt8.ofNat (n / 256 ^ (7 - j))
def BE (n k : Nat) : List UInt8 := (be8 n).drop (8 - k)
theorem be8_len (n : Nat) : (be8 n).length = 8 := by simp [be8]
theorem BE_len (n k : Nat) (hk : k ≤ 8) : (BE n k).length = k := by unfold BE; rw [List.length_drop, be8_len]; omega
theorem be8_at (n j : Nat) (hj : j < 8) : ((be8 n).getD j 0).toNat = n / 256 ^ (7 - j) % 256 := by
  simp [be8, List.getD, hj]
theorem be8_ats (n : Nat) (hn : n < 18446744073709551616) : (((be8 n).getD 7 0).toNat : Int) = n % 256 ∧ (((be8 n).getD 6 0).toNat : Int) = n / 256 % 256 ∧ (((be8 n).getD 5 0).toNat : Int) = n / 65536 % 256 ∧ (((be8 n).getD 4 0).toNat : Int) = n / 16777216 % 256 ∧
    (((be8 n).getD 3 0).toNat : Int) = n / 4294967296 % 256 ∧ (((be8 n).getD 2 0).toNat : Int) = n / 1099511627776 % 256 ∧ (((be8 n).getD 1 0).toNat : Int) = n / 281474976710656 % 256 ∧ (((be8 n).getD 0 0).toNat : Int) = n / 72057594037927936 := by
  refine ⟨?_, ?_, ?_, ?_, ?_, ?_, ?_, ?_⟩ <;> (rw [be8_at _ _ (by omega)]; simp only [Nat.sub_self, Nat.reduceSub, Nat.reducePow, Nat.pow_zero, Nat.div_one]; omega)
def BeAt (n : Nat) (g : Nat) (B : World) (s10 : Value) (wr : World) : Prop :=
  ∃ i : Nat, i ≤ 8 ∧ s10 = .int .i64 i ∧ wr.heap[g]? = some (.cells ((List.range 8).map fun j => if 8 ≤ i + j then Value.int .u8 ((be8 n).getD j 0).toNat else .int .u8 0).toArray 166 (0, 0)) ∧ Below B.heap.size B wr

set_option maxRecDepth 100000 in
set_option maxHeartbeats 8000000 in
theorem C_BePut (n k : Nat) (hn : n < 18446744073709551616) (h1 : 1 ≤ k) (h2 : k ≤ 8) (w : World) :
    Calls Try.prog 78 #[.int .u64 n, .int .i64 k] w fun e w' => e = .returned (.string ⟨(BE n k).toArray⟩) ∧ Below w.heap.size w w' := by
  go_enter Try.func78, Try.ntmps78
  go_wp2_with (go_at_call 87; refine (C_may_yes k (by omega) (by omega) _).mono ?_; rintro e w1 ⟨rfl, hb1⟩)
  go_loopw [10] (fun s10 wr => BeAt n w1.heap.size w s10 wr) (fun s10 _ => 8 - (intOf s10).toNat)
  case atStart => exact ⟨0, by omega, rfl, Tr.blk_new _ _, Tr.below_alloc hb1 (Nat.le_refl _)⟩
  case round =>
    obtain ⟨i, hi, rfl, hg, hB⟩ := hrel
    have BG := Lib.hid hg
    have hlow : w.heap.size ≤ w1.heap.size := hb1.size
    by_cases hlt : i < 8
    · have : i = 0 ∨ i = 1 ∨ i = 2 ∨ i = 3 ∨ i = 4 ∨ i = 5 ∨ i = 6 ∨ i = 7 := by omega
      rcases this with rfl | rfl | rfl | rfl | rfl | rfl | rfl | rfl
      all_goals
        have hg2 := hg
        simp only [List.range, List.range.loop, List.map_cons, List.map_nil, Nat.reduceAdd, Nat.reduceLeDiff, if_true, if_false] at hg2
        have cg := fun o => Tr.cell_blk (o := o) hg2
        have fg := fun o => Tr.frozen_blk (o := o) hg2
        clear hg hg2
        go_wp2_with fail
        go_roundw
        case rel =>
          refine ⟨_, (show (_ : Nat) ≤ 8 from by decide), rfl, ?_, Tr.below_set hB hlow⟩
          have b := BG.out
          obtain ⟨e7, e6, e5, e4, e3, e2, e1, e0⟩ := be8_ats n hn
          simp only [Tr.heap_set_same, b, Option.map_some, Tr.setObj]
          simp only [List.range, List.range.loop, List.map_cons, List.map_nil, Nat.reduceAdd, Nat.reduceLeDiff, if_true, if_false, e7, e6, e5, e4, e3, e2, e1, e0]
          rfl
        case measure => simp [intOf]
    · have hi8 : i = 8 := by omega
      subst hi8
      have hcells : (List.range 8).map (fun j => if 8 ≤ 8 + j then Value.int .u8 ((be8 n).getD j 0).toNat else .int .u8 0) = (be8 n).map fun b => Value.int .u8 b.toNat := by
        rfl
      rw [hcells] at hg
      obtain ⟨q, hq⟩ : ∃ q, q = 8 - k := ⟨_, rfl⟩
      have hq8 : 8 - k = q := hq.symm
      have hqk : q + k = 8 := by omega
      clear hq
      have hconv : ∀ W : World, Below wr.heap.size wr W → (convert 74 9 (.slice (some ⟨w1.heap.size, q, none⟩) k k)).run Try.prog W = .ok (.string ⟨(BE n k).toArray⟩) W := by
        intro W hW
        have hl := BE_len n k h2
        have := Go.run_convert_bytes_back (P := Try.prog) W 74 9 5 ⟨w1.heap.size, q, none⟩ k (BE n k) Try.underlying74 Try.underlying5 Try.underlying9 (fun j hj => by
          rw [show (⟨w1.heap.size, q, none⟩ : Addr).add j = ⟨w1.heap.size, q + j, none⟩ by (unfold Addr.add; split <;> simp_all), Tr.cell_blk (Tr.blk_keep hW hg)]
          have hj8 : q + j < (be8 n).length := by rw [be8_len]; omega
          simp only [List.getElem?_toArray, List.getElem?_map, List.getElem?_eq_getElem hj8, Option.map_some, BE, List.getElem_drop, hq8])
        rwa [hl] at this
      have hsl : (Instr.sliceAt 166 (.pointer (some ⟨w1.heap.size, 0, none⟩)) (some (.int .i64 q)) none none).run Try.prog wr = .ok (.slice (some ⟨w1.heap.size, q, none⟩) k k) wr := by
        have hA : Try.prog.arrayLen 166 = 8 := by kernel_rfl
        have hE : Try.prog.elem 166 = 5 := by kernel_rfl
        rw [run_sliceAt_array_l (P := Try.prog) wr 166 ⟨w1.heap.size, 0, none⟩ (by rw [hA, hE]; exact Try.underlying166) .i64 q (by omega) (by rw [hA]; omega)]
        have hs : (sizeOf 5).run Try.prog wr = .ok 1 wr := by kernel_rfl
        rw [hE, hs, hA]
        simp only [Result.andThen_ok, slicedAt, Int.toNat_natCast]
        rw [if_neg (by omega), show 8 - q = k by omega, show (⟨w1.heap.size, 0, none⟩ : Addr).add (q * 1) = ⟨w1.heap.size, q, none⟩ by (unfold Addr.add; split <;> simp_all)]
      have HG := Lib.hid hg
      have hl8 := Tr.blk_lt hg
      have hcv := hconv wr (Below.refl _ _)
      clear hg hcells hconv BG
      have hk8 : (8 : Int) - k = (q : Int) := by omega
      have hq7 : (q : Int) ≤ 7 := by omega
      clear hq8
      go_wp2_with fail
      go_ret
      exact ⟨rfl, hB⟩

set_option maxRecDepth 100000 in
set_option maxHeartbeats 4000000 in
theorem C_BeFits_yes (n k : Nat) (hn : n < 256 ^ k) (h1 : 1 ≤ k) (h2 : k ≤ 8) (w : World) : Calls Try.prog 74 #[.int .u64 n, .int .i64 k] w fun e w' => e = .returned (.bool true) ∧ Below w.heap.size w w' := by
  have : k = 1 ∨ k = 2 ∨ k = 3 ∨ k = 4 ∨ k = 5 ∨ k = 6 ∨ k = 7 ∨ k = 8 := by omega
  rcases this with rfl | rfl | rfl | rfl | rfl | rfl | rfl | rfl
  all_goals
    simp only [Nat.reducePow] at hn
    go_enter Try.func74, Try.ntmps74
    go_wp2_with (go_at_call 87; refine (C_may_yes _ (by omega) (by omega) _).mono ?_; rintro e w1 ⟨rfl, hb1⟩)
    go_ret
    refine ⟨?_, hb1⟩
    first
    | rfl
    | (congr 2; simp; omega)
    | (congr 2; simp)
    | (congr 2; omega)
end Go.Proofs.Yteakfibolfapiaa
