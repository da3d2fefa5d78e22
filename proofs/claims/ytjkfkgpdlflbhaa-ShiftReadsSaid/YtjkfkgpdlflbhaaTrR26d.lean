/- The reference's totals of 44 bytes. -/
import Derived.Test.YtjkfkgpdlflbhaaTrRdPure
import Derived.Test.YtjkfkgpdlflbhaaTrR26a
namespace Go.Proofs.Ytjkfkgpdlflbhaa
open Go.RowKit Go.Sort
open Tr (Sl Chg)
set_option linter.unusedVariables false
set_option linter.unusedSimpArgs false

def oneCells (m : List UInt8) (N0 : Int) (i : Nat) : Array Value := #[.int .i64 N0, .int .i64 (if 0 < i then oneV m 0 else 0), .int .i64 (if 1 < i then oneV m 1 else 0), .int .i64 (if 2 < i then oneV m 2 else 0), .int .i64 (if 3 < i then oneV m 3 else 0), .int .i64 (if 4 < i then oneV m 4 else 0)]
def OneInv (m : List UInt8) (N0 : Int) (B : World) (s6 : Value) (wr : World) : Prop :=
  ∃ i : Nat, i ≤ 5 ∧ s6 = .int .i64 i ∧ (∀ j, j < i → 0 ≤ oneV m j) ∧ wr.heap[B.heap.size + 1]? = some (.cells (oneCells m N0 i) 69 (0, 0)) ∧
    wr.heap[B.heap.size]? = some (.cells #[.int .i64 0, .int .i64 0, .int .i64 0, .int .i64 0, .int .i64 0, .int .i64 0] 69 (0, 0)) ∧ Below B.heap.size B wr

set_option maxRecDepth 100000 in
set_option maxHeartbeats 4000000 in
theorem C_R26one (m : List UInt8) (hm : m.length = 44) (w : World) : Calls Try.prog 63 #[.string ⟨m.toArray⟩] w fun e w' =>
    ((okL m ∧ e = .returned (.tuple #[(totL m).val, .bool true])) ∨ (¬ okL m ∧ ∃ t : Tot, e = .returned (.tuple #[t.val, .bool false]))) ∧ Below w.heap.size w w' := by
  have hsz : (ByteArray.mk m.toArray).size = 44 := by simp [ByteArray.size, hm]
  have hN : ∀ a b W, b - a ≤ 8 → Calls Try.prog 62 #[.string ((ByteArray.mk m.toArray).extract a b)] W fun e w' => e = .returned (.int .u64 (NUM ((m.drop a).take (b - a)))) ∧ Below W.heap.size W w' := fun a b W h => by
    rw [str_mid]
    exact C_R26number _ (by simp; omega) W
  have hn4 : NUM ((m.drop 0).take (4 - 0)) < 4294967296 := NUM_lt _ 4 (by simp; omega)
  obtain ⟨n0, hn0⟩ : ∃ n0, n0 = NUM ((m.drop 0).take (4 - 0)) := ⟨_, rfl⟩
  rw [← hn0] at hn4
  have hnt : totL m = ⟨n0, oneV m 0, oneV m 1, oneV m 2, oneV m 3, oneV m 4⟩ := by rw [hn0]; rfl
  rw [hnt]
  have HN := Lib.hid hN; have HN0 := Lib.hid hn0
  clear hN hn0 hnt
  go_enter Try.func63, Try.ntmps63
  go_wp2_with (go_at_call 62; refine Calls.mono (HN.out 0 4 _ (by omega)) ?_; rw [← HN0.out]; rintro e w1 ⟨rfl, hb1⟩; have t1 := Tr.blk_keep (b := w.heap.size) hb1 (Tr.blk_old (Tr.blk_new _ _)); have b1 := Tr.blk_keep (b := w.heap.size + 1) hb1 (Tr.blk_at (by simp)); have hB1 : Below w.heap.size w w1 := Tr.below_trans (by (repeat (first | with_reducible assumption | (with_reducible exact Below.refl _ _) | ((with_reducible refine Tr.below_alloc ?_ ?_); rotate_left; focus (first | omega | exact Nat.le_refl _)) | (with_reducible refine Tr.below_drew ?_) | (with_reducible refine Tr.below_drewN ?_) | ((with_reducible refine Tr.below_set ?_ ?_); rotate_left; focus (first | omega | (simp; done) | (simp; omega))) | ((with_reducible refine Tr.below_trans ?_ (by assumption) ?_); rotate_left; focus (first | exact Nat.le_refl _ | omega))))) hb1; have cb1 := fun o => Tr.cell_blk (o := o) b1; have fb1 := fun o => Tr.frozen_blk (o := o) b1; have T1 := Lib.hid t1; have B1 := Lib.hid b1; have HB1 := Lib.hid hB1; clear t1 b1 hb1 hB1)
  clear cb1 fb1
  go_loopw [6] (fun s6 wr => OneInv m n0 w s6 wr) (fun s6 _ => 5 - (intOf s6).toNat)
  case atStart =>
    refine ⟨0, by omega, rfl, fun j hj => by omega, ?_, ?_, ?_⟩
    · have b1 := B1.out
      simp only [oneCells]
      (simp only [Tr.heap_set_same, b1, Option.map_some, Tr.setObj]; simp [])
    · refine Tr.blk_set_ne T1.out _ ?_
      simp
    · have hB1 := HB1.out
      (repeat (first | with_reducible assumption | (with_reducible exact Below.refl _ _) | ((with_reducible refine Tr.below_alloc ?_ ?_); rotate_left; focus (first | omega | exact Nat.le_refl _)) | (with_reducible refine Tr.below_drew ?_) | (with_reducible refine Tr.below_drewN ?_) | ((with_reducible refine Tr.below_set ?_ ?_); rotate_left; focus (first | omega | (simp; done) | (simp; omega))) | ((with_reducible refine Tr.below_trans ?_ (by assumption) ?_); rotate_left; focus (first | exact Nat.le_refl _ | omega))))
  case round =>
    clear T1 B1 HB1
    obtain ⟨j, hj, rfl, hpos, b, t, hB⟩ := hrel
    have lb := Tr.blk_lt b
    have lt := Tr.blk_lt t
    have HPOS := Lib.hid hpos; have B4 := Lib.hid b; have T2 := Lib.hid t; have HB := Lib.hid hB
    clear hpos b t hB
    by_cases hlt : j < 5
    · have : j = 0 ∨ j = 1 ∨ j = 2 ∨ j = 3 ∨ j = 4 := by omega
      rcases this with rfl | rfl | rfl | rfl | rfl
      · have hcells : oneCells m n0 0 = #[.int .i64 n0, .int .i64 0, .int .i64 0, .int .i64 0, .int .i64 0, .int .i64 0] := by simp [oneCells]
        rw [hcells] at B4
        clear hcells
        obtain ⟨nv, hnv⟩ : ∃ nv, nv = NUM ((m.drop 4).take (12 - 4)) := ⟨_, rfl⟩
        have hw : wrap64 (nv : Int) = oneV m 0 := by rw [hnv, i64_sg _ (NUM_lt _ 8 (by simp; omega))]; rfl
        obtain ⟨V, hV⟩ : ∃ V, V = oneV m 0 := ⟨_, rfl⟩
        rw [← hV] at hw
        have HV := Lib.hid hV; have HNV := Lib.hid hnv
        clear hV hnv
        by_cases hneg : V < 0
        · have hno : ¬ okL m := by
            have hv := HV.out
            rintro ⟨g0, g1, g2, g3, g4⟩
            omega
          have hneg' : decide (V < 0) = true := by simpa using hneg
          go_wp2_with (go_at_call 62; refine Calls.mono (HN.out 4 12 wr (by omega)) ?_; rw [← HNV.out]; rintro e w2 ⟨rfl, hb2⟩; have b2 := Tr.blk_keep hb2 B4.out; have t2 := Tr.blk_keep hb2 T2.out; have lb2 := Tr.blk_lt b2; have cb2 := fun o => Tr.cell_blk (o := o) b2; have fb2 := fun o => Tr.frozen_blk (o := o) b2; have ct2 := fun o => Tr.cell_blk (o := o) t2; have ft2 := fun o => Tr.frozen_blk (o := o) t2; have lt2 := Tr.blk_lt t2; have B2 := Lib.hid b2; have T22 := Lib.hid t2; have HB2 := Lib.hid (Tr.below_trans HB.out hb2); clear b2 t2 hb2)
          refine bodyPost_ret (Tr.results_run [.cell 2 69, .tmp 3] [_, _] rfl ⟨_, _, rfl, ⟨_, rfl, Tr.load_blk (t := 69) (fr := (0, 0)) (cs := #[.int .i64 n0, .int .i64 V, .int .i64 0, .int .i64 0, .int .i64 0, .int .i64 0]) ?_ Try.underlying69 rfl (by kernel_rfl)⟩, _, _, rfl, rfl, rfl⟩ _ rfl) rfl ⟨.inr ⟨hno, ⟨n0, V, 0, 0, 0, 0⟩, rfl⟩, ?_⟩
          · have t2 := T22.out
            simp only [Tr.heap_set_same, Tr.heap_set_other _ ⟨w.heap.size + 1, _, none⟩ _ _ (show w.heap.size + 1 ≠ w.heap.size by omega), t2, Option.map_some, Tr.setObj]
            try simp
          · have hB := HB2.out
            (repeat (first | with_reducible assumption | (with_reducible exact Below.refl _ _) | ((with_reducible refine Tr.below_alloc ?_ ?_); rotate_left; focus (first | omega | exact Nat.le_refl _)) | (with_reducible refine Tr.below_drew ?_) | (with_reducible refine Tr.below_drewN ?_) | ((with_reducible refine Tr.below_set ?_ ?_); rotate_left; focus (first | omega | (simp; done) | (simp; omega))) | ((with_reducible refine Tr.below_trans ?_ (by assumption) ?_); rotate_left; focus (first | exact Nat.le_refl _ | omega))))
        · have hneg' : decide (V < 0) = false := by simpa using hneg
          go_wp2_with (go_at_call 62; refine Calls.mono (HN.out 4 12 wr (by omega)) ?_; rw [← HNV.out]; rintro e w2 ⟨rfl, hb2⟩; have b2 := Tr.blk_keep hb2 B4.out; have t2 := Tr.blk_keep hb2 T2.out; have lb2 := Tr.blk_lt b2; have cb2 := fun o => Tr.cell_blk (o := o) b2; have fb2 := fun o => Tr.frozen_blk (o := o) b2; have lt2 := Tr.blk_lt t2; have B2 := Lib.hid b2; have T22 := Lib.hid t2; have HB2 := Lib.hid (Tr.below_trans HB.out hb2); clear b2 t2 hb2)
          go_roundw
          case rel =>
            refine ⟨1, by omega, rfl, ?_, ?_, ?_, ?_⟩
            · intro i hi
              rcases Nat.lt_or_ge i 0 with h | h
              · exact HPOS.out i h
              · rw [show i = 0 by omega, ← HV.out]; omega
            · have hcells2 : oneCells m n0 1 = #[.int .i64 n0, .int .i64 (oneV m 0), .int .i64 0, .int .i64 0, .int .i64 0, .int .i64 0] := by simp [oneCells]
              rw [hcells2, ← HV.out]
              have b2 := B2.out
              (simp only [Tr.heap_set_same, b2, Option.map_some, Tr.setObj]; simp [])
            · refine Tr.blk_set_ne T22.out _ ?_
              simp
            · have hB := HB2.out
              (repeat (first | with_reducible assumption | (with_reducible exact Below.refl _ _) | ((with_reducible refine Tr.below_alloc ?_ ?_); rotate_left; focus (first | omega | exact Nat.le_refl _)) | (with_reducible refine Tr.below_drew ?_) | (with_reducible refine Tr.below_drewN ?_) | ((with_reducible refine Tr.below_set ?_ ?_); rotate_left; focus (first | omega | (simp; done) | (simp; omega))) | ((with_reducible refine Tr.below_trans ?_ (by assumption) ?_); rotate_left; focus (first | exact Nat.le_refl _ | omega))))
          case measure => simp [intOf]
      · have hcells : oneCells m n0 1 = #[.int .i64 n0, .int .i64 (oneV m 0), .int .i64 0, .int .i64 0, .int .i64 0, .int .i64 0] := by simp [oneCells]
        rw [hcells] at B4
        clear hcells
        obtain ⟨nv, hnv⟩ : ∃ nv, nv = NUM ((m.drop 12).take (20 - 12)) := ⟨_, rfl⟩
        have hw : wrap64 (nv : Int) = oneV m 1 := by rw [hnv, i64_sg _ (NUM_lt _ 8 (by simp; omega))]; rfl
        obtain ⟨V, hV⟩ : ∃ V, V = oneV m 1 := ⟨_, rfl⟩
        rw [← hV] at hw
        have HV := Lib.hid hV; have HNV := Lib.hid hnv
        clear hV hnv
        by_cases hneg : V < 0
        · have hno : ¬ okL m := by
            have hv := HV.out
            rintro ⟨g0, g1, g2, g3, g4⟩
            omega
          have hneg' : decide (V < 0) = true := by simpa using hneg
          go_wp2_with (go_at_call 62; refine Calls.mono (HN.out 12 20 wr (by omega)) ?_; rw [← HNV.out]; rintro e w2 ⟨rfl, hb2⟩; have b2 := Tr.blk_keep hb2 B4.out; have t2 := Tr.blk_keep hb2 T2.out; have lb2 := Tr.blk_lt b2; have cb2 := fun o => Tr.cell_blk (o := o) b2; have fb2 := fun o => Tr.frozen_blk (o := o) b2; have ct2 := fun o => Tr.cell_blk (o := o) t2; have ft2 := fun o => Tr.frozen_blk (o := o) t2; have lt2 := Tr.blk_lt t2; have B2 := Lib.hid b2; have T22 := Lib.hid t2; have HB2 := Lib.hid (Tr.below_trans HB.out hb2); clear b2 t2 hb2)
          refine bodyPost_ret (Tr.results_run [.cell 2 69, .tmp 3] [_, _] rfl ⟨_, _, rfl, ⟨_, rfl, Tr.load_blk (t := 69) (fr := (0, 0)) (cs := #[.int .i64 n0, .int .i64 (oneV m 0), .int .i64 V, .int .i64 0, .int .i64 0, .int .i64 0]) ?_ Try.underlying69 rfl (by kernel_rfl)⟩, _, _, rfl, rfl, rfl⟩ _ rfl) rfl ⟨.inr ⟨hno, ⟨n0, oneV m 0, V, 0, 0, 0⟩, rfl⟩, ?_⟩
          · have t2 := T22.out
            simp only [Tr.heap_set_same, Tr.heap_set_other _ ⟨w.heap.size + 1, _, none⟩ _ _ (show w.heap.size + 1 ≠ w.heap.size by omega), t2, Option.map_some, Tr.setObj]
            try simp
          · have hB := HB2.out
            (repeat (first | with_reducible assumption | (with_reducible exact Below.refl _ _) | ((with_reducible refine Tr.below_alloc ?_ ?_); rotate_left; focus (first | omega | exact Nat.le_refl _)) | (with_reducible refine Tr.below_drew ?_) | (with_reducible refine Tr.below_drewN ?_) | ((with_reducible refine Tr.below_set ?_ ?_); rotate_left; focus (first | omega | (simp; done) | (simp; omega))) | ((with_reducible refine Tr.below_trans ?_ (by assumption) ?_); rotate_left; focus (first | exact Nat.le_refl _ | omega))))
        · have hneg' : decide (V < 0) = false := by simpa using hneg
          go_wp2_with (go_at_call 62; refine Calls.mono (HN.out 12 20 wr (by omega)) ?_; rw [← HNV.out]; rintro e w2 ⟨rfl, hb2⟩; have b2 := Tr.blk_keep hb2 B4.out; have t2 := Tr.blk_keep hb2 T2.out; have lb2 := Tr.blk_lt b2; have cb2 := fun o => Tr.cell_blk (o := o) b2; have fb2 := fun o => Tr.frozen_blk (o := o) b2; have lt2 := Tr.blk_lt t2; have B2 := Lib.hid b2; have T22 := Lib.hid t2; have HB2 := Lib.hid (Tr.below_trans HB.out hb2); clear b2 t2 hb2)
          go_roundw
          case rel =>
            refine ⟨2, by omega, rfl, ?_, ?_, ?_, ?_⟩
            · intro i hi
              rcases Nat.lt_or_ge i 1 with h | h
              · exact HPOS.out i h
              · rw [show i = 1 by omega, ← HV.out]; omega
            · have hcells2 : oneCells m n0 2 = #[.int .i64 n0, .int .i64 (oneV m 0), .int .i64 (oneV m 1), .int .i64 0, .int .i64 0, .int .i64 0] := by simp [oneCells]
              rw [hcells2, ← HV.out]
              have b2 := B2.out
              (simp only [Tr.heap_set_same, b2, Option.map_some, Tr.setObj]; simp [])
            · refine Tr.blk_set_ne T22.out _ ?_
              simp
            · have hB := HB2.out
              (repeat (first | with_reducible assumption | (with_reducible exact Below.refl _ _) | ((with_reducible refine Tr.below_alloc ?_ ?_); rotate_left; focus (first | omega | exact Nat.le_refl _)) | (with_reducible refine Tr.below_drew ?_) | (with_reducible refine Tr.below_drewN ?_) | ((with_reducible refine Tr.below_set ?_ ?_); rotate_left; focus (first | omega | (simp; done) | (simp; omega))) | ((with_reducible refine Tr.below_trans ?_ (by assumption) ?_); rotate_left; focus (first | exact Nat.le_refl _ | omega))))
          case measure => simp [intOf]
      · have hcells : oneCells m n0 2 = #[.int .i64 n0, .int .i64 (oneV m 0), .int .i64 (oneV m 1), .int .i64 0, .int .i64 0, .int .i64 0] := by simp [oneCells]
        rw [hcells] at B4
        clear hcells
        obtain ⟨nv, hnv⟩ : ∃ nv, nv = NUM ((m.drop 20).take (28 - 20)) := ⟨_, rfl⟩
        have hw : wrap64 (nv : Int) = oneV m 2 := by rw [hnv, i64_sg _ (NUM_lt _ 8 (by simp; omega))]; rfl
        obtain ⟨V, hV⟩ : ∃ V, V = oneV m 2 := ⟨_, rfl⟩
        rw [← hV] at hw
        have HV := Lib.hid hV; have HNV := Lib.hid hnv
        clear hV hnv
        by_cases hneg : V < 0
        · have hno : ¬ okL m := by
            have hv := HV.out
            rintro ⟨g0, g1, g2, g3, g4⟩
            omega
          have hneg' : decide (V < 0) = true := by simpa using hneg
          go_wp2_with (go_at_call 62; refine Calls.mono (HN.out 20 28 wr (by omega)) ?_; rw [← HNV.out]; rintro e w2 ⟨rfl, hb2⟩; have b2 := Tr.blk_keep hb2 B4.out; have t2 := Tr.blk_keep hb2 T2.out; have lb2 := Tr.blk_lt b2; have cb2 := fun o => Tr.cell_blk (o := o) b2; have fb2 := fun o => Tr.frozen_blk (o := o) b2; have ct2 := fun o => Tr.cell_blk (o := o) t2; have ft2 := fun o => Tr.frozen_blk (o := o) t2; have lt2 := Tr.blk_lt t2; have B2 := Lib.hid b2; have T22 := Lib.hid t2; have HB2 := Lib.hid (Tr.below_trans HB.out hb2); clear b2 t2 hb2)
          refine bodyPost_ret (Tr.results_run [.cell 2 69, .tmp 3] [_, _] rfl ⟨_, _, rfl, ⟨_, rfl, Tr.load_blk (t := 69) (fr := (0, 0)) (cs := #[.int .i64 n0, .int .i64 (oneV m 0), .int .i64 (oneV m 1), .int .i64 V, .int .i64 0, .int .i64 0]) ?_ Try.underlying69 rfl (by kernel_rfl)⟩, _, _, rfl, rfl, rfl⟩ _ rfl) rfl ⟨.inr ⟨hno, ⟨n0, oneV m 0, oneV m 1, V, 0, 0⟩, rfl⟩, ?_⟩
          · have t2 := T22.out
            simp only [Tr.heap_set_same, Tr.heap_set_other _ ⟨w.heap.size + 1, _, none⟩ _ _ (show w.heap.size + 1 ≠ w.heap.size by omega), t2, Option.map_some, Tr.setObj]
            try simp
          · have hB := HB2.out
            (repeat (first | with_reducible assumption | (with_reducible exact Below.refl _ _) | ((with_reducible refine Tr.below_alloc ?_ ?_); rotate_left; focus (first | omega | exact Nat.le_refl _)) | (with_reducible refine Tr.below_drew ?_) | (with_reducible refine Tr.below_drewN ?_) | ((with_reducible refine Tr.below_set ?_ ?_); rotate_left; focus (first | omega | (simp; done) | (simp; omega))) | ((with_reducible refine Tr.below_trans ?_ (by assumption) ?_); rotate_left; focus (first | exact Nat.le_refl _ | omega))))
        · have hneg' : decide (V < 0) = false := by simpa using hneg
          go_wp2_with (go_at_call 62; refine Calls.mono (HN.out 20 28 wr (by omega)) ?_; rw [← HNV.out]; rintro e w2 ⟨rfl, hb2⟩; have b2 := Tr.blk_keep hb2 B4.out; have t2 := Tr.blk_keep hb2 T2.out; have lb2 := Tr.blk_lt b2; have cb2 := fun o => Tr.cell_blk (o := o) b2; have fb2 := fun o => Tr.frozen_blk (o := o) b2; have lt2 := Tr.blk_lt t2; have B2 := Lib.hid b2; have T22 := Lib.hid t2; have HB2 := Lib.hid (Tr.below_trans HB.out hb2); clear b2 t2 hb2)
          go_roundw
          case rel =>
            refine ⟨3, by omega, rfl, ?_, ?_, ?_, ?_⟩
            · intro i hi
              rcases Nat.lt_or_ge i 2 with h | h
              · exact HPOS.out i h
              · rw [show i = 2 by omega, ← HV.out]; omega
            · have hcells2 : oneCells m n0 3 = #[.int .i64 n0, .int .i64 (oneV m 0), .int .i64 (oneV m 1), .int .i64 (oneV m 2), .int .i64 0, .int .i64 0] := by simp [oneCells]
              rw [hcells2, ← HV.out]
              have b2 := B2.out
              (simp only [Tr.heap_set_same, b2, Option.map_some, Tr.setObj]; simp [])
            · refine Tr.blk_set_ne T22.out _ ?_
              simp
            · have hB := HB2.out
              (repeat (first | with_reducible assumption | (with_reducible exact Below.refl _ _) | ((with_reducible refine Tr.below_alloc ?_ ?_); rotate_left; focus (first | omega | exact Nat.le_refl _)) | (with_reducible refine Tr.below_drew ?_) | (with_reducible refine Tr.below_drewN ?_) | ((with_reducible refine Tr.below_set ?_ ?_); rotate_left; focus (first | omega | (simp; done) | (simp; omega))) | ((with_reducible refine Tr.below_trans ?_ (by assumption) ?_); rotate_left; focus (first | exact Nat.le_refl _ | omega))))
          case measure => simp [intOf]
      · have hcells : oneCells m n0 3 = #[.int .i64 n0, .int .i64 (oneV m 0), .int .i64 (oneV m 1), .int .i64 (oneV m 2), .int .i64 0, .int .i64 0] := by simp [oneCells]
        rw [hcells] at B4
        clear hcells
        obtain ⟨nv, hnv⟩ : ∃ nv, nv = NUM ((m.drop 28).take (36 - 28)) := ⟨_, rfl⟩
        have hw : wrap64 (nv : Int) = oneV m 3 := by rw [hnv, i64_sg _ (NUM_lt _ 8 (by simp; omega))]; rfl
        obtain ⟨V, hV⟩ : ∃ V, V = oneV m 3 := ⟨_, rfl⟩
        rw [← hV] at hw
        have HV := Lib.hid hV; have HNV := Lib.hid hnv
        clear hV hnv
        by_cases hneg : V < 0
        · have hno : ¬ okL m := by
            have hv := HV.out
            rintro ⟨g0, g1, g2, g3, g4⟩
            omega
          have hneg' : decide (V < 0) = true := by simpa using hneg
          go_wp2_with (go_at_call 62; refine Calls.mono (HN.out 28 36 wr (by omega)) ?_; rw [← HNV.out]; rintro e w2 ⟨rfl, hb2⟩; have b2 := Tr.blk_keep hb2 B4.out; have t2 := Tr.blk_keep hb2 T2.out; have lb2 := Tr.blk_lt b2; have cb2 := fun o => Tr.cell_blk (o := o) b2; have fb2 := fun o => Tr.frozen_blk (o := o) b2; have ct2 := fun o => Tr.cell_blk (o := o) t2; have ft2 := fun o => Tr.frozen_blk (o := o) t2; have lt2 := Tr.blk_lt t2; have B2 := Lib.hid b2; have T22 := Lib.hid t2; have HB2 := Lib.hid (Tr.below_trans HB.out hb2); clear b2 t2 hb2)
          refine bodyPost_ret (Tr.results_run [.cell 2 69, .tmp 3] [_, _] rfl ⟨_, _, rfl, ⟨_, rfl, Tr.load_blk (t := 69) (fr := (0, 0)) (cs := #[.int .i64 n0, .int .i64 (oneV m 0), .int .i64 (oneV m 1), .int .i64 (oneV m 2), .int .i64 V, .int .i64 0]) ?_ Try.underlying69 rfl (by kernel_rfl)⟩, _, _, rfl, rfl, rfl⟩ _ rfl) rfl ⟨.inr ⟨hno, ⟨n0, oneV m 0, oneV m 1, oneV m 2, V, 0⟩, rfl⟩, ?_⟩
          · have t2 := T22.out
            simp only [Tr.heap_set_same, Tr.heap_set_other _ ⟨w.heap.size + 1, _, none⟩ _ _ (show w.heap.size + 1 ≠ w.heap.size by omega), t2, Option.map_some, Tr.setObj]
            try simp
          · have hB := HB2.out
            (repeat (first | with_reducible assumption | (with_reducible exact Below.refl _ _) | ((with_reducible refine Tr.below_alloc ?_ ?_); rotate_left; focus (first | omega | exact Nat.le_refl _)) | (with_reducible refine Tr.below_drew ?_) | (with_reducible refine Tr.below_drewN ?_) | ((with_reducible refine Tr.below_set ?_ ?_); rotate_left; focus (first | omega | (simp; done) | (simp; omega))) | ((with_reducible refine Tr.below_trans ?_ (by assumption) ?_); rotate_left; focus (first | exact Nat.le_refl _ | omega))))
        · have hneg' : decide (V < 0) = false := by simpa using hneg
          go_wp2_with (go_at_call 62; refine Calls.mono (HN.out 28 36 wr (by omega)) ?_; rw [← HNV.out]; rintro e w2 ⟨rfl, hb2⟩; have b2 := Tr.blk_keep hb2 B4.out; have t2 := Tr.blk_keep hb2 T2.out; have lb2 := Tr.blk_lt b2; have cb2 := fun o => Tr.cell_blk (o := o) b2; have fb2 := fun o => Tr.frozen_blk (o := o) b2; have lt2 := Tr.blk_lt t2; have B2 := Lib.hid b2; have T22 := Lib.hid t2; have HB2 := Lib.hid (Tr.below_trans HB.out hb2); clear b2 t2 hb2)
          go_roundw
          case rel =>
            refine ⟨4, by omega, rfl, ?_, ?_, ?_, ?_⟩
            · intro i hi
              rcases Nat.lt_or_ge i 3 with h | h
              · exact HPOS.out i h
              · rw [show i = 3 by omega, ← HV.out]; omega
            · have hcells2 : oneCells m n0 4 = #[.int .i64 n0, .int .i64 (oneV m 0), .int .i64 (oneV m 1), .int .i64 (oneV m 2), .int .i64 (oneV m 3), .int .i64 0] := by simp [oneCells]
              rw [hcells2, ← HV.out]
              have b2 := B2.out
              (simp only [Tr.heap_set_same, b2, Option.map_some, Tr.setObj]; simp [])
            · refine Tr.blk_set_ne T22.out _ ?_
              simp
            · have hB := HB2.out
              (repeat (first | with_reducible assumption | (with_reducible exact Below.refl _ _) | ((with_reducible refine Tr.below_alloc ?_ ?_); rotate_left; focus (first | omega | exact Nat.le_refl _)) | (with_reducible refine Tr.below_drew ?_) | (with_reducible refine Tr.below_drewN ?_) | ((with_reducible refine Tr.below_set ?_ ?_); rotate_left; focus (first | omega | (simp; done) | (simp; omega))) | ((with_reducible refine Tr.below_trans ?_ (by assumption) ?_); rotate_left; focus (first | exact Nat.le_refl _ | omega))))
          case measure => simp [intOf]
      · have hcells : oneCells m n0 4 = #[.int .i64 n0, .int .i64 (oneV m 0), .int .i64 (oneV m 1), .int .i64 (oneV m 2), .int .i64 (oneV m 3), .int .i64 0] := by simp [oneCells]
        rw [hcells] at B4
        clear hcells
        obtain ⟨nv, hnv⟩ : ∃ nv, nv = NUM ((m.drop 36).take (44 - 36)) := ⟨_, rfl⟩
        have hw : wrap64 (nv : Int) = oneV m 4 := by rw [hnv, i64_sg _ (NUM_lt _ 8 (by simp; omega))]; rfl
        obtain ⟨V, hV⟩ : ∃ V, V = oneV m 4 := ⟨_, rfl⟩
        rw [← hV] at hw
        have HV := Lib.hid hV; have HNV := Lib.hid hnv
        clear hV hnv
        by_cases hneg : V < 0
        · have hno : ¬ okL m := by
            have hv := HV.out
            rintro ⟨g0, g1, g2, g3, g4⟩
            omega
          have hneg' : decide (V < 0) = true := by simpa using hneg
          go_wp2_with (go_at_call 62; refine Calls.mono (HN.out 36 44 wr (by omega)) ?_; rw [← HNV.out]; rintro e w2 ⟨rfl, hb2⟩; have b2 := Tr.blk_keep hb2 B4.out; have t2 := Tr.blk_keep hb2 T2.out; have lb2 := Tr.blk_lt b2; have cb2 := fun o => Tr.cell_blk (o := o) b2; have fb2 := fun o => Tr.frozen_blk (o := o) b2; have ct2 := fun o => Tr.cell_blk (o := o) t2; have ft2 := fun o => Tr.frozen_blk (o := o) t2; have lt2 := Tr.blk_lt t2; have B2 := Lib.hid b2; have T22 := Lib.hid t2; have HB2 := Lib.hid (Tr.below_trans HB.out hb2); clear b2 t2 hb2)
          refine bodyPost_ret (Tr.results_run [.cell 2 69, .tmp 3] [_, _] rfl ⟨_, _, rfl, ⟨_, rfl, Tr.load_blk (t := 69) (fr := (0, 0)) (cs := #[.int .i64 n0, .int .i64 (oneV m 0), .int .i64 (oneV m 1), .int .i64 (oneV m 2), .int .i64 (oneV m 3), .int .i64 V]) ?_ Try.underlying69 rfl (by kernel_rfl)⟩, _, _, rfl, rfl, rfl⟩ _ rfl) rfl ⟨.inr ⟨hno, ⟨n0, oneV m 0, oneV m 1, oneV m 2, oneV m 3, V⟩, rfl⟩, ?_⟩
          · have t2 := T22.out
            simp only [Tr.heap_set_same, Tr.heap_set_other _ ⟨w.heap.size + 1, _, none⟩ _ _ (show w.heap.size + 1 ≠ w.heap.size by omega), t2, Option.map_some, Tr.setObj]
            try simp
          · have hB := HB2.out
            (repeat (first | with_reducible assumption | (with_reducible exact Below.refl _ _) | ((with_reducible refine Tr.below_alloc ?_ ?_); rotate_left; focus (first | omega | exact Nat.le_refl _)) | (with_reducible refine Tr.below_drew ?_) | (with_reducible refine Tr.below_drewN ?_) | ((with_reducible refine Tr.below_set ?_ ?_); rotate_left; focus (first | omega | (simp; done) | (simp; omega))) | ((with_reducible refine Tr.below_trans ?_ (by assumption) ?_); rotate_left; focus (first | exact Nat.le_refl _ | omega))))
        · have hneg' : decide (V < 0) = false := by simpa using hneg
          go_wp2_with (go_at_call 62; refine Calls.mono (HN.out 36 44 wr (by omega)) ?_; rw [← HNV.out]; rintro e w2 ⟨rfl, hb2⟩; have b2 := Tr.blk_keep hb2 B4.out; have t2 := Tr.blk_keep hb2 T2.out; have lb2 := Tr.blk_lt b2; have cb2 := fun o => Tr.cell_blk (o := o) b2; have fb2 := fun o => Tr.frozen_blk (o := o) b2; have lt2 := Tr.blk_lt t2; have B2 := Lib.hid b2; have T22 := Lib.hid t2; have HB2 := Lib.hid (Tr.below_trans HB.out hb2); clear b2 t2 hb2)
          go_roundw
          case rel =>
            refine ⟨5, by omega, rfl, ?_, ?_, ?_, ?_⟩
            · intro i hi
              rcases Nat.lt_or_ge i 4 with h | h
              · exact HPOS.out i h
              · rw [show i = 4 by omega, ← HV.out]; omega
            · have hcells2 : oneCells m n0 5 = #[.int .i64 n0, .int .i64 (oneV m 0), .int .i64 (oneV m 1), .int .i64 (oneV m 2), .int .i64 (oneV m 3), .int .i64 (oneV m 4)] := by simp [oneCells]
              rw [hcells2, ← HV.out]
              have b2 := B2.out
              (simp only [Tr.heap_set_same, b2, Option.map_some, Tr.setObj]; simp [])
            · refine Tr.blk_set_ne T22.out _ ?_
              simp
            · have hB := HB2.out
              (repeat (first | with_reducible assumption | (with_reducible exact Below.refl _ _) | ((with_reducible refine Tr.below_alloc ?_ ?_); rotate_left; focus (first | omega | exact Nat.le_refl _)) | (with_reducible refine Tr.below_drew ?_) | (with_reducible refine Tr.below_drewN ?_) | ((with_reducible refine Tr.below_set ?_ ?_); rotate_left; focus (first | omega | (simp; done) | (simp; omega))) | ((with_reducible refine Tr.below_trans ?_ (by assumption) ?_); rotate_left; focus (first | exact Nat.le_refl _ | omega))))
          case measure => simp [intOf]
    · have hje : j = 5 := by omega
      subst hje
      have hok : okL m := ⟨HPOS.out 0 (by omega), HPOS.out 1 (by omega), HPOS.out 2 (by omega), HPOS.out 3 (by omega), HPOS.out 4 (by omega)⟩
      have cb := fun o => Tr.cell_blk (o := o) B4.out
      have ct := fun o => Tr.cell_blk (o := o) T2.out
      have ft := fun o => Tr.frozen_blk (o := o) T2.out
      have hcells : oneCells m n0 5 = #[.int .i64 n0, .int .i64 (oneV m 0), .int .i64 (oneV m 1), .int .i64 (oneV m 2), .int .i64 (oneV m 3), .int .i64 (oneV m 4)] := by simp [oneCells]
      rw [hcells] at cb
      go_wp2_with fail
      refine bodyPost_ret (Tr.results_run [.cell 2 69, .tmp 3] [_, _] rfl ⟨_, _, rfl, ⟨_, rfl, Tr.load_blk (t := 69) (fr := (0, 0)) (cs := #[.int .i64 n0, .int .i64 (oneV m 0), .int .i64 (oneV m 1), .int .i64 (oneV m 2), .int .i64 (oneV m 3), .int .i64 (oneV m 4)]) ?_ Try.underlying69 rfl (by kernel_rfl)⟩, _, _, rfl, rfl, rfl⟩ _ rfl) rfl ⟨.inl ⟨hok, rfl⟩, ?_⟩
      · have t2 := T2.out
        (simp only [Tr.heap_set_same, t2, Option.map_some, Tr.setObj]; simp [])
      · have hB := HB.out
        (repeat (first | with_reducible assumption | (with_reducible exact Below.refl _ _) | ((with_reducible refine Tr.below_alloc ?_ ?_); rotate_left; focus (first | omega | exact Nat.le_refl _)) | (with_reducible refine Tr.below_drew ?_) | (with_reducible refine Tr.below_drewN ?_) | ((with_reducible refine Tr.below_set ?_ ?_); rotate_left; focus (first | omega | (simp; done) | (simp; omega))) | ((with_reducible refine Tr.below_trans ?_ (by assumption) ?_); rotate_left; focus (first | exact Nat.le_refl _ | omega))))
end Go.Proofs.Ytjkfkgpdlflbhaa
