/- An amount's text. -/
import Derived.Test.YtjkfkgpdlflbhaaDoorTrFmtU
import Derived.Test.YtjkfkgpdlflbhaaDoorTrDig
namespace Go.Proofs.YtjkfkgpdlflbhaaDoor
open Go.RowKit Go.Sort
open Tr (Sl Chg)
set_option linter.unusedVariables false
set_option linter.unusedSimpArgs false

set_option maxRecDepth 100000 in
theorem C_size' (c : Int) (hc : -9223372036854775808 ≤ c ∧ c ≤ 9223372036854775807) (w : World) : Calls Tryd.prog 28 #[.int .i64 c] w fun e w' => e = .returned (.int .u64 (c.natAbs : Nat)) ∧ Below w.heap.size w w' := by
  by_cases h : c < 0
  · have hd : decide (c < 0) = true := by simpa using h
    have hw : IntKind.u64.wrap (-IntKind.u64.wrap c) = (c.natAbs : Nat) := by rw [u64_eq, u64_eq]; omega
    obtain ⟨m, hm⟩ : ∃ m : Nat, m = c.natAbs := ⟨_, rfl⟩
    rw [← hm] at hw ⊢
    clear hm
    go_enter Tryd.func28, Tryd.ntmps28
    go_wp2_with fail
    go_ret
    exact ⟨rfl, by (repeat (first | with_reducible assumption | (with_reducible exact Below.refl _ _) | ((with_reducible refine Tr.below_alloc ?_ ?_); rotate_left; focus (first | omega | exact Nat.le_refl _)) | (with_reducible refine Tr.below_drew ?_) | (with_reducible refine Tr.below_drewN ?_) | ((with_reducible refine Tr.below_set ?_ ?_); rotate_left; focus (first | omega | (simp; done) | (simp; omega))) | ((with_reducible refine Tr.below_trans ?_ (by assumption) ?_); rotate_left; focus (first | exact Nat.le_refl _ | omega))))⟩
  · have hd : decide (c < 0) = false := by simpa using h
    have hw : IntKind.u64.wrap c = (c.natAbs : Nat) := by rw [u64_eq]; omega
    obtain ⟨m, hm⟩ : ∃ m : Nat, m = c.natAbs := ⟨_, rfl⟩
    rw [← hm] at hw ⊢
    clear hm
    go_enter Tryd.func28, Tryd.ntmps28
    go_wp2_with fail
    go_ret
    exact ⟨rfl, by (repeat (first | with_reducible assumption | (with_reducible exact Below.refl _ _) | ((with_reducible refine Tr.below_alloc ?_ ?_); rotate_left; focus (first | omega | exact Nat.le_refl _)) | (with_reducible refine Tr.below_drew ?_) | (with_reducible refine Tr.below_drewN ?_) | ((with_reducible refine Tr.below_set ?_ ?_); rotate_left; focus (first | omega | (simp; done) | (simp; omega))) | ((with_reducible refine Tr.below_trans ?_ (by assumption) ?_); rotate_left; focus (first | exact Nat.le_refl _ | omega))))⟩
theorem dec_two (b : Nat) (hb : b < 100) : Lib.decDigits (100 + b) = [49, UInt8.ofNat (48 + b / 10), UInt8.ofNat (48 + b % 10)] := by
  rw [Lib.decDigits, dif_neg (by omega), Lib.decDigits, dif_neg (by omega), Lib.decDigits, dif_pos (by omega)]
  have e1 : (100 + b) / 10 / 10 = 1 := by omega
  have e2 : (100 + b) / 10 % 10 = b / 10 := by omega
  have e3 : (100 + b) % 10 = b % 10 := by omega
  rw [e1, e2, e3]
  rfl

set_option maxRecDepth 100000 in
set_option maxHeartbeats 4000000 in
theorem C_CText (c : Int) (hc : -9223372036854775808 ≤ c ∧ c ≤ 9223372036854775807) (w : World) (htab : Lib.TabIs Tryd.prog w "internal/strconv.uint64pow10" .u64 Lib.pow10Tab) :
    Calls Tryd.prog 19 #[.int .i64 c] w fun e w' => e = .returned (.string ⟨(T03 c).toArray⟩) ∧ Below w.heap.size w w' := by
  obtain ⟨m, hm⟩ : ∃ m, m = c.natAbs := ⟨_, rfl⟩
  have hSz : Calls Tryd.prog 28 #[.int .i64 c] w fun e w' => e = .returned (.int .u64 (m : Nat)) ∧ Below w.heap.size w w' := by rw [hm]; exact C_size' c hc w
  have hA : ∀ W, Below w.heap.size w W → Calls Tryd.prog 29 #[.int .u64 ((m / 100 : Nat) : Int), .int .i64 10] W fun e w' => e = .returned (.string ⟨(Lib.decDigits (m / 100)).toArray⟩) ∧ Below W.heap.size W w' := fun W hW => C_FormatUint (m / 100) (by omega) W (tab_keep htab hW)
  have hB : ∀ W, Below w.heap.size w W → Calls Tryd.prog 29 #[.int .u64 ((100 + m % 100 : Nat) : Int), .int .i64 10] W fun e w' => e = .returned (.string ⟨#[49, UInt8.ofNat (48 + m % 100 / 10), UInt8.ofNat (48 + m % 100 % 10)]⟩) ∧ Below W.heap.size W w' := fun W hW => by
    have h := C_FormatUint (100 + m % 100) (by omega) W (tab_keep htab hW)
    rw [dec_two _ (by omega)] at h
    exact h
  obtain ⟨D, hD⟩ : ∃ D, D = Lib.decDigits (m / 100) := ⟨_, rfl⟩
  have hDl := decDigits_len20 (m / 100) (by omega)
  rw [← hD] at hA hDl
  have hT : T03 c = (if c < 0 then [45] else []) ++ D ++ [46] ++ [UInt8.ofNat (48 + m % 100 / 10), UInt8.ofNat (48 + m % 100 % 10)] := by unfold T03; rw [← hm, hD]
  obtain ⟨b1, hb1⟩ : ∃ b1, b1 = UInt8.ofNat (48 + m % 100 / 10) := ⟨_, rfl⟩
  obtain ⟨b2, hb2⟩ : ∃ b2, b2 = UInt8.ofNat (48 + m % 100 % 10) := ⟨_, rfl⟩
  rw [← hb1, ← hb2] at hB hT
  rw [hT]
  obtain ⟨a9, ha9⟩ : ∃ a9, a9 = m / 100 := ⟨_, rfl⟩
  obtain ⟨b9, hb9⟩ : ∃ b9, b9 = 100 + m % 100 := ⟨_, rfl⟩
  rw [← ha9] at hA
  rw [← hb9] at hB
  have hszD : (ByteArray.mk D.toArray).size ≤ 20 := by simp only [ByteArray.size, List.size_toArray]; exact hDl
  have hq : (m : Int) / 100 = a9 := by omega
  have hq2 : Int.tdiv (m : Int) 100 = a9 := by rw [ha9]; rfl
  obtain ⟨c9, hc9⟩ : ∃ c9, c9 = m % 100 := ⟨_, rfl⟩
  have hr : (m : Int) % 100 = c9 := by omega
  have hr2 : Int.tmod (m : Int) 100 = c9 := by rw [hc9]; rfl
  have hrb : (100 : Int) + c9 = b9 := by omega
  have hwa : IntKind.u64.wrap (a9 : Int) = a9 := by rw [u64_eq]; omega
  have hwb : IntKind.u64.wrap (b9 : Int) = b9 := by rw [u64_eq]; omega
  have hwc : IntKind.u64.wrap (c9 : Int) = c9 := by rw [u64_eq]; omega
  have hb90 : b9 < 200 := by omega
  have hc90 : c9 < 100 := by omega
  clear hc9
  obtain ⟨S1, hS1⟩ : ∃ S1 : ByteArray, S1 = ⟨D.toArray⟩ ++ ⟨#[46]⟩ := ⟨_, rfl⟩
  obtain ⟨S2, hS2⟩ : ∃ S2 : ByteArray, S2 = S1 ++ ⟨#[b1, b2]⟩ := ⟨_, rfl⟩
  obtain ⟨S3, hS3⟩ : ∃ S3 : ByteArray, S3 = ⟨#[45]⟩ ++ S2 := ⟨_, rfl⟩
  have d1 : (ByteArray.mk #[46]).size = 1 := rfl
  have d2 : (ByteArray.mk #[b1, b2]).size = 2 := rfl
  have d3 : (ByteArray.mk #[45]).size = 1 := rfl
  have l1 : S1.size ≤ 21 := by rw [hS1, ByteArray.size_append]; omega
  have l2 : S2.size ≤ 23 := by rw [hS2, ByteArray.size_append]; omega
  have a1 : ∀ W, (Op.stringOp .add ⟨D.toArray⟩ ⟨#[46]⟩).run Tryd.prog W = .ok (.string S1) W := fun W => by
    rw [hS1]
    exact run_string_add_sum W _ _ (by omega)
  have a2 : ∀ W, (Op.stringOp .add S1 ⟨#[b1, b2]⟩).run Tryd.prog W = .ok (.string S2) W := fun W => by
    rw [hS2]
    exact run_string_add_sum W _ _ (by omega)
  have a3 : ∀ W, (Op.stringOp .add ⟨#[45]⟩ S2).run Tryd.prog W = .ok (.string S3) W := fun W => by
    rw [hS3]
    exact run_string_add_sum W _ _ (by omega)
  have hsl : ∀ W, (Instr.slice 9 (.string ⟨#[49, b1, b2]⟩) (some (.int .i64 1)) none none).run Tryd.prog W = .ok (.string ⟨#[b1, b2]⟩) W := fun W => by kernel_rfl
  have f2 : S2 = ⟨(D ++ [46] ++ [b1, b2]).toArray⟩ := by
    rw [hS2, hS1]
    apply ByteArray.ext
    simp
  have f3 : S3 = ⟨([45] ++ D ++ [46] ++ [b1, b2]).toArray⟩ := by
    rw [hS3, f2]
    apply ByteArray.ext
    simp
  have F2 := Lib.hid f2; have F3 := Lib.hid f3; have HSZ := Lib.hid hSz; have HA := Lib.hid hA; have HB := Lib.hid hB
  clear hA hB hSz hT hb1 hb2 ha9 hb9 hD hm hS1 hS2 hS3 f2 f3 l1 l2 d1 d2 d3 hszD hDl htab
  by_cases hneg : c < 0
  · have hneg' : decide (c < 0) = true := by simpa using hneg
    go_enter Tryd.func19, Tryd.ntmps19
    go_wp2_with (first
      | (go_at_call 29; have hk := HB.out w2 (Tr.below_trans hb1 hb2); refine Calls.mono hk ?_; clear hk; rintro e w3 ⟨rfl, hb3⟩)
      | (go_at_call 29; have hk := HA.out w1 hb1; refine Calls.mono hk ?_; clear hk; rintro e w2 ⟨rfl, hb2⟩)
      | (go_at_call 28; refine Calls.mono HSZ.out ?_; rintro e w1 ⟨rfl, hb1⟩)
      | fail)
    go_ret
    refine ⟨?_, Tr.below_trans (Tr.below_trans hb1 hb2) hb3⟩
    show Ending.returned (Value.string S3) = _
    rw [F3.out]
    simp
  · have hneg' : decide (c < 0) = false := by simpa using hneg
    go_enter Tryd.func19, Tryd.ntmps19
    go_wp2_with (first
      | (go_at_call 29; have hk := HB.out w2 (Tr.below_trans hb1 hb2); refine Calls.mono hk ?_; clear hk; rintro e w3 ⟨rfl, hb3⟩)
      | (go_at_call 29; have hk := HA.out w1 hb1; refine Calls.mono hk ?_; clear hk; rintro e w2 ⟨rfl, hb2⟩)
      | (go_at_call 28; refine Calls.mono HSZ.out ?_; rintro e w1 ⟨rfl, hb1⟩)
      | fail)
    go_ret
    refine ⟨?_, Tr.below_trans (Tr.below_trans hb1 hb2) hb3⟩
    show Ending.returned (Value.string S2) = _
    rw [F2.out]
    simp
end Go.Proofs.YtjkfkgpdlflbhaaDoor
