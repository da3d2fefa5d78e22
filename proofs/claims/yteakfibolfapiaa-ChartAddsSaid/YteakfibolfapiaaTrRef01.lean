/- The reference of numbers as bytes. -/
import Derived.Test.YteakfibolfapiaaTrBe
namespace Go.Proofs.Yteakfibolfapiaa
open Go.RowKit Go.Sort
set_option linter.unusedVariables false
set_option linter.unusedSimpArgs false

theorem BE_zero (n : Nat) : BE n 0 = [] := by unfold BE; rw [List.drop_eq_nil_iff]; rw [be8_len]; omega
theorem BE_succ (n i : Nat) (hi : i < 8) : BE n (i + 1) = UInt8.ofNat (n / 256 ^ i) :: BE n i := by
  unfold BE
  have h : 8 - (i + 1) < (be8 n).length := by rw [be8_len]; omega
  rw [List.drop_eq_getElem_cons h]
  congr 1
  · simp only [be8, List.getElem_map, List.getElem_range]
    congr 3
    omega
  · congr 1
    omega
def R01Inv (n k : Nat) (B : World) (s0 s5 s6 : Value) (wr : World) : Prop :=
  ∃ i : Nat, i ≤ k ∧ s0 = .int .u64 ((n / 256 ^ i : Nat) : Int) ∧ s5 = .string ⟨(BE n i).toArray⟩ ∧ s6 = .int .i64 i ∧ Below B.heap.size B wr

set_option maxRecDepth 100000 in
set_option maxHeartbeats 8000000 in
theorem C_R01Put (n k : Nat) (hn : n < 18446744073709551616) (h1 : 1 ≤ k) (h2 : k ≤ 8) (w : World) :
    Calls Try.prog 73 #[.int .u64 n, .int .i64 k] w fun e w' => e = .returned (.string ⟨(BE n k).toArray⟩) ∧ Below w.heap.size w w' := by
  go_enter Try.func73, Try.ntmps73
  go_wp2_with fail
  go_loopw [0, 5, 6] (fun s0 s5 s6 wr => R01Inv n k w s0 s5 s6 wr) (fun _ _ s6 _ => k - (intOf s6).toNat)
  case atStart => exact ⟨0, by omega, by simp, by rw [BE_zero], rfl, Below.refl _ _⟩
  case round =>
    obtain ⟨i, hi, rfl, rfl, rfl, hB⟩ := hrel
    by_cases hlt : i < k
    · obtain ⟨m, hm⟩ : ∃ m, m = n / 256 ^ i := ⟨_, rfl⟩
      have hms : m < 18446744073709551616 := by rw [hm]; exact Nat.lt_of_le_of_lt (Nat.div_le_self _ _) hn
      have hm2 : n / 256 ^ (i + 1) = m / 256 := by rw [hm, Nat.div_div_eq_div_mul, Nat.pow_succ]
      have hbe : BE n (i + 1) = UInt8.ofNat m :: BE n i := by rw [BE_succ n i (by omega), hm]
      rw [← hm]
      have hconv : (convert 74 9 (.slice (some ⟨wr.heap.size, 0, none⟩) 1 1)).run Try.prog (wr.alloc (.cells #[.int .u8 ((m : Int) % 256)] 5)) = .ok (.string ⟨#[UInt8.ofNat m]⟩) (wr.alloc (.cells #[.int .u8 ((m : Int) % 256)] 5)) := by
        have := Go.run_convert_bytes_back (P := Try.prog) (wr.alloc (.cells #[.int .u8 ((m : Int) % 256)] 5)) 74 9 5 ⟨wr.heap.size, 0, none⟩ 1 [UInt8.ofNat m] Try.underlying74 Try.underlying5 Try.underlying9 (fun j hj => by
          have : j = 0 := by simpa using hj
          subst this
          rw [show (⟨wr.heap.size, 0, none⟩ : Addr).add 0 = ⟨wr.heap.size, 0, none⟩ by (unfold Addr.add; split <;> simp_all), Tr.cell_blk (Tr.blk_new _ _)]
          simp)
        exact this
      have HM := Lib.hid hm; have HM2 := Lib.hid hm2; have HBE := Lib.hid hbe
      clear hm hm2 hbe
      have hSl : (BE n i).length ≤ 8 := by rw [BE_len n i (by omega)]; omega
      generalize hS : BE n i = S at *
      have HS := Lib.hid hS
      clear hS
      have hsz1 : ¬ 9223372036854775807 < (ByteArray.mk #[UInt8.ofNat m]).size + (ByteArray.mk S.toArray).size := by simp only [ByteArray.size, List.size_toArray, List.size_toArray]; simp; omega
      have hadd : (Op.stringOp .add ⟨#[UInt8.ofNat m]⟩ ⟨S.toArray⟩).run Try.prog (wr.alloc (.cells #[.int .u8 ((m : Int) % 256)] 5)) = .ok (.string (⟨#[UInt8.ofNat m]⟩ ++ ⟨S.toArray⟩)) (wr.alloc (.cells #[.int .u8 ((m : Int) % 256)] 5)) := by rw [run_string_add_if, if_neg hsz1]
      go_wp2_with fail
      go_roundw
      case rel =>
        refine ⟨i + 1, by omega, by rw [HM2.out]; rfl, ?_, by go_num, Tr.below_alloc hB (Nat.le_refl _)⟩
        rw [HBE.out]
        congr 1
      case measure => simp [intOf]; omega
    · have hik : i = k := by omega
      subst hik
      go_wp2_with fail
      go_ret
      exact ⟨rfl, hB⟩

def PowInv (k : Nat) (B : World) (s3 s4 : Value) (wr : World) : Prop := ∃ i : Nat, i ≤ k ∧ s3 = .int .u64 ((2 ^ i : Nat) : Int) ∧ s4 = .int .i64 i ∧ Below B.heap.size B wr
set_option maxRecDepth 100000 in
set_option maxHeartbeats 4000000 in
theorem C_R01Pow (k : Nat) (hk : k ≤ 63) (w : World) : Calls Try.prog 86 #[.int .i64 k] w fun e w' => e = .returned (.int .u64 ((2 ^ k : Nat) : Int)) ∧ Below w.heap.size w w' := by
  go_enter Try.func86, Try.ntmps86
  go_wp2_with fail
  go_loopw [3, 4] (fun s3 s4 wr => PowInv k w s3 s4 wr) (fun _ s4 _ => k - (intOf s4).toNat)
  case atStart => exact ⟨0, by omega, rfl, rfl, Below.refl _ _⟩
  case round =>
    obtain ⟨i, hi, rfl, rfl, hB⟩ := hrel
    by_cases hlt : i < k
    · have hle : 2 ^ i ≤ 2 ^ 62 := Nat.pow_le_pow_right (by omega) (by omega)
      have hs : 2 ^ (i + 1) = 2 * 2 ^ i := by rw [Nat.pow_succ]; omega
      generalize hP : 2 ^ i = P at *
      have HS := Lib.hid hs; have HP := Lib.hid hP
      clear hs hP
      have hP2 : (P : Int) ≤ 4611686018427387904 := by omega
      clear hle
      go_wp2_with fail
      go_roundw
      case rel =>
        refine ⟨i + 1, by omega, ?_, by go_num, hB⟩
        rw [HS.out]
        first | rfl | (congr 1; push_cast; omega) | (congr 1; omega)
      case measure => simp [intOf]; omega
    · have hik : i = k := by omega
      subst hik
      go_wp2_with fail
      go_ret
      exact ⟨rfl, hB⟩

set_option maxRecDepth 100000 in
set_option maxHeartbeats 4000000 in
theorem C_R01Fits_yes (n k : Nat) (hn : n < 256 ^ k) (h1 : 1 ≤ k) (h2 : k ≤ 8) (w : World) : Calls Try.prog 72 #[.int .u64 n, .int .i64 k] w fun e w' => e = .returned (.bool true) ∧ Below w.heap.size w w' := by
  by_cases h8 : k = 8
  · subst h8
    go_enter Try.func72, Try.ntmps72
    go_wp2_with fail
    go_ret
    exact ⟨rfl, by (repeat (first | with_reducible assumption | (with_reducible exact Below.refl _ _) | ((with_reducible refine Tr.below_alloc ?_ ?_); rotate_left; focus (first | omega | exact Nat.le_refl _)) | (with_reducible refine Tr.below_drew ?_) | (with_reducible refine Tr.below_drewN ?_) | ((with_reducible refine Tr.below_set ?_ ?_); rotate_left; focus (first | omega | (simp; done) | (simp; omega))) | ((with_reducible refine Tr.below_trans ?_ (by assumption) ?_); rotate_left; focus (first | exact Nat.le_refl _ | omega))))⟩
  · have hp : 256 ^ k = 2 ^ (8 * k) := by rw [show (256 : Nat) = 2 ^ 8 from rfl, ← Nat.pow_mul]
    rw [hp] at hn
    have hC := fun W => C_R01Pow (8 * k) (by omega) W
    generalize hP : 2 ^ (8 * k) = P at *
    have hcast : (((8 * k : Nat)) : Int) = 8 * (k : Int) := by push_cast; rfl
    rw [hcast] at hC
    have HC := Lib.hid hC
    clear hC hP hp hcast
    have hn' : (n : Int) < P := by omega
    go_enter Try.func72, Try.ntmps72
    go_wp2_with (go_at_call 86; refine (HC.out _).mono ?_; rintro e w1 ⟨rfl, hb1⟩)
    go_ret
    refine ⟨?_, hb1⟩
    first
    | rfl
    | (congr 2; simp; omega)
    | (congr 2; simp)
end Go.Proofs.Yteakfibolfapiaa
