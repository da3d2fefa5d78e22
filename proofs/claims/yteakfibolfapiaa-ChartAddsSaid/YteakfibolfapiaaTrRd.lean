/- Numbers of bytes (be.Get, the reference's number), and the reader of bytes. -/
import Derived.Test.YteakfibolfapiaaTrCur
namespace Go.Proofs.Yteakfibolfapiaa
open Go.RowKit Go.Sort
open Tr (Sl Chg)
set_option linter.unusedVariables false
set_option linter.unusedSimpArgs false

/-- The number of bytes. -/
def NUM (l : List UInt8) : Nat := l.foldl (fun n b => 256 * n + b.toNat) 0
theorem NUM_snoc (l : List UInt8) (b : UInt8) : NUM (l ++ [b]) = 256 * NUM l + b.toNat := by simp [NUM]
theorem NUM_take (l : List UInt8) (i : Nat) (h : i < l.length) : NUM (l.take (i + 1)) = 256 * NUM (l.take i) + l[i].toNat := by
  rw [List.take_succ_eq_append_getElem h, NUM_snoc]
theorem NUM_le (l : List UInt8) : ∀ i, NUM (l.take i) < 256 ^ i := by
  intro i
  induction i with
  | zero => simp [NUM]
  | succ i ih =>
    by_cases h : i < l.length
    · rw [NUM_take l i h, Nat.pow_succ]
      have := l[i].toNat_lt
      omega
    · rw [List.take_of_length_le (by omega), ← List.take_of_length_le (i := i) (l := l) (by omega), Nat.pow_succ]
      omega
theorem NUM_lt (l : List UInt8) (k : Nat) (h : l.length ≤ k) : NUM l < 256 ^ k := by
  have := NUM_le l k
  rwa [List.take_of_length_le h] at this
theorem str_take (l : List UInt8) (k : Nat) : (ByteArray.mk l.toArray).extract 0 k = ⟨(l.take k).toArray⟩ := by
  simp [ByteArray.extract_mk]
theorem str_drop (l : List UInt8) (k n : Nat) (h : l.length ≤ n) : (ByteArray.mk l.toArray).extract k n = ⟨(l.drop k).toArray⟩ := by
  simp [ByteArray.extract_mk]
  rw [List.take_of_length_le (by simp; omega)]
theorem str_mid (l : List UInt8) (a b : Nat) : (ByteArray.mk l.toArray).extract a b = ⟨((l.drop a).take (b - a)).toArray⟩ := by
  simp [ByteArray.extract_mk]

theorem or256 (n b : Nat) (hn : n < 72057594037927936) (hb : b < 256) : bits BinOp.or IntKind.u64 (IntKind.u64.wrap ((n : Int) * 256)) (IntKind.u64.wrap (b : Int)) = ((256 * n + b : Nat) : Int) := by
  rw [u64_eq, u64_eq, show (n : Int) * 256 % 18446744073709551616 = ((n * 256 : Nat) : Int) by omega, show (b : Int) % 18446744073709551616 = ((b : Nat) : Int) by omega, u64_or_nat _ _ (by omega) (by omega)]
  congr 1
  rw [show n * 256 = n <<< 8 by rw [Nat.shiftLeft_eq], ← Nat.shiftLeft_add_eq_or_of_lt (by omega), Nat.shiftLeft_eq]
  omega
theorem p256 (i : Nat) (h : i < 8) : 256 ^ i ≤ 72057594037927936 := by
  have := Nat.pow_le_pow_right (n := 256) (by omega) (show i ≤ 7 by omega)
  exact this

set_option maxRecDepth 100000 in
set_option maxHeartbeats 4000000 in
theorem C_BeGet (l : List UInt8) (h : l.length ≤ 8) (w : World) : Calls Try.prog 76 #[.string ⟨l.toArray⟩] w fun e w' => e = .returned (.int .u64 (NUM l)) ∧ Below w.heap.size w w' := by
  have hsz : (ByteArray.mk l.toArray).size = l.length := by simp [ByteArray.size]
  go_enter Try.func76, Try.ntmps76
  go_wp2_with fail
  go_loopw [3, 7] (fun s3 s7 wr => ∃ i : Nat, i ≤ l.length ∧ s3 = .int .u64 (NUM (l.take i)) ∧ s7 = .int .i64 i ∧ Below w.heap.size w wr) (fun _ s7 _ => l.length - (intOf s7).toNat)
  case atStart => exact ⟨0, by omega, by simp [NUM], rfl, Below.refl _ _⟩
  case round =>
    obtain ⟨i, hi, rfl, rfl, hB⟩ := hrel
    by_cases hlt : i < l.length
    · have hn := NUM_le l i
      have hnt := NUM_take l i hlt
      have hp := p256 i (by omega)
      have hbb := l[i].toNat_lt
      obtain ⟨n, hnn⟩ : ∃ n, n = NUM (l.take i) := ⟨_, rfl⟩
      rw [← hnn] at hn hnt ⊢
      have hor := or256 n l[i].toNat (by omega) hbb
      have HN := Lib.hid hnt; have HOR := Lib.hid hor
      clear hnn hnt hn hor hp hbb
      go_wp2_with fail
      refine ⟨⟨i + 1, by omega, ?_, by go_num, hB⟩, by simp [intOf]; omega⟩
      rw [HN.out]
      exact congrArg _ HOR.out
    · have hie : i = l.length := by omega
      subst hie
      go_wp2_with fail
      go_ret
      exact ⟨by simp, hB⟩

end Go.Proofs.Yteakfibolfapiaa
