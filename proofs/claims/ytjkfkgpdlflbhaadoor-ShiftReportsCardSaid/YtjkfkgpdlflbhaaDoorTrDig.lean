/- The reference's digits of a number. -/
import Derived.Test.YtjkfkgpdlflbhaaDoorTrCents
import Derived.Lib.ItoaNum
namespace Go.Proofs.YtjkfkgpdlflbhaaDoor
open Go.RowKit Go.Sort
open Tr (Sl Chg)
set_option linter.unusedVariables false
set_option linter.unusedSimpArgs false

/-- The last i digits. -/
def DL (n : Nat) : Nat → List UInt8
  | 0 => []
  | i + 1 => UInt8.ofNat (48 + n / 10 ^ i % 10) :: DL n i
theorem DL_len (n : Nat) : ∀ i, (DL n i).length = i
  | 0 => rfl
  | i + 1 => by simp [DL, DL_len n i]
/-- How many digits the reference tells. -/
def DK (n least K : Nat) : Prop := least ≤ K ∧ n / 10 ^ K = 0 ∧ K ≤ 20 ∧ ∀ i, i < K → 0 < n / 10 ^ i ∨ i < least
theorem DK_one {n least K K' : Nat} (h : DK n least K) (h' : DK n least K') : K = K' := by
  have key : ∀ K K', DK n least K → DK n least K' → ¬ K < K' := by
    intro K K' h h' hlt
    rcases h'.2.2.2 K hlt with h1 | h1
    · have := h.2.1; omega
    · have := h.1; omega
  have h1 := key K K' h h'
  have h2 := key K' K h' h
  omega
theorem div_pow20 (n : Nat) (h : n ≤ 9223372036854775807) (i : Nat) (hi : 20 ≤ i) : n / 10 ^ i = 0 := by
  have h1 : 10 ^ 20 ≤ 10 ^ i := Nat.pow_le_pow_right (by omega) hi
  have h2 : (10 : Nat) ^ 20 = 100000000000000000000 := by decide
  exact Nat.div_eq_of_lt (by omega)

def strLen : Value → Nat
  | .string s => s.size
  | _ => 0

set_option maxRecDepth 100000 in
set_option maxHeartbeats 4000000 in
theorem C_R03digits (n least : Nat) (hn : n ≤ 9223372036854775807) (h1 : 1 ≤ least) (h2 : least ≤ 2) (w : World) :
    Calls Tryd.prog 24 #[.int .i64 n, .int .i64 least] w fun e w' => (∃ K, DK n least K ∧ e = .returned (.string ⟨(DL n K).toArray⟩)) ∧ Below w.heap.size w w' := by
  go_enter Tryd.func24, Tryd.ntmps24
  go_wp2_with fail
  go_loopw [0, 5] (fun s0 s5 wr => ∃ i : Nat, i ≤ 20 ∧ (∀ j, j < i → 0 < n / 10 ^ j ∨ j < least) ∧ s0 = .int .i64 ((n / 10 ^ i : Nat) : Int) ∧ s5 = .string ⟨(DL n i).toArray⟩ ∧ Below w.heap.size w wr) (fun _ s5 _ => 21 - strLen s5)
  case atStart => exact ⟨0, by omega, fun j hj => by omega, by simp, rfl, Below.refl _ _⟩
  case round =>
    obtain ⟨i, hi, hall, rfl, rfl, hB⟩ := hrel
    obtain ⟨m, hm⟩ : ∃ m, m = n / 10 ^ i := ⟨_, rfl⟩
    have hms : m ≤ 9223372036854775807 := by rw [hm]; exact Nat.le_trans (Nat.div_le_self _ _) hn
    have hm2 : n / 10 ^ (i + 1) = m / 10 := by rw [hm, Nat.div_div_eq_div_mul, Nat.pow_succ]
    have hdl : DL n (i + 1) = UInt8.ofNat (48 + m % 10) :: DL n i := by rw [hm]; rfl
    have hsz : (ByteArray.mk (DL n i).toArray).size = i := by simp [ByteArray.size, DL_len]
    have hi20 : 0 < m → i < 20 := fun h => by
      rcases Nat.lt_or_ge i 20 with h' | h'
      · exact h'
      · have := div_pow20 n hn i h'; omega
    have hall2 : (0 < m ∨ i < least) → ∀ j, j < i + 1 → 0 < n / 10 ^ j ∨ j < least := fun h j hj => by
      rcases Nat.lt_or_ge j i with h' | h'
      · exact hall j h'
      · rw [show j = i by omega, ← hm]; exact h
    rw [← hm]
    have HM := Lib.hid hm; have HM2 := Lib.hid hm2; have HALL := Lib.hid hall; have HALL2 := Lib.hid hall2
    obtain ⟨S, hS⟩ : ∃ S, S = DL n i := ⟨_, rfl⟩
    rw [← hS] at hsz hdl ⊢
    have HDL := Lib.hid hdl; have HSS := Lib.hid hS
    clear hm hm2 hall hall2 hdl hS
    by_cases hgo : 0 < m ∨ i < least
    · have HGO := Lib.hid hgo
      by_cases hm0 : 0 < m
      · have hi19 := hi20 hm0
        have hmi : (0 : Int) < m := by omega
        clear hgo hi20
        obtain ⟨b8, hb8⟩ : ∃ b8 : UInt8, b8 = UInt8.ofNat (48 + m % 10) := ⟨_, rfl⟩
        rw [← hb8] at HDL
        have hconv : (convert 79 9 (.slice (some ⟨wr.heap.size, 0, none⟩) 1 1)).run Tryd.prog (wr.alloc (.cells #[.int .u8 (48 + (m : Int) % 10)] 5)) = .ok (.string ⟨#[b8]⟩) (wr.alloc (.cells #[.int .u8 (48 + (m : Int) % 10)] 5)) := by
          have := Go.run_convert_bytes_back (P := Tryd.prog) (wr.alloc (.cells #[.int .u8 (48 + (m : Int) % 10)] 5)) 79 9 5 ⟨wr.heap.size, 0, none⟩ 1 [b8] Tryd.underlying79 Tryd.underlying5 Tryd.underlying9 (fun j hj => by
            have : j = 0 := by simpa using hj
            subst this
            rw [show (⟨wr.heap.size, 0, none⟩ : Addr).add 0 = ⟨wr.heap.size, 0, none⟩ by (unfold Addr.add; split <;> simp_all), Tr.cell_blk (Tr.blk_new _ _)]
            have e : b8.toNat = 48 + m % 10 := by rw [hb8, UInt8.toNat_ofNat_of_lt' (by show _ < 256; omega)]
            simp only [List.getElem_cons_zero, e]
            simp)
          exact this
        have hsz1 : ¬ 9223372036854775807 < (ByteArray.mk #[b8]).size + (ByteArray.mk S.toArray).size := by rw [hsz]; simp [ByteArray.size]; omega
        have hadd : (Op.stringOp .add ⟨#[b8]⟩ ⟨S.toArray⟩).run Tryd.prog (wr.alloc (.cells #[.int .u8 (48 + (m : Int) % 10)] 5)) = .ok (.string (⟨#[b8]⟩ ++ ⟨S.toArray⟩)) (wr.alloc (.cells #[.int .u8 (48 + (m : Int) % 10)] 5)) := by rw [run_string_add_if, if_neg hsz1]
        clear hb8
        go_wp2_with fail
        go_roundw
        case rel =>
          refine ⟨i + 1, by omega, HALL2.out HGO.out, by rw [HM2.out]; rfl, ?_, Tr.below_alloc hB (Nat.le_refl _)⟩
          rw [HDL.out]
          congr 1
        case measure =>
          have e : (ByteArray.mk #[b8] ++ ByteArray.mk S.toArray).size = 1 + i := by
            rw [ByteArray.size_append, hsz]
            rfl
          simp only [List.getD, Array.getD, strLen]
          simp [strLen, e, hsz]
          omega
      · have hil : i < least := by omega
        obtain rfl : m = 0 := by omega
        have hil2 : (i : Int) < least := by omega
        clear hgo hi20
        obtain ⟨b8, hb8⟩ : ∃ b8 : UInt8, b8 = UInt8.ofNat (48 + 0 % 10) := ⟨_, rfl⟩
        rw [← hb8] at HDL
        have hconv : (convert 79 9 (.slice (some ⟨wr.heap.size, 0, none⟩) 1 1)).run Tryd.prog (wr.alloc (.cells #[.int .u8 48] 5)) = .ok (.string ⟨#[b8]⟩) (wr.alloc (.cells #[.int .u8 48] 5)) := by
          have := Go.run_convert_bytes_back (P := Tryd.prog) (wr.alloc (.cells #[.int .u8 48] 5)) 79 9 5 ⟨wr.heap.size, 0, none⟩ 1 [b8] Tryd.underlying79 Tryd.underlying5 Tryd.underlying9 (fun j hj => by
            have : j = 0 := by simpa using hj
            subst this
            rw [show (⟨wr.heap.size, 0, none⟩ : Addr).add 0 = ⟨wr.heap.size, 0, none⟩ by (unfold Addr.add; split <;> simp_all), Tr.cell_blk (Tr.blk_new _ _)]
            have e : b8.toNat = 48 + 0 % 10 := by rw [hb8, UInt8.toNat_ofNat_of_lt' (by show _ < 256; omega)]
            simp only [List.getElem_cons_zero, e]
            simp)
          exact this
        have hsz1 : ¬ 9223372036854775807 < (ByteArray.mk #[b8]).size + (ByteArray.mk S.toArray).size := by rw [hsz]; simp [ByteArray.size]; omega
        have hadd : (Op.stringOp .add ⟨#[b8]⟩ ⟨S.toArray⟩).run Tryd.prog (wr.alloc (.cells #[.int .u8 48] 5)) = .ok (.string (⟨#[b8]⟩ ++ ⟨S.toArray⟩)) (wr.alloc (.cells #[.int .u8 48] 5)) := by rw [run_string_add_if, if_neg hsz1]
        clear hb8
        go_wp2_with fail
        go_roundw
        case rel =>
          refine ⟨i + 1, by omega, HALL2.out HGO.out, by rw [HM2.out]; rfl, ?_, Tr.below_alloc hB (Nat.le_refl _)⟩
          rw [HDL.out]
          congr 1
        case measure =>
          have e : (ByteArray.mk #[b8] ++ ByteArray.mk S.toArray).size = 1 + i := by
            rw [ByteArray.size_append, hsz]
            rfl
          simp only [List.getD, Array.getD, strLen]
          simp [strLen, e, hsz]
          omega
    · obtain rfl : m = 0 := by omega
      have hil : ¬ (i : Int) < least := by omega
      clear hi20
      go_wp2_with fail
      go_ret
      exact ⟨⟨i, ⟨by omega, HM.out.symm, hi, HALL.out⟩, by rw [HSS.out]; rfl⟩, hB⟩
theorem DL_snoc (n : Nat) : ∀ i, DL n (i + 1) = DL (n / 10) i ++ [UInt8.ofNat (48 + n % 10)]
  | 0 => by simp [DL]
  | i + 1 => by
    rw [DL, DL_snoc n i, DL, Nat.div_div_eq_div_mul, show 10 ^ (i + 1) = 10 * 10 ^ i by rw [Nat.pow_succ, Nat.mul_comm]]
    simp
theorem DL_dec (n : Nat) : ∀ K, DK n 1 K → DL n K = Lib.decDigits n := by
  induction n using Nat.strongRecOn with
  | _ n ih =>
    rintro K ⟨h1, h2, h3, h4⟩
    by_cases h : n < 10
    · have hK : K = 1 := by
        rcases Nat.lt_or_ge 1 K with h' | h'
        · rcases h4 1 h' with h5 | h5
          · simp at h5; omega
          · omega
        · omega
      subst hK
      rw [Lib.decDigits, dif_pos h]
      simp [DL, Nat.mod_eq_of_lt h]
    · obtain ⟨k, rfl⟩ : ∃ k, K = k + 1 := ⟨K - 1, by omega⟩
      have hk : 1 ≤ k := by
        rcases Nat.eq_zero_or_pos k with h' | h'
        · subst h'; simp at h2; omega
        · exact h'
      rw [DL_snoc, Lib.decDigits, dif_neg h, ih (n / 10) (by omega) k ⟨hk, ?_, by omega, fun i hi => ?_⟩]
      · rw [Nat.div_div_eq_div_mul, ← show 10 ^ (k + 1) = 10 * 10 ^ k by rw [Nat.pow_succ, Nat.mul_comm]]
        exact h2
      · rcases h4 (i + 1) (by omega) with h5 | h5
        · left
          rw [Nat.div_div_eq_div_mul, ← show 10 ^ (i + 1) = 10 * 10 ^ i by rw [Nat.pow_succ, Nat.mul_comm]]
          exact h5
        · omega
theorem DL_two (b K : Nat) (hb : b < 100) (h : DK b 2 K) : DL b K = [UInt8.ofNat (48 + b / 10), UInt8.ofNat (48 + b % 10)] := by
  obtain ⟨h1, h2, h3, h4⟩ := h
  have hK : K = 2 := by
    rcases Nat.lt_or_ge 2 K with h' | h'
    · rcases h4 2 h' with h5 | h5
      · simp at h5; omega
      · omega
    · omega
  subst hK
  simp [DL, Nat.mod_eq_of_lt (show b / 10 < 10 by omega)]
/-- An amount's text. -/
def T03 (c : Int) : List UInt8 := (if c < 0 then [45] else []) ++ Lib.decDigits (c.natAbs / 100) ++ [46] ++ [UInt8.ofNat (48 + c.natAbs % 100 / 10), UInt8.ofNat (48 + c.natAbs % 100 % 10)]
theorem decDigits_len20 (u : Nat) (h : u ≤ 9223372036854775807) : (Lib.decDigits u).length ≤ 20 := by
  rw [Lib.decDigits_length]
  rcases Nat.lt_or_ge 20 (Lib.nDigits u) with h' | h'
  · exfalso
    have key : ∀ u : Nat, u < 10 ^ 20 → Lib.nDigits u ≤ 20 := by
      intro u hu
      have gen : ∀ k u : Nat, u < 10 ^ (k + 1) → Lib.nDigits u ≤ k + 1 := by
        intro k
        induction k with
        | zero => intro u hu; rw [Lib.nDigits_small (by simpa using hu)]; omega
        | succ k ih =>
          intro u hu
          by_cases h10 : u < 10
          · rw [Lib.nDigits_small h10]; omega
          · rw [Lib.nDigits_big h10]
            have := ih (u / 10) (by rw [Nat.pow_succ] at hu; omega)
            omega
      exact gen 19 u hu
    have := key u (by omega)
    omega
  · exact h'

set_option maxRecDepth 100000 in
set_option maxHeartbeats 4000000 in
theorem C_R03Text (c : Int) (hc : -9223372036854775808 ≤ c ∧ c ≤ 9223372036854775807) (w : World) :
    Calls Tryd.prog 14 #[.int .i64 c] w fun e w' => e = .returned (.string ⟨(T03 c).toArray⟩) ∧ Below w.heap.size w w' := by
  obtain ⟨m, hm⟩ : ∃ m, m = c.natAbs := ⟨_, rfl⟩
  have hA : ∀ W, Calls Tryd.prog 24 #[.int .i64 ((m / 100 : Nat) : Int), .int .i64 1] W fun e w' => e = .returned (.string ⟨(Lib.decDigits (m / 100)).toArray⟩) ∧ Below W.heap.size W w' := fun W => by
    refine (C_R03digits (m / 100) 1 (by omega) (by omega) (by omega) W).mono ?_
    rintro e w' ⟨⟨K, hK, rfl⟩, hb⟩
    rw [DL_dec _ K hK]
    exact ⟨rfl, hb⟩
  have hB : ∀ W, Calls Tryd.prog 24 #[.int .i64 ((m % 100 : Nat) : Int), .int .i64 2] W fun e w' => e = .returned (.string ⟨#[UInt8.ofNat (48 + m % 100 / 10), UInt8.ofNat (48 + m % 100 % 10)]⟩) ∧ Below W.heap.size W w' := fun W => by
    refine (C_R03digits (m % 100) 2 (by omega) (by omega) (by omega) W).mono ?_
    rintro e w' ⟨⟨K, hK, rfl⟩, hb⟩
    rw [DL_two _ K (by omega) hK]
    exact ⟨rfl, hb⟩
  obtain ⟨D, hD⟩ : ∃ D, D = Lib.decDigits (m / 100) := ⟨_, rfl⟩
  have hDl := decDigits_len20 (m / 100) (by omega)
  rw [← hD] at hA hDl
  have hT : T03 c = (if c < 0 then [45] else []) ++ D ++ [46] ++ [UInt8.ofNat (48 + m % 100 / 10), UInt8.ofNat (48 + m % 100 % 10)] := by unfold T03; rw [← hm, hD]
  obtain ⟨b1, hb1⟩ : ∃ b1, b1 = UInt8.ofNat (48 + m % 100 / 10) := ⟨_, rfl⟩
  obtain ⟨b2, hb2⟩ : ∃ b2, b2 = UInt8.ofNat (48 + m % 100 % 10) := ⟨_, rfl⟩
  rw [← hb1, ← hb2] at hB hT
  rw [hT]
  obtain ⟨a9, ha9⟩ : ∃ a9, a9 = m / 100 := ⟨_, rfl⟩
  obtain ⟨b9, hb9⟩ : ∃ b9, b9 = m % 100 := ⟨_, rfl⟩
  rw [← ha9] at hA
  rw [← hb9] at hB
  have hszD : (ByteArray.mk D.toArray).size ≤ 20 := by simp only [ByteArray.size, List.size_toArray]; exact hDl
  have ha90 : a9 ≤ 92233720368547758 := by omega
  have hb90 : b9 < 100 := by omega
  by_cases hneg : c < 0
  · have hq : c.tdiv 100 = -(a9 : Int) := by
      rw [show c = -(m : Int) by omega, Int.neg_tdiv, ha9]; rfl
    have hr : c.tmod 100 = -(b9 : Int) := by
      rw [show c = -(m : Int) by omega, Int.neg_tmod, hb9]; rfl
    have hneg' : decide (c < 0) = true := by simpa using hneg
    have HA := Lib.hid hA; have HB := Lib.hid hB; have HT := Lib.hid hT
    obtain ⟨S1, hS1⟩ : ∃ S1 : ByteArray, S1 = ⟨#[45]⟩ ++ ⟨D.toArray⟩ := ⟨_, rfl⟩
    obtain ⟨S2, hS2⟩ : ∃ S2 : ByteArray, S2 = S1 ++ ⟨#[46]⟩ := ⟨_, rfl⟩
    obtain ⟨S3, hS3⟩ : ∃ S3 : ByteArray, S3 = S2 ++ ⟨#[b1, b2]⟩ := ⟨_, rfl⟩
    have l1 : S1.size ≤ 21 := by rw [hS1, ByteArray.size_append]; have : (ByteArray.mk #[45]).size ≤ 1 := by decide
                                 omega
    have l2 : S2.size ≤ 22 := by rw [hS2, ByteArray.size_append]; have : (ByteArray.mk #[46]).size ≤ 1 := by decide
                                 omega
    have e2 : (ByteArray.mk #[b1, b2]).size = 2 := rfl
    have a1 : ∀ W, (Op.stringOp .add ⟨#[45]⟩ ⟨D.toArray⟩).run Tryd.prog W = .ok (.string S1) W := fun W => by
      rw [hS1]
      exact run_string_add_sum W _ _ (by have : (ByteArray.mk #[45]).size ≤ 1 := by decide
                                         omega)
    have a2 : ∀ W, (Op.stringOp .add S1 ⟨#[46]⟩).run Tryd.prog W = .ok (.string S2) W := fun W => by
      rw [hS2]
      exact run_string_add_sum W _ _ (by have : (ByteArray.mk #[46]).size ≤ 1 := by decide
                                         omega)
    have a3 : ∀ W, (Op.stringOp .add S2 ⟨#[b1, b2]⟩).run Tryd.prog W = .ok (.string S3) W := fun W => by
      rw [hS3]
      exact run_string_add_sum W _ _ (by omega)
    have hfin : S3 = ⟨([45] ++ D ++ [46] ++ [b1, b2]).toArray⟩ := by
      rw [hS3, hS2, hS1]
      apply ByteArray.ext
      simp
    have HFIN := Lib.hid hfin
    clear hA hB hT hb1 hb2 ha9 hb9 hD hm hS1 hS2 hS3 hfin l1 l2 e2 hszD hDl
    go_enter Tryd.func14, Tryd.ntmps14
    go_wp2_with (first
      | (go_at_call 24; have hk := HB.out w1; refine Calls.mono hk ?_; clear hk; rintro e w2 ⟨rfl, hb2⟩)
      | (go_at_call 24; have hk := HA.out w; refine Calls.mono hk ?_; clear hk; rintro e w1 ⟨rfl, hb1⟩)
      | fail)
    go_ret
    refine ⟨?_, Tr.below_trans hb1 hb2⟩
    show Ending.returned (Value.string S3) = _
    rw [HFIN.out]
    simp
  · have hq : c.tdiv 100 = (a9 : Int) := by
      rw [show c = (m : Int) by omega, ha9]; rfl
    have hr : c.tmod 100 = (b9 : Int) := by
      rw [show c = (m : Int) by omega, hb9]; rfl
    have hneg' : decide (c < 0) = false := by simpa using hneg
    have HA := Lib.hid hA; have HB := Lib.hid hB; have HT := Lib.hid hT
    obtain ⟨S1, hS1⟩ : ∃ S1 : ByteArray, S1 = ⟨#[]⟩ ++ ⟨D.toArray⟩ := ⟨_, rfl⟩
    obtain ⟨S2, hS2⟩ : ∃ S2 : ByteArray, S2 = S1 ++ ⟨#[46]⟩ := ⟨_, rfl⟩
    obtain ⟨S3, hS3⟩ : ∃ S3 : ByteArray, S3 = S2 ++ ⟨#[b1, b2]⟩ := ⟨_, rfl⟩
    have l1 : S1.size ≤ 21 := by rw [hS1, ByteArray.size_append]; have : (ByteArray.mk #[]).size ≤ 1 := by decide
                                 omega
    have l2 : S2.size ≤ 22 := by rw [hS2, ByteArray.size_append]; have : (ByteArray.mk #[46]).size ≤ 1 := by decide
                                 omega
    have e2 : (ByteArray.mk #[b1, b2]).size = 2 := rfl
    have a1 : ∀ W, (Op.stringOp .add ⟨#[]⟩ ⟨D.toArray⟩).run Tryd.prog W = .ok (.string S1) W := fun W => by
      rw [hS1]
      exact run_string_add_sum W _ _ (by have : (ByteArray.mk #[]).size ≤ 1 := by decide
                                         omega)
    have a2 : ∀ W, (Op.stringOp .add S1 ⟨#[46]⟩).run Tryd.prog W = .ok (.string S2) W := fun W => by
      rw [hS2]
      exact run_string_add_sum W _ _ (by have : (ByteArray.mk #[46]).size ≤ 1 := by decide
                                         omega)
    have a3 : ∀ W, (Op.stringOp .add S2 ⟨#[b1, b2]⟩).run Tryd.prog W = .ok (.string S3) W := fun W => by
      rw [hS3]
      exact run_string_add_sum W _ _ (by omega)
    have hfin : S3 = ⟨([] ++ D ++ [46] ++ [b1, b2]).toArray⟩ := by
      rw [hS3, hS2, hS1]
      apply ByteArray.ext
      simp
    have HFIN := Lib.hid hfin
    clear hA hB hT hb1 hb2 ha9 hb9 hD hm hS1 hS2 hS3 hfin l1 l2 e2 hszD hDl
    go_enter Tryd.func14, Tryd.ntmps14
    go_wp2_with (first
      | (go_at_call 24; have hk := HB.out w1; refine Calls.mono hk ?_; clear hk; rintro e w2 ⟨rfl, hb2⟩)
      | (go_at_call 24; have hk := HA.out w; refine Calls.mono hk ?_; clear hk; rintro e w1 ⟨rfl, hb1⟩)
      | fail)
    go_ret
    refine ⟨?_, Tr.below_trans hb1 hb2⟩
    show Ending.returned (Value.string S3) = _
    rw [HFIN.out]
    simp
end Go.Proofs.YtjkfkgpdlflbhaaDoor
