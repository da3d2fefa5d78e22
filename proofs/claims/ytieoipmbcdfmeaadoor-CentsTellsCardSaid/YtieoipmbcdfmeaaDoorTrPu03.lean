/- Amounts' texts, read: plain lists of bytes. -/
import Derived.Test.YtieoipmbcdfmeaaDoorTrCa1
import Derived.Lib.ParseIntB
namespace Go.Proofs.YtieoipmbcdfmeaaDoor.Ab
open Go Go.RowKit Go.Sort
set_option linter.unusedVariables false
set_option linter.unusedSimpArgs false

def dig (c : UInt8) : Prop := 48 ≤ c.toNat ∧ c.toNat ≤ 57
def valD (acc : Nat) (l : List UInt8) : Nat := l.foldl (fun a c => a * 10 + (c.toNat - 48)) acc
theorem valD_ge : ∀ (l : List UInt8) (acc : Nat), acc ≤ valD acc l
  | [], acc => Nat.le_refl _
  | c :: r, acc => by
    have := valD_ge r (acc * 10 + (c.toNat - 48))
    simp only [valD, List.foldl_cons] at this ⊢
    omega
theorem pm_ok (M : Nat) (hM : M ≤ 18446744073709551615) : ∀ (l : List UInt8) (acc : Nat), (∀ c ∈ l, dig c) → valD acc l ≤ M → Lib.parseUintM M acc l = .ok (valD acc l)
  | [], acc, _, _ => rfl
  | c :: r, acc, hd, hv => by
    have h1 : 48 ≤ c.toNat ∧ c.toNat ≤ 57 := hd c List.mem_cons_self
    have e : valD acc (c :: r) = valD (acc * 10 + (c.toNat - 48)) r := rfl
    rw [e] at hv ⊢
    have h2 := valD_ge r (acc * 10 + (c.toNat - 48))
    rw [Lib.parseUintM, if_pos h1, if_neg (by omega), if_neg (by omega)]
    exact pm_ok M hM r _ (fun x hx => hd x (List.mem_cons_of_mem _ hx)) hv
theorem b48 (k : Nat) (h : k < 10) : (UInt8.ofNat (48 + k)).toNat = 48 + k := by rw [UInt8.toNat_ofNat_of_lt' (by show _ < 256; omega)]
theorem dig48 (k : Nat) (h : k < 10) : dig (UInt8.ofNat (48 + k)) := by unfold dig; rw [b48 k h]; omega
theorem valD_app (acc : Nat) (l r : List UInt8) : valD acc (l ++ r) = valD (valD acc l) r := by simp [valD]
theorem dec_dig (u : Nat) : ∀ c ∈ Lib.decDigits u, dig c := by
  induction u using Nat.strongRecOn with
  | _ u ih =>
    rw [Lib.decDigits]
    split
    · intro c hc
      rw [List.mem_singleton] at hc
      subst hc
      exact dig48 _ (by omega)
    · intro c hc
      rw [List.mem_append, List.mem_singleton] at hc
      rcases hc with hc | rfl
      · exact ih (u / 10) (by omega) c hc
      · exact dig48 _ (by omega)
theorem dec_val (u : Nat) : valD 0 (Lib.decDigits u) = u := by
  induction u using Nat.strongRecOn with
  | _ u ih =>
    rw [Lib.decDigits]
    split
    · simp only [valD, List.foldl_cons, List.foldl_nil]
      rw [b48 _ (by omega)]; omega
    · rw [valD_app, ih (u / 10) (by omega)]
      simp only [valD, List.foldl_cons, List.foldl_nil]
      rw [b48 _ (by omega)]; omega
theorem dec_ne (u : Nat) : Lib.decDigits u ≠ [] := by
  rw [Lib.decDigits]
  split <;> simp
theorem index_at (c : UInt8) (r : List UInt8) : ∀ l : List UInt8, c ∉ l → Lib.indexByte (l ++ c :: r) c = l.length
  | [], _ => by simp [Lib.indexByte]
  | b :: l, h => by
    simp only [List.mem_cons, not_or] at h
    have ih := index_at c r l h.2
    have hb : (b == c) = false := by simpa using fun e => h.1 e.symm
    simp only [List.cons_append, Lib.indexByte, hb, ih, List.length_cons]
    have : ¬ ((l.length : Int) == -1) = true := by simp
    simp only [this, Bool.false_eq_true, if_false]
    omega
theorem index_lt (c : UInt8) : ∀ l : List UInt8, Lib.indexByte l c < l.length
  | [] => by simp [Lib.indexByte]
  | b :: l => by
    have ih := index_lt c l
    rw [Lib.indexByte]
    have e : ((b :: l).length : Int) = l.length + 1 := by simp
    rw [e]
    split
    · omega
    · split <;> omega
/-- The digits ahead of the point; all of them. -/
def wD (c : Int) : List UInt8 := Lib.decDigits (c.natAbs / 100)
def rD (c : Int) : List UInt8 := [UInt8.ofNat (48 + c.natAbs % 100 / 10), UInt8.ofNat (48 + c.natAbs % 100 % 10)]
theorem T03_eq (c : Int) : T03 c = (if c < 0 then [45] else []) ++ (wD c ++ 46 :: rD c) := by simp [T03, wD, rD]
theorem wD_not (c : Int) (b : UInt8) (h : ¬ dig b) : b ∉ wD c := fun hm => h (dec_dig _ _ hm)
theorem T03_pre (c : Int) : Lib.hasPrefix (T03 c) [45] = decide (c < 0) ∧ Lib.trimPrefix (T03 c) [45] = wD c ++ 46 :: rD c := by
  have h1 : Lib.hasPrefix (T03 c) [45] = decide (c < 0) := by
    rw [T03_eq]
    unfold Lib.hasPrefix
    split
    · rename_i h; simp [h]
    · rename_i h
      obtain ⟨d, l, hl⟩ := List.exists_cons_of_ne_nil (dec_ne (c.natAbs / 100))
      have hd := wD_not c 45 (by unfold dig; decide)
      have e : wD c = d :: l := hl
      rw [e] at hd ⊢
      simp only [List.mem_cons, not_or] at hd
      have : ((45 : UInt8) == d) = false := by simpa using hd.1
      simp [h, List.isPrefixOf, this]
  refine ⟨h1, ?_⟩
  unfold Lib.trimPrefix
  rw [h1, T03_eq]
  by_cases h : c < 0 <;> simp [h]
theorem T03_cut (c : Int) : Lib.indexByte (wD c ++ 46 :: rD c) 46 = (wD c).length ∧ cutA (wD c ++ 46 :: rD c) (wD c).length = wD c ∧ cutB (wD c ++ 46 :: rD c) (wD c).length = rD c := by
  refine ⟨index_at _ _ _ (wD_not c 46 (by unfold dig; decide)), ?_, ?_⟩
  · simp [cutA]
  · simp [cutB]
theorem T03_val (c : Int) : valD 0 (wD c ++ rD c) = c.natAbs ∧ ∀ b ∈ wD c ++ rD c, dig b := by
  constructor
  · rw [valD_app, show valD 0 (wD c) = c.natAbs / 100 from dec_val _]
    simp only [rD, valD, List.foldl_cons, List.foldl_nil]
    rw [b48 _ (by omega), b48 _ (by omega)]
    omega
  · intro b hb
    rw [List.mem_append] at hb
    rcases hb with hb | hb
    · exact dec_dig _ _ hb
    · simp only [rD, List.mem_cons, List.not_mem_nil, or_false] at hb
      rcases hb with rfl | rfl
      · exact dig48 _ (by omega)
      · exact dig48 _ (by omega)
theorem T03_pu (c : Int) (hc : I64 c) : Lib.parseUintB 64 (wD c ++ rD c) = .ok c.natAbs := by
  obtain ⟨h1, h2⟩ := T03_val c
  unfold Lib.parseUintB
  rw [if_neg (by simp [rD]), pm_ok _ (by decide) _ _ h2 (by rw [h1]; unfold I64 at hc; omega), h1]
/-- What is read of a text. -/
def rdU (s : List UInt8) : Lib.NumEnd Nat :=
  let t := Lib.trimPrefix s [45]
  let j := Lib.indexByte t 46
  Lib.parseUintB 64 (cutA t j ++ cutB t j)
theorem rdU_T03 (c : Int) (hc : I64 c) : rdU (T03 c) = .ok c.natAbs := by
  unfold rdU
  obtain ⟨h1, h2, h3⟩ := T03_cut c
  simp only [(T03_pre c).2, h1, h2, h3]
  exact T03_pu c hc
theorem T03_inj {c c' : Int} (hc : I64 c) (hc' : I64 c') (h : T03 c = T03 c') : c = c' := by
  have h1 := rdU_T03 c hc
  rw [h, rdU_T03 c' hc'] at h1
  have h2 := (T03_pre c).1
  rw [h, (T03_pre c').1] at h2
  injection h1 with h1
  have : (c' < 0) ↔ (c < 0) := by simpa using h2
  omega
theorem T03_len (c : Int) (hc : I64 c) : (T03 c).length ≤ 24 ∧ 4 ≤ (T03 c).length := by
  have h1 := decDigits_len20 (c.natAbs / 100) (by unfold I64 at hc; omega)
  have h2 : 1 ≤ (wD c).length := by
    have := dec_ne (c.natAbs / 100)
    unfold wD
    cases h : Lib.decDigits (c.natAbs / 100) with
    | nil => exact absurd h this
    | cons => simp
  rw [T03_eq]
  unfold wD at *
  simp only [List.length_append, List.length_cons, rD, List.length_nil]
  split <;> simp <;> omega
end Go.Proofs.YtieoipmbcdfmeaaDoor.Ab
