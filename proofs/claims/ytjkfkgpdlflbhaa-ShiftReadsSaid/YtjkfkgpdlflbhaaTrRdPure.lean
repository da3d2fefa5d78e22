/- What a reader reads, as pieces of its bytes. -/
import Derived.Test.YtjkfkgpdlflbhaaTrRd4
namespace Go.Proofs.Ytjkfkgpdlflbhaa
open Go.RowKit Go.Sort
open Tr (Sl Chg)
set_option linter.unusedVariables false
set_option linter.unusedSimpArgs false

theorem rdNum_yes (k : Nat) (m : List UInt8) (h : k ≤ m.length) : rdNum k (m, false) = (NUM (m.take k), (m.drop k, false)) := by
  unfold rdNum rdTake
  rw [if_neg (by simp; omega)]
theorem rdNum_short (k : Nat) (m : List UInt8) (h : m.length < k) : rdNum k (m, false) = (0, ([], true)) := by
  unfold rdNum rdTake
  rw [if_pos (by simp; omega)]
  simp [NUM]
theorem rdNum_wrong (k : Nat) (m : List UInt8) : rdNum k (m, true) = (0, ([], true)) := by
  unfold rdNum rdTake
  rw [if_pos (by simp)]
  simp [NUM]
theorem rdNum_w (k : Nat) (s : List UInt8 × Bool) (h : s.2 = true) : (rdNum k s).2.2 = true := by
  obtain ⟨m, b⟩ := s
  dsimp only at h
  subst h
  rw [rdNum_wrong]
theorem rdSt_w (s : List UInt8 × Bool) (h : s.2 = true) : ∀ i, (rdSt s i).2 = true
  | 0 => rdNum_w 4 s h
  | i + 1 => rdNum_w 8 _ (rdSt_w s h i)
theorem rdSts_w (s : List UInt8 × Bool) (h : s.2 = true) : ∀ i, (rdSts s i).2 = true
  | 0 => h
  | i + 1 => rdSt_w _ (rdSts_w s h i) 5
def oneV (m : List UInt8) (j : Nat) : Int := sg64 (NUM ((m.drop (4 + 8 * j)).take 8))
def totL (m : List UInt8) : Tot := ⟨NUM (m.take 4), oneV m 0, oneV m 1, oneV m 2, oneV m 3, oneV m 4⟩
def okL (m : List UInt8) : Prop := 0 ≤ oneV m 0 ∧ 0 ≤ oneV m 1 ∧ 0 ≤ oneV m 2 ∧ 0 ≤ oneV m 3 ∧ 0 ≤ oneV m 4
theorem rdSt_at (m : List UInt8) : ∀ i, 4 + 8 * i ≤ m.length → rdSt (m, false) i = (m.drop (4 + 8 * i), false)
  | 0, h => by unfold rdSt; rw [rdNum_yes 4 m (by omega)]
  | i + 1, h => by
    unfold rdSt
    rw [rdSt_at m i (by omega), rdNum_yes 8 _ (by simp; omega)]
    simp only [List.drop_drop]
    rw [show 4 + 8 * i + 8 = 4 + 8 * (i + 1) by omega]
theorem rdV_at (m : List UInt8) (i : Nat) (h : 4 + 8 * (i + 1) ≤ m.length) : rdV (m, false) i = oneV m i := by
  unfold rdV oneV
  rw [rdSt_at m i (by omega), rdNum_yes 8 _ (by simp; omega)]
theorem rdSt_short (m : List UInt8) (h : m.length < 44) : (rdSt (m, false) 5).2 = true := by
  have key : ∀ i, m.length < 4 + 8 * i → (rdSt (m, false) i).2 = true := by
    intro i
    induction i with
    | zero =>
      intro h
      unfold rdSt
      rw [rdNum_short 4 m (by omega)]
    | succ i ih =>
      intro h
      unfold rdSt
      by_cases h1 : m.length < 4 + 8 * i
      · exact rdNum_w 8 _ (ih h1)
      · rw [rdSt_at m i (by omega), rdNum_short 8 _ (by simp; omega)]
  exact key 5 (by omega)
theorem oneV_take (m : List UInt8) (j : Nat) (h : j < 5) : oneV (m.take 44) j = oneV m j := by
  unfold oneV
  rw [List.drop_take, List.take_take, show min 8 (44 - (4 + 8 * j)) = 8 by omega]
theorem rdTot_at (m : List UInt8) (h : 44 ≤ m.length) : rdTot (m, false) = totL (m.take 44) := by
  unfold rdTot totL
  rw [rdNum_yes 4 m (by omega), rdV_at m 0 (by omega), rdV_at m 1 (by omega), rdV_at m 2 (by omega), rdV_at m 3 (by omega), rdV_at m 4 (by omega)]
  simp only [oneV_take m _ (show (0 : Nat) < 5 by omega), oneV_take m _ (show (1 : Nat) < 5 by omega), oneV_take m _ (show (2 : Nat) < 5 by omega), oneV_take m _ (show (3 : Nat) < 5 by omega), oneV_take m _ (show (4 : Nat) < 5 by omega)]
  rw [List.take_take]
  rfl
theorem rdOk_at (m : List UInt8) (h : 44 ≤ m.length) : rdOk (m, false) ↔ okL (m.take 44) := by
  unfold rdOk okL
  rw [rdV_at m 0 (by omega), rdV_at m 1 (by omega), rdV_at m 2 (by omega), rdV_at m 3 (by omega), rdV_at m 4 (by omega)]
  simp only [oneV_take m _ (show (0 : Nat) < 5 by omega), oneV_take m _ (show (1 : Nat) < 5 by omega), oneV_take m _ (show (2 : Nat) < 5 by omega), oneV_take m _ (show (3 : Nat) < 5 by omega), oneV_take m _ (show (4 : Nat) < 5 by omega)]
theorem rdSts_at (m : List UInt8) : ∀ i, 44 * i ≤ m.length → rdSts (m, false) i = (m.drop (44 * i), false)
  | 0, h => by unfold rdSts; simp
  | i + 1, h => by
    unfold rdSts
    rw [rdSts_at m i (by omega), rdSt_at _ 5 (by simp; omega)]
    simp only [List.drop_drop]
    rw [show 44 * i + (4 + 8 * 5) = 44 * (i + 1) by omega]
theorem rdSts_short (m : List UInt8) : ∀ i, m.length < 44 * i → (rdSts (m, false) i).2 = true
  | 0, h => by omega
  | i + 1, h => by
    unfold rdSts
    by_cases h1 : m.length < 44 * i
    · exact rdSt_w _ (rdSts_short m i h1) 5
    · rw [rdSts_at m i (by omega)]
      exact rdSt_short _ (by simp; omega)
def xL (l : List UInt8) : Nat := NUM (l.take 5)
def bL (l : List UInt8) (i : Nat) : Nat := (l.getD i 0).toNat
theorem NUM_one (l : List UInt8) (i : Nat) (h : i < l.length) : NUM ((l.drop i).take 1) = bL l i := by
  have e : (l.drop i).take 1 = [l[i]] := by rw [List.drop_eq_getElem_cons h]; rfl
  rw [e]
  simp [NUM, bL, List.getD, h]
theorem rd_fields (l : List UInt8) (h : 7 ≤ l.length) : rdX (l, false) = xL l ∧ rdO (l, false) = bL l 5 ∧ rdN (l, false) = bL l 6 ∧ rdH (l, false) = (l.drop 7, false) := by
  unfold rdX rdO rdN rdH xL
  rw [rdNum_yes 5 l (by omega)]
  dsimp only
  rw [rdNum_yes 1 (l.drop 5) (by simp; omega)]
  dsimp only
  simp only [List.drop_drop]
  rw [rdNum_yes 1 (l.drop (5 + 1)) (by simp; omega)]
  dsimp only
  simp only [List.drop_drop]
  exact ⟨trivial, NUM_one l 5 (by omega), NUM_one l 6 (by omega), trivial⟩
theorem rdH_short (l : List UInt8) (h : l.length < 7) : (rdH (l, false)).2 = true := by
  unfold rdH
  by_cases h5 : l.length < 5
  · rw [rdNum_short 5 l h5]
    exact rdNum_w 1 _ (rdNum_w 1 _ rfl)
  · rw [rdNum_yes 5 l (by omega)]
    dsimp only
    by_cases h6 : l.length < 6
    · rw [rdNum_short 1 _ (by simp; omega)]
      exact rdNum_w 1 _ rfl
    · rw [rdNum_yes 1 (l.drop 5) (by simp; omega)]
      dsimp only
      rw [rdNum_short 1 _ (by simp; omega)]
/-- Are there shifts at the beginning of bytes? -/
def goodL (keep : Int) (l : List UInt8) : Prop :=
  7 ≤ l.length ∧ ¬ rdBad keep (xL l) (bL l 5) (bL l 6) ∧ 7 + 44 * (bL l 6 + bL l 5) ≤ l.length ∧ ∀ i, i < bL l 6 + bL l 5 → okL ((l.drop (7 + 44 * i)).take 44)
def shL (keep : Int) (l : List UInt8) : Sh :=
  ⟨keep, xL l, bL l 5 == 1, if bL l 5 = 1 then totL ((l.drop (7 + 44 * bL l 6)).take 44) else .zero, (List.range (bL l 6)).map fun i => totL ((l.drop (7 + 44 * i)).take 44)⟩
theorem good_iff (keep : Int) (l : List UInt8) : rdGood keep (l, false) ↔ goodL keep l := by
  unfold rdGood goodL
  by_cases h7 : 7 ≤ l.length
  · obtain ⟨e1, e2, e3, e4⟩ := rd_fields l h7
    rw [e1, e2, e3, e4]
    constructor
    · rintro ⟨h1, h2, h3⟩
      have hl : 44 * (bL l 6 + bL l 5) ≤ (l.drop 7).length := by
        rcases Nat.lt_or_ge (l.drop 7).length (44 * (bL l 6 + bL l 5)) with h | h
        · rw [rdSts_short _ _ h] at h3; cases h3
        · exact h
      rw [List.length_drop] at hl
      refine ⟨h7, h1, by omega, fun i hi => ?_⟩
      have := h2 i hi
      rw [rdSts_at _ i (by rw [List.length_drop]; omega), List.drop_drop, rdOk_at _ (by rw [List.length_drop]; omega)] at this
      exact this
    · rintro ⟨-, h1, h2, h3⟩
      refine ⟨h1, fun i hi => ?_, ?_⟩
      · rw [rdSts_at _ i (by rw [List.length_drop]; omega), List.drop_drop, rdOk_at _ (by rw [List.length_drop]; omega)]
        exact h3 i hi
      · rw [rdSts_at _ _ (by rw [List.length_drop]; omega)]
  · constructor
    · rintro ⟨-, -, h3⟩
      rw [rdSts_w _ (rdH_short l (by omega))] at h3
      cases h3
    · rintro ⟨h, -⟩
      exact absurd h h7
theorem sh_eq (keep : Int) (l : List UInt8) (h : goodL keep l) : rdSh keep (l, false) = shL keep l ∧ rdSts (rdH (l, false)) (rdN (l, false) + rdO (l, false)) = (l.drop (7 + 44 * (bL l 6 + bL l 5)), false) := by
  obtain ⟨h7, h1, h2, h3⟩ := h
  obtain ⟨e1, e2, e3, e4⟩ := rd_fields l h7
  unfold rdSh shL rdTots
  rw [e1, e2, e3, e4]
  have hT : ∀ i, i < bL l 6 + bL l 5 → rdTot (rdSts (l.drop 7, false) i) = totL ((l.drop (7 + 44 * i)).take 44) := fun i hi => by
    rw [rdSts_at _ i (by rw [List.length_drop]; omega), List.drop_drop, rdTot_at _ (by rw [List.length_drop]; omega)]
  refine ⟨?_, ?_⟩
  · congr 1
    · by_cases ho : bL l 5 = 1
      · rw [if_pos ho, if_pos ho, hT _ (by omega)]
      · rw [if_neg ho, if_neg ho]
    · apply List.map_congr_left
      intro i hi
      rw [List.mem_range] at hi
      exact hT i (by omega)
  · rw [rdSts_at _ _ (by rw [List.length_drop]; omega), List.drop_drop]
theorem sg_le (n : Nat) (h : n < 18446744073709551616) : sg64 n ≤ 9223372036854775807 := by unfold sg64; split <;> omega
theorem oneV_le (m : List UInt8) (j : Nat) : oneV m j ≤ 9223372036854775807 := sg_le _ (NUM_lt _ 8 (by simp; omega))
theorem totL_ok (m : List UInt8) (h : okL m) : (totL m).ok := by
  obtain ⟨h0, h1, h2, h3, h4⟩ := h
  have hn : NUM (m.take 4) < 4294967296 := NUM_lt _ 4 (by simp; omega)
  unfold totL Tot.ok Amt
  exact ⟨⟨by simp, by dsimp only; omega⟩, ⟨h0, oneV_le m 0⟩, ⟨h1, oneV_le m 1⟩, ⟨h2, oneV_le m 2⟩, ⟨h3, oneV_le m 3⟩, ⟨h4, oneV_le m 4⟩⟩
theorem shL_ok (keep : Int) (l : List UInt8) (k0 : 1 ≤ keep) (k1 : keep ≤ 64) (h : goodL keep l) : (shL keep l).ok := by
  obtain ⟨h7, h1, h2, h3⟩ := h
  unfold rdBad at h1
  unfold shL
  refine ⟨⟨k0, k1⟩, ⟨?_, ?_⟩, ?_, ?_, ?_, ?_⟩
  · dsimp only; omega
  · dsimp only; omega
  · dsimp only
    split
    · rename_i ho
      exact totL_ok _ (h3 _ (by omega))
    · exact Tot.zero_ok
  · intro t ht
    simp only [List.mem_map, List.mem_range] at ht
    obtain ⟨i, hi, rfl⟩ := ht
    exact totL_ok _ (h3 i (by omega))
  · simp; omega
  · dsimp only
    simp only [List.length_map, List.length_range]
    split
    · rename_i ho
      simp at ho
      omega
    · omega
end Go.Proofs.Ytjkfkgpdlflbhaa
