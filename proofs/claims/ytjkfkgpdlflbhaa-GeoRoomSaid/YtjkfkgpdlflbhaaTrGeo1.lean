/- GeoChecks: the document's answers are the program's. -/
import Derived.Test.YtjkfkgpdlflbhaaTrGeoGeoChecks
import Derived.Test.YtjkfkgpdlflbhaaTrSayGeoChecks
namespace Go.Proofs.Ytjkfkgpdlflbhaa.PGeoChecks
open Go.RowKit Go.Proofs.YtjkfkgpdlflbhaaW.PrintWords Go.Proofs.YtjkfkgpdlflbhaaW.PrintLast Go.Proofs.YtjkfkgpdlflbhaaW.PrintMore
set_option linter.unusedVariables false
set_option linter.unusedSimpArgs false

theorem rright_eq (a b c : Int) : tillrollref05_Right.f a b c = some (decide (Rt a b c)) := by
  unfold tillrollref05_Right.f Rt
  by_cases h1 : 4 ≤ a
  · by_cases h2 : a ≤ 256
    · by_cases h3 : 2 ≤ b
      · by_cases h4 : b ≤ 64
        · by_cases h5 : 32 ≤ c
          · simp [h1, h2, h3, h4, h5]
          · simp [h1, h2, h3, h4, h5]
        · simp [h1, h2, h3, h4]
      · simp [h1, h2, h3]
    · simp [h1, h2]
  · simp [h1]

theorem rroom_eq (n : Nat) (a b c k : Int) (hr : Rt a b c) (hk : -9223372036854775808 ≤ k ∧ k ≤ 9223372036854775807) :
    tillrollref07_Room.f (n + 1) a b c k = some (room a b c k) := by
  unfold tillrollref07_Room.f room
  rw [rright_eq]
  have h' := hr
  unfold Rt at h'
  simp only [Option.bind_some, hr, decide_true, if_true]
  by_cases h1 : k < 0
  · rw [if_pos h1]
    simp only [tillrollref07_Room.j0, if_true]
    rw [if_neg (by omega)]
  · rw [if_neg h1]
    simp only [tillrollref07_Room.j0]
    by_cases h2 : k > 1000
    · rw [if_pos (by simpa using h2), if_neg (by omega)]
    · rw [if_neg (by simpa using h2)]
      have e1 : (wrap64 ((wrap64 ((wrap64 ((wrap64 (a - 2)) - k)) - 3)) - 1)) = a - 6 - k := by unfold wrap64; omega
      have e2 : wrap64 (b - 2) = b - 2 := by unfold wrap64; omega
      rw [e1, e2]
      by_cases h3 : a - 6 - k < 1
      · rw [if_pos h3]
        by_cases h4 : k ≤ a
        · rw [if_pos (show True ∧ 0 ≤ k ∧ k ≤ a from ⟨trivial, by omega, h4⟩)]
          have : blks a k = 0 := by unfold blks; split <;> omega
          rw [this]; simp
        · rw [if_neg (by omega)]
      · rw [if_neg h3, if_pos (show True ∧ 0 ≤ k ∧ k ≤ a from ⟨trivial, by omega, by omega⟩)]
        have eb : blks a k = a - 6 - k := by unfold blks; split <;> omega
        have hb := prod_bd (n := a - 6 - k) (p := b - 2) (by omega) (by omega) (by omega) (by omega)
        by_cases h4 : b = 2
        · rw [if_pos h4, h4]; simp
        · rw [if_neg h4, eb]; congr 1; unfold wrap64; omega

theorem tmod8 (a : Int) (h : 4 ≤ a) : Int.tmod a 8 = a % 8 := Int.tmod_eq_emod_of_nonneg (by omega)
theorem tdiv8 (a : Int) (h : 4 ≤ a) : Int.tdiv a 8 = a / 8 := Int.tdiv_eq_ediv_of_nonneg (by omega)

theorem rcheck_eq (n : Nat) (a b c k l t v : Int) (hk : -9223372036854775808 ≤ k ∧ k ≤ 9223372036854775807) :
    tillrollref07_Check.f (n + 2) a b c k l t v = some (chk a b c k l t v) := by
  have hj : ∀ B : Bool, (B = true → ¬ May a b c k l t v) → (B = false → Rt a b c ∧ 0 ≤ k ∧ (1 ≤ l ∧ l ≤ 4096) ∧ (1 ≤ t ∧ t ≤ 64) ∧ (2 ≤ v ∧ v ≤ 1048576)) →
      tillrollref07_Check.j0 (n + 2) B a b c k l t v = some (chk a b c k l t v) := by
    intro B h1 h2
    unfold chk
    simp only [tillrollref07_Check.j0]
    cases B with
    | true => rw [if_pos rfl, if_neg (h1 rfl)]
    | false =>
      obtain ⟨hr, hk0, hl, ht, hv⟩ := h2 rfl
      have h' := hr
      unfold Rt at h'
      have e1 : wrap64 (l + t) = l + t := by unfold wrap64; omega
      rw [if_neg (by decide), rroom_eq n a b c k hr hk]
      simp only [Option.bind_some, tmod8 a h'.1, tdiv8 a h'.1, e1]
      by_cases h5 : l + t > room a b c k
      · rw [if_pos h5, if_neg (by rintro ⟨_, _, _, _, _, x, _⟩; omega)]
      · rw [if_neg h5]
        have e3 : (wrap64 ((wrap64 ((wrap64 (a / 8)) + 1)) + 8)) = a / 8 + 1 + 8 := by unfold wrap64; omega
        have e4 : (wrap64 ((wrap64 (a / 8)) + 8)) = a / 8 + 8 := by unfold wrap64; omega
        rw [e3, e4]
        by_cases h6 : (a + 7) / 8 + 8 ≤ c
        · rw [if_pos (show May a b c k l t v from ⟨hr, hk0, hl, ht, hv, by omega, h6⟩)]
          by_cases h7 : a % 8 > 0
          · rw [if_pos h7, if_neg (by omega)]
          · rw [if_neg h7, if_neg (by omega)]
        · rw [if_neg (fun x : May a b c k l t v => h6 x.2.2.2.2.2.2)]
          by_cases h7 : a % 8 > 0
          · rw [if_pos h7, if_pos (by omega)]
          · rw [if_neg h7, if_pos (by omega)]
  unfold tillrollref07_Check.f
  rw [rright_eq]
  by_cases h : Rt a b c
  · simp only [Option.bind_some, h, decide_true, if_true]
    by_cases h1 : k < 0
    · rw [if_pos h1]; exact hj _ (fun _ x => by have := x.2.1; omega) (fun e => by cases e)
    rw [if_neg h1]
    by_cases h2 : l < 1
    · rw [if_pos h2]; exact hj _ (fun _ x => by have := x.2.2.1; omega) (fun e => by cases e)
    rw [if_neg h2]
    by_cases h3 : l > 4096
    · rw [if_pos h3]; exact hj _ (fun _ x => by have := x.2.2.1; omega) (fun e => by cases e)
    rw [if_neg h3]
    by_cases h4 : t < 1
    · rw [if_pos h4]; exact hj _ (fun _ x => by have := x.2.2.2.1; omega) (fun e => by cases e)
    rw [if_neg h4]
    by_cases h5 : t > 64
    · rw [if_pos h5]; exact hj _ (fun _ x => by have := x.2.2.2.1; omega) (fun e => by cases e)
    rw [if_neg h5]
    by_cases h6 : v < 2
    · rw [if_pos h6]; exact hj _ (fun _ x => by have := x.2.2.2.2.1; omega) (fun e => by cases e)
    rw [if_neg h6]
    refine hj _ (fun e x => ?_) (fun e => ⟨h, by omega, by omega, by omega, ?_⟩)
    · have := x.2.2.2.2.1; simp at e; omega
    · simp at e; omega
  · simp only [Option.bind_some, h, decide_false, Bool.false_eq_true, if_false]
    exact hj _ (fun _ x => h x.1) (fun e => by cases e)

theorem rwork_eq (n : Nat) (a b c k l t v : Int) (hk : -9223372036854775808 ≤ k ∧ k ≤ 9223372036854775807) :
    tillrollref07_Work.f (n + 2) a b c k l t v = some (work a b c k l t v) := by
  unfold tillrollref07_Work.f work
  rw [rcheck_eq n a b c k l t v hk]
  unfold chk
  by_cases h : May a b c k l t v <;> simp [h]

theorem law_true (a b c k l t v : Int) (hk : -9223372036854775808 ≤ k ∧ k ≤ 9223372036854775807) : tillrolllaw07_GeoChecks.f 2 a b c k l t v = some true := by
  unfold tillrolllaw07_GeoChecks.f tillrolllaw07_of.f
  simp only [Option.bind_some]
  rw [wakes_eq, check_eq a b c k l t v hk, rcheck_eq 0 a b c k l t v hk, work_eq a b c k l t v hk, rwork_eq 0 a b c k l t v hk]
  simp
end Go.Proofs.Ytjkfkgpdlflbhaa.PGeoChecks
namespace Go.Proofs.Ytjkfkgpdlflbhaa
open Go.RowKit
theorem walk_GeoChecks : SayGeoChecks := by
  rintro c0 w ⟨_, _, rfl, ⟨a, rfl, _⟩, _, _, rfl, ⟨b, rfl, _⟩, _, _, rfl, ⟨c, rfl, _⟩, _, _, rfl, ⟨k, rfl, hk⟩, _, _, rfl, ⟨l, rfl, _⟩, _, _, rfl, ⟨t, rfl, _⟩, _, _, rfl, ⟨v, rfl, _⟩, rfl⟩
  exact PGeoChecks.tillrolllaw07_GeoChecks.calls 2 a b c k l t v true w (PGeoChecks.law_true a b c k l t v (bounds_i64 hk))
end Go.Proofs.Ytjkfkgpdlflbhaa
