/- Plain facts on the geometry's functions, as they are printed in PGeoChecks: what a chip's room is, and which configs may be. -/
import Derived.Test.YtjkfkgpdlflbhaaPGeoChecksx4
namespace Go.Proofs.Ytjkfkgpdlflbhaa.PGeoChecks
open Go.RowKit Go.Proofs.YtjkfkgpdlflbhaaW.PrintWords Go.Proofs.YtjkfkgpdlflbhaaW.PrintLast Go.Proofs.YtjkfkgpdlflbhaaW.PrintMore
set_option linter.unusedVariables false
set_option linter.unusedSimpArgs false

def Rt (a b c : Int) : Prop := 4 ≤ a ∧ a ≤ 256 ∧ 2 ≤ b ∧ b ≤ 64 ∧ 32 ≤ c ∧ c ≤ 1024
instance (a b c : Int) : Decidable (Rt a b c) := by unfold Rt; infer_instance

theorem within_eq (a b c : Int) : geo_within.f a b c = some (decide (b ≤ a ∧ a ≤ c)) := by
  unfold geo_within.f; by_cases h : a ≥ b <;> simp [h] <;> omega
theorem nwithin_eq (a b c : Int) : nand_within.f a b c = some (decide (b ≤ a ∧ a ≤ c)) := by
  unfold nand_within.f; by_cases h : a ≥ b <;> simp [h] <;> omega
theorem right_eq (a b c : Int) : nand_Shape_Right.f a b c = some (decide (Rt a b c)) := by
  unfold nand_Shape_Right.f Rt
  rw [nwithin_eq, nwithin_eq, nwithin_eq]
  by_cases h1 : 4 ≤ a ∧ a ≤ 256
  · by_cases h2 : 2 ≤ b ∧ b ≤ 64
    · simp only [Option.bind_some, h1, h2, and_self, decide_true, if_true]
      exact congrArg some (decide_eq_decide.2 ⟨fun g => ⟨trivial, trivial, trivial, trivial, g.1, g.2⟩, fun g => ⟨g.2.2.2.2.1, g.2.2.2.2.2⟩⟩)
    · have : ¬ (4 ≤ a ∧ a ≤ 256 ∧ 2 ≤ b ∧ b ≤ 64 ∧ 32 ≤ c ∧ c ≤ 1024) := by omega
      rw [decide_eq_true h1, decide_eq_false h2, decide_eq_false this]; rfl
  · have : ¬ (4 ≤ a ∧ a ≤ 256 ∧ 2 ≤ b ∧ b ≤ 64 ∧ 32 ≤ c ∧ c ≤ 1024) := by omega
    rw [decide_eq_false h1, decide_eq_false this]; rfl

def each (a b c : Int) : Int := if Rt a b c then b - 1 else 0
theorem each_eq (a b c : Int) : geo_Each.f a b c = some (each a b c) := by
  unfold geo_Each.f each
  rw [right_eq]
  by_cases h : Rt a b c
  · simp only [Option.bind_some, h, decide_true, if_true]; unfold Rt at h; unfold wrap64; congr 1; omega
  · simp [h]

/-- How many blocks count. -/
def blks (a k : Int) : Int := if a - 6 - k < 0 then 0 else a - 6 - k
def room (a b c k : Int) : Int := if Rt a b c ∧ 0 ≤ k ∧ k ≤ a then blks a k * (b - 2) else 0

theorem prod_bd {n p : Int} (h0 : 0 ≤ n) (h1 : n ≤ 256) (h2 : 0 ≤ p) (h3 : p ≤ 62) : 0 ≤ n * p ∧ n * p ≤ 15872 := by
  refine ⟨Int.mul_nonneg h0 h2, ?_⟩
  calc n * p ≤ 256 * p := Int.mul_le_mul_of_nonneg_right h1 h2
    _ ≤ 256 * 62 := Int.mul_le_mul_of_nonneg_left h3 (by omega)
    _ = 15872 := by decide

theorem room_eq (a b c k : Int) (hk : -9223372036854775808 ≤ k ∧ k ≤ 9223372036854775807) : geo_Room.f a b c k = some (room a b c k) := by
  unfold geo_Room.f room
  rw [right_eq, each_eq]
  by_cases h : Rt a b c
  · have h' := h
    unfold Rt at h'
    by_cases h1 : k < 0
    · simp [h, h1]; omega
    · by_cases h2 : k > a
      · simp [h, h1, h2]; omega
      · have e1 : (wrap64 ((wrap64 ((wrap64 ((wrap64 (a - 2)) - k)) - 3)) - 1)) = a - 6 - k := by unfold wrap64; omega
        have e2 : wrap64 (each a b c - 1) = b - 2 := by unfold each; rw [if_pos h]; unfold wrap64; omega
        have e3 : mx 0 (a - 6 - k) = blks a k := by unfold mx blks; split <;> split <;> omega
        have hb := prod_bd (n := blks a k) (p := b - 2) (by unfold blks; split <;> omega) (by unfold blks; split <;> omega) (by omega) (by omega)
        simp only [Option.bind_some, h, decide_true, if_true]
        rw [if_neg h1, if_neg h2, e1, e2, e3, if_pos ⟨trivial, by omega, by omega⟩]
        congr 1; unfold wrap64; omega
  · simp [h]
theorem room_bd (a b c k : Int) : 0 ≤ room a b c k ∧ room a b c k ≤ 15872 := by
  unfold room
  split
  · rename_i h
    obtain ⟨h, h1, h2⟩ := h
    unfold Rt at h
    exact prod_bd (by unfold blks; split <;> omega) (by unfold blks; split <;> omega) (by omega) (by omega)
  · omega

def May (a b c k l t v : Int) : Prop := Rt a b c ∧ 0 ≤ k ∧ (1 ≤ l ∧ l ≤ 4096) ∧ (1 ≤ t ∧ t ≤ 64) ∧ (2 ≤ v ∧ v ≤ 1048576) ∧ l + t ≤ room a b c k ∧ (a + 7) / 8 + 8 ≤ c
instance (a b c k l t v : Int) : Decidable (May a b c k l t v) := by unfold May; infer_instance
def chk (a b c k l t v : Int) : Int := if May a b c k l t v then 0 else 2

theorem check_eq (a b c k l t v : Int) (hk : -9223372036854775808 ≤ k ∧ k ≤ 9223372036854775807) : geo_Config_Check.f a b c k l t v = some (chk a b c k l t v) := by
  unfold geo_Config_Check.f chk
  rw [right_eq, within_eq, within_eq, within_eq, room_eq a b c k hk]
  by_cases h : Rt a b c
  · have h' := h
    unfold Rt at h'
    by_cases h1 : 0 ≤ k
    · by_cases h2 : 1 ≤ l ∧ l ≤ 4096
      · by_cases h3 : 1 ≤ t ∧ t ≤ 64
        · by_cases h4 : 2 ≤ v ∧ v ≤ 1048576
          · have e1 : wrap64 (l + t) = l + t := by unfold wrap64; omega
            have e2 : (wrap64 ((wrap64 (Int.tdiv (wrap64 ((wrap64 (a + 8)) - 1)) 8)) + 8)) = (a + 7) / 8 + 8 := by
              have : (wrap64 ((wrap64 (a + 8)) - 1)) = a + 7 := by unfold wrap64; omega
              rw [this, Int.tdiv_eq_ediv_of_nonneg (by omega)]
              unfold wrap64; omega
            simp only [Option.bind_some, h, h2, h3, h4, and_self, decide_true, if_true, e1, e2]
            rw [if_pos h1]
            by_cases h5 : l + t > room a b c k
            · rw [if_pos h5, if_neg (by rintro ⟨_, _, _, _, _, x, _⟩; omega)]
            · rw [if_neg h5]
              by_cases h6 : (a + 7) / 8 + 8 > c
              · rw [if_pos h6, if_neg (by rintro ⟨_, _, _, _, _, _, x⟩; omega)]
              · rw [if_neg h6, if_pos ⟨h, h1, h2, h3, h4, by omega, by omega⟩]
          · have : ¬ May a b c k l t v := fun x => h4 x.2.2.2.2.1
            simp [h, h1, h2, h3, h4, this]
        · have : ¬ May a b c k l t v := fun x => h3 x.2.2.2.1
          simp [h, h1, h2, h3, this]
      · have : ¬ May a b c k l t v := fun x => h2 x.2.2.1
        simp [h, h1, h2, this]
    · have : ¬ May a b c k l t v := fun x => h1 x.2.1
      simp [h, this]; omega
  · have : ¬ May a b c k l t v := fun x => h x.1
    simp [h, this]

def work (a b c k l t v : Int) : Int := if May a b c k l t v then wrap64 ((wrap64 ((wrap64 (2 * b)) * (wrap64 (b + a)))) + (wrap64 ((wrap64 (2 * b)) * t))) else 0
theorem work_eq (a b c k l t v : Int) (hk : -9223372036854775808 ≤ k ∧ k ≤ 9223372036854775807) : geo_Config_Work.f a b c k l t v = some (work a b c k l t v) := by
  unfold geo_Config_Work.f work
  rw [check_eq a b c k l t v hk]
  unfold chk
  by_cases h : May a b c k l t v <;> simp [h]
theorem wakes_eq : tillrolllaw07_wakes.f = some true := by decide +kernel
end Go.Proofs.Ytjkfkgpdlflbhaa.PGeoChecks
