/- GeoGrows: a block more, a spare more, a logical page less: the law's walk. -/
import Derived.Test.YtjkfkgpdlflbhaaTrGeoC
import Derived.Test.YtjkfkgpdlflbhaaTrSayGeoGrows
namespace Go.Proofs.Ytjkfkgpdlflbhaa
open Go.RowKit Go.Sort
open PGeoChecks Tr Go.Proofs.YtjkfkgpdlflbhaaW.PrintWords Go.Proofs.YtjkfkgpdlflbhaaW.PrintLast Go.Proofs.YtjkfkgpdlflbhaaW.PrintMore
set_option linter.unusedVariables false
def Two (a b c k l t v : Int) (B gx : Nat) (w : World) (s4 s5 : Value) (wx : World) : Prop :=
  ∃ g4 g5, s4 = .pointer (some ⟨g4, 0, none⟩) ∧ s5 = .pointer (some ⟨g5, 0, none⟩) ∧ g4 ≠ g5 ∧ g4 ≠ gx ∧ g5 ≠ gx ∧ B ≤ g4 ∧ B ≤ g5 ∧ wx.heap[g4]? = some (.cells #[.int .i64 a, .int .i64 b, .int .i64 c] 25 (0, 0)) ∧
    wx.heap[g5]? = some (.cells #[.int .i64 a, .int .i64 b, .int .i64 c] 25 (0, 0)) ∧ wx.heap[gx]? = some (.cells #[.int .i64 a, .int .i64 b, .int .i64 c, .int .i64 k, .int .i64 l, .int .i64 t, .int .i64 v] 27 (0, 0)) ∧ Below B w wx
theorem room_nonneg (a b c k : Int) : 0 ≤ room a b c k := (room_bd a b c k).1
theorem blks_spare (a k : Int) : blks a (k + 1) ≤ blks a k := by unfold blks; split <;> split <;> omega
theorem blks_more (a k : Int) : blks a k ≤ blks (a + 1) k := by unfold blks; split <;> split <;> omega
theorem room_spare (a b c k : Int) (hk : 0 ≤ k) : room a b c (k + 1) ≤ room a b c k := by
  by_cases h : Rt a b c ∧ 0 ≤ k + 1 ∧ k + 1 ≤ a
  · have h' := h.1
    unfold Rt at h'
    unfold room
    rw [if_pos h, if_pos ⟨h.1, hk, by omega⟩]
    exact Int.mul_le_mul_of_nonneg_right (blks_spare a k) (by omega)
  · have := room_nonneg a b c k
    have e : room a b c (k + 1) = 0 := by unfold room; rw [if_neg h]
    omega
theorem room_more (a b c k : Int) (hr : Rt (a + 1) b c) : room a b c k ≤ room (a + 1) b c k := by
  by_cases h : Rt a b c ∧ 0 ≤ k ∧ k ≤ a
  · have h' := h.1
    unfold Rt at h'
    unfold room
    rw [if_pos h, if_pos ⟨hr, h.2.1, by omega⟩]
    exact Int.mul_le_mul_of_nonneg_right (blks_more a k) (by omega)
  · have := room_nonneg (a + 1) b c k
    have e : room a b c k = 0 := by unfold room; rw [if_neg h]
    omega

set_option maxHeartbeats 1000000 in
theorem grows_no (a b c k l t v : Int) (hr : decide (Rt a b c) = false) (w : World) :
    Calls Try.prog 6 #[.agg #[.int .i64 a, .int .i64 b, .int .i64 c, .int .i64 k, .int .i64 l, .int .i64 t, .int .i64 v]] w fun e w' => e = .returned (.bool true) ∧ Below w.heap.size w w' := by
  go_enter Try.func6, Try.ntmps6
  go_upto_region 2 with (go_at_call 11; refine (C_of _ _ _ _ _ _ _ _).mono ?_; rintro e w1 ⟨rfl, hb1⟩)
  have hz := hb1.size
  simp at hz
  go_cut [4, 5] (fun s4 s5 wx => Two a b c k l t v w.heap.size w1.heap.size w s4 s5 wx)
  case first =>
    go_region
    · go_wp2_with fail; go_meet
      refine ⟨w1.heap.size + 1, w1.heap.size + 1 + 1, rfl, rfl, by omega, by omega, by omega, by omega, by omega, ?_, ?_, ?_, ?_⟩
      · (repeat (first | assumption | (refine Tr.blk_at ?_; (first | (simp; done) | (simp; omega))) | refine Tr.blk_old ?_ | refine Tr.blk_drew ?_ | refine Tr.blk_drewN ?_ | (refine Tr.blk_set_ne ?_ _ ?_; rotate_left; (first | (simp; done) | (simp; omega) | (simp; assumption)))))
      · (repeat (first | assumption | (refine Tr.blk_at ?_; (first | (simp; done) | (simp; omega))) | refine Tr.blk_old ?_ | refine Tr.blk_drew ?_ | refine Tr.blk_drewN ?_ | (refine Tr.blk_set_ne ?_ _ ?_; rotate_left; (first | (simp; done) | (simp; omega) | (simp; assumption)))))
      · (repeat (first | assumption | (refine Tr.blk_at ?_; (first | (simp; done) | (simp; omega))) | refine Tr.blk_old ?_ | refine Tr.blk_drew ?_ | refine Tr.blk_drewN ?_ | (refine Tr.blk_set_ne ?_ _ ?_; rotate_left; (first | (simp; done) | (simp; omega) | (simp; assumption)))))
      · (repeat (first | assumption | exact Below.refl _ _ | (refine Tr.below_alloc ?_ ?_; rotate_left; (first | omega | exact Nat.le_refl _)) | refine Tr.below_drew ?_ | refine Tr.below_drewN ?_ | (refine Tr.below_set ?_ ?_; rotate_left; (first | omega | (simp; omega))) | (refine Tr.below_trans ?_ (by assumption) ?_; rotate_left; (first | exact Nat.le_refl _ | omega))))
    · go_wp2_with fail; go_meet
      refine ⟨w1.heap.size + 1 + 1, w1.heap.size + 1, rfl, rfl, by omega, by omega, by omega, by omega, by omega, ?_, ?_, ?_, ?_⟩
      · (repeat (first | assumption | (refine Tr.blk_at ?_; (first | (simp; done) | (simp; omega))) | refine Tr.blk_old ?_ | refine Tr.blk_drew ?_ | refine Tr.blk_drewN ?_ | (refine Tr.blk_set_ne ?_ _ ?_; rotate_left; (first | (simp; done) | (simp; omega) | (simp; assumption)))))
      · (repeat (first | assumption | (refine Tr.blk_at ?_; (first | (simp; done) | (simp; omega))) | refine Tr.blk_old ?_ | refine Tr.blk_drew ?_ | refine Tr.blk_drewN ?_ | (refine Tr.blk_set_ne ?_ _ ?_; rotate_left; (first | (simp; done) | (simp; omega) | (simp; assumption)))))
      · (repeat (first | assumption | (refine Tr.blk_at ?_; (first | (simp; done) | (simp; omega))) | refine Tr.blk_old ?_ | refine Tr.blk_drew ?_ | refine Tr.blk_drewN ?_ | (refine Tr.blk_set_ne ?_ _ ?_; rotate_left; (first | (simp; done) | (simp; omega) | (simp; assumption)))))
      · (repeat (first | assumption | exact Below.refl _ _ | (refine Tr.below_alloc ?_ ?_; rotate_left; (first | omega | exact Nat.le_refl _)) | refine Tr.below_drew ?_ | refine Tr.below_drewN ?_ | (refine Tr.below_set ?_ ?_; rotate_left; (first | omega | (simp; omega))) | (refine Tr.below_trans ?_ (by assumption) ?_; rotate_left; (first | exact Nat.le_refl _ | omega))))
  case rest =>
    obtain ⟨g4, g5, rfl, rfl, n1, n2, n3, h4, h5, b4, b5, bx, hb⟩ := hcut
    have c4 : ∀ o, wc.cell? ⟨g4, o, none⟩ = _ := fun o => cell_blk b4
    have B4 := Lib.hid b4; have B5 := Lib.hid b5; have BX := Lib.hid bx; clear b4 b5 bx
    go_wp2_with (first | (go_at_call 17; refine (C_right _ _ _ _).mono ?_; rintro e w2 ⟨rfl, hb2⟩) | (go_at_call 12; refine (C_wakes _).mono ?_; rintro e w3 ⟨rfl, hb3⟩))
    go_ret
    exact ⟨rfl, by (repeat (first | assumption | exact Below.refl _ _ | (refine Tr.below_alloc ?_ ?_; rotate_left; (first | omega | exact Nat.le_refl _)) | refine Tr.below_drew ?_ | refine Tr.below_drewN ?_ | (refine Tr.below_set ?_ ?_; rotate_left; (first | omega | (simp; omega))) | (refine Tr.below_trans ?_ (by assumption) ?_; rotate_left; (first | exact Nat.le_refl _ | omega))))⟩


/-- The part that asks for the rooms: none of it is so. -/
def Asked (a b c k l t v : Int) (B gx : Nat) (w : World) (s45 : Value) (wx : World) : Prop :=
  s45 = .bool false ∧ wx.heap[gx]? = some (.cells #[.int .i64 a, .int .i64 b, .int .i64 c, .int .i64 k, .int .i64 l, .int .i64 t, .int .i64 v] 27 (0, 0)) ∧ Below B w wx

attribute [local go_sem] Tr.go_max2 Tr.go_min2 Tr.go_max_two Tr.go_min_two
set_option maxHeartbeats 2000000 in
theorem grows_yes (a b c k l t v : Int) (hr : decide (Rt a b c) = true) (hk : -9223372036854775808 ≤ k ∧ k ≤ 9223372036854775807) (w : World) :
    Calls Try.prog 6 #[.agg #[.int .i64 a, .int .i64 b, .int .i64 c, .int .i64 k, .int .i64 l, .int .i64 t, .int .i64 v]] w fun e w' => e = .returned (.bool true) ∧ Below w.heap.size w w' := by
  have h' : Rt a b c := of_decide_eq_true hr
  unfold Rt at h'
  have ha : a ≤ 256 := h'.2.1
  have ha0 : 4 ≤ a := h'.1
  clear h'
  have hm0 : 0 ≤ max 0 k := by omega
  have hmm : 0 ≤ max 0 k % 300 ∧ max 0 k % 300 < 300 := by omega
  obtain ⟨hm1, hm2⟩ := hmm
  have hs : decide (room a b c (max 0 k % 300) < room a b c (max 0 k % 300 + 1)) = false := by
    have := room_spare a b c (max 0 k % 300) hm1
    simpa using this
  go_enter Try.func6, Try.ntmps6
  go_upto_region 2 with (go_at_call 11; refine (C_of _ _ _ _ _ _ _ _).mono ?_; rintro e w1 ⟨rfl, hb1⟩)
  have hz := hb1.size
  simp at hz
  go_cut [4, 5] (fun s4 s5 wx => Two a b c k l t v w.heap.size w1.heap.size w s4 s5 wx)
  case first =>
    go_region
    · go_wp2_with fail; go_meet
      refine ⟨w1.heap.size + 1, w1.heap.size + 1 + 1, rfl, rfl, by omega, by omega, by omega, by omega, by omega, ?_, ?_, ?_, ?_⟩
      · (repeat (first | assumption | (refine Tr.blk_at ?_; (first | (simp; done) | (simp; omega))) | refine Tr.blk_old ?_ | refine Tr.blk_drew ?_ | refine Tr.blk_drewN ?_ | (refine Tr.blk_set_ne ?_ _ ?_; rotate_left; (first | (simp; done) | (simp; omega) | (simp; assumption)))))
      · (repeat (first | assumption | (refine Tr.blk_at ?_; (first | (simp; done) | (simp; omega))) | refine Tr.blk_old ?_ | refine Tr.blk_drew ?_ | refine Tr.blk_drewN ?_ | (refine Tr.blk_set_ne ?_ _ ?_; rotate_left; (first | (simp; done) | (simp; omega) | (simp; assumption)))))
      · (repeat (first | assumption | (refine Tr.blk_at ?_; (first | (simp; done) | (simp; omega))) | refine Tr.blk_old ?_ | refine Tr.blk_drew ?_ | refine Tr.blk_drewN ?_ | (refine Tr.blk_set_ne ?_ _ ?_; rotate_left; (first | (simp; done) | (simp; omega) | (simp; assumption)))))
      · (repeat (first | assumption | exact Below.refl _ _ | (refine Tr.below_alloc ?_ ?_; rotate_left; (first | omega | exact Nat.le_refl _)) | refine Tr.below_drew ?_ | refine Tr.below_drewN ?_ | (refine Tr.below_set ?_ ?_; rotate_left; (first | omega | (simp; omega))) | (refine Tr.below_trans ?_ (by assumption) ?_; rotate_left; (first | exact Nat.le_refl _ | omega))))
    · go_wp2_with fail; go_meet
      refine ⟨w1.heap.size + 1 + 1, w1.heap.size + 1, rfl, rfl, by omega, by omega, by omega, by omega, by omega, ?_, ?_, ?_, ?_⟩
      · (repeat (first | assumption | (refine Tr.blk_at ?_; (first | (simp; done) | (simp; omega))) | refine Tr.blk_old ?_ | refine Tr.blk_drew ?_ | refine Tr.blk_drewN ?_ | (refine Tr.blk_set_ne ?_ _ ?_; rotate_left; (first | (simp; done) | (simp; omega) | (simp; assumption)))))
      · (repeat (first | assumption | (refine Tr.blk_at ?_; (first | (simp; done) | (simp; omega))) | refine Tr.blk_old ?_ | refine Tr.blk_drew ?_ | refine Tr.blk_drewN ?_ | (refine Tr.blk_set_ne ?_ _ ?_; rotate_left; (first | (simp; done) | (simp; omega) | (simp; assumption)))))
      · (repeat (first | assumption | (refine Tr.blk_at ?_; (first | (simp; done) | (simp; omega))) | refine Tr.blk_old ?_ | refine Tr.blk_drew ?_ | refine Tr.blk_drewN ?_ | (refine Tr.blk_set_ne ?_ _ ?_; rotate_left; (first | (simp; done) | (simp; omega) | (simp; assumption)))))
      · (repeat (first | assumption | exact Below.refl _ _ | (refine Tr.below_alloc ?_ ?_; rotate_left; (first | omega | exact Nat.le_refl _)) | refine Tr.below_drew ?_ | refine Tr.below_drewN ?_ | (refine Tr.below_set ?_ ?_; rotate_left; (first | omega | (simp; omega))) | (refine Tr.below_trans ?_ (by assumption) ?_; rotate_left; (first | exact Nat.le_refl _ | omega))))
  case rest =>
    obtain ⟨g4, g5, rfl, rfl, n1, n2, n3, h4, h5, b4, b5, bx, hb⟩ := hcut
    have c4 : ∀ o, wc.cell? ⟨g4, o, none⟩ = _ := fun o => cell_blk b4
    have B4 := Lib.hid b4; have B5 := Lib.hid b5; have BX := Lib.hid bx; clear b4 b5 bx
    go_upto_region 7 with (go_at_call 17; refine (C_right _ _ _ _).mono ?_; rintro e w2 ⟨rfl, hb2⟩; have b5 := blk_keep hb2 B5.out; have c5 : ∀ o, w2.cell? ⟨g5, o, none⟩ = _ := fun o => cell_blk b5; have f5 : ∀ o, w2.frozen? ⟨g5, o, none⟩ = false := fun o => frozen_blk b5; have bx := blk_keep hb2 BX.out; have cx : ∀ o, w2.cell? ⟨w1.heap.size, o, none⟩ = _ := fun o => cell_blk bx; clear B5 BX; have B5 := Lib.hid b5; have BX := Lib.hid bx; have hb2' := below_trans hb hb2; have b4 := blk_keep hb2 B4.out; clear c4 B4; have B4 := Lib.hid b4; clear b4; clear b5 bx)
    go_cut [45] (fun s45 wx => Asked a b c k l t v w.heap.size w1.heap.size w s45 wx)
    case first =>
      generalize hW : w2.setCell ⟨g5, 0, none⟩ (Value.int IntKind.i64 (a + 1)) = W
      have b5 := blk_set (o := 0) B5.out (Value.int IntKind.i64 (a + 1))
      have b4 := blk_set_ne (a := ⟨g5, 0, none⟩) B4.out (Value.int IntKind.i64 (a + 1)) (Ne.symm n1)
      have bx := blk_set_ne (a := ⟨g5, 0, none⟩) BX.out (Value.int IntKind.i64 (a + 1)) n3
      rw [hW] at b5 b4 bx
      have hbW : Below w.heap.size w W := by rw [← hW]; exact Tr.below_set hb2' h5
      clear hW c5 cx f5
      have c5 : ∀ d os o, (grow (redrawn W d) os).cell? ⟨g5, o, none⟩ = _ := fun d os o => cell_blk (blk_grown b5 d os)
      have c4 : ∀ d os o, (grow (redrawn W d) os).cell? ⟨g4, o, none⟩ = _ := fun d os o => cell_blk (blk_grown b4 d os)
      have Bx := Lib.hid bx; clear b5 b4 bx
      by_cases h1 : Rt (a + 1) b c
      · have hd2 : decide (room (a + 1) b c (max 0 k % 300) < room a b c (max 0 k % 300)) = false := by
          have := room_more a b c (max 0 k % 300) h1
          simpa using this
        refine wp_region_quiet_below (by kernel_rfl) (by kernel_rfl) ?_
        repeat (any_goals (go_big_quiet_step ((first | (go_at_call 17; exact Calls.regrown_of (C_right_yes _ _ _ h1 _)) | (go_at_call 18; exact Calls.regrown_of (C_room _ _ _ _ (by omega) _))))))
        refine wpQuiet_nil ?_
        intro w5 hw5
        have hb5 := below_grown hw5
        have b5 := blk_keep hb5 Bx.out
        have hb6 := below_trans hbW hb5
        clear hw5 c4 c5
        go_wp2_with fail; go_meet
        exact ⟨rfl, b5, hb6⟩
      · refine wp_region_quiet_below (by kernel_rfl) (by kernel_rfl) ?_
        repeat (any_goals (go_big_quiet_step ((first | (go_at_call 17; exact Calls.regrown_of (C_right_no _ _ _ h1 _)) | (go_at_call 18; exact Calls.regrown_of (C_room _ _ _ _ (by omega) _))))))
        refine wpQuiet_nil ?_
        intro w5 hw5
        have hb5 := below_grown hw5
        have b5 := blk_keep hb5 Bx.out
        have hb6 := below_trans hbW hb5
        clear hw5 c4 c5
        go_wp2_with fail; go_meet
        exact ⟨rfl, b5, hb6⟩
    case rest =>
      obtain ⟨rfl, bx, hbx⟩ := hcut
      clear hb2' hb2 cx f5 c5 B4 B5 BX hb1 hb
      have cx := fun o => cell_blk (o := o) bx
      have BX := Lib.hid bx; clear bx
      by_cases hm : May a b c k l t v
      · have hl0 : 1 ≤ l := hm.2.2.1.1
        have hl1 : l ≤ 4096 := hm.2.2.1.2
        by_cases hl : 1 < l
        · have hm2 : May a b c k (l - 1) t v := ⟨hm.1, hm.2.1, ⟨by omega, by omega⟩, hm.2.2.2.1, hm.2.2.2.2.1, by have := hm.2.2.2.2.2.1; omega, hm.2.2.2.2.2.2⟩
          have HM := Lib.hid hm; have HM2 := Lib.hid hm2; clear hm hm2
          go_wp2_with (first
            | (go_at_call 13; have _tok := BX; refine (C_check_yes _ _ _ _ _ _ _ HM.out hk _).mono ?_; rintro e w6 ⟨rfl, hb6⟩; have b6 := blk_keep hb6 BX.out; have hb6' := below_trans hbx hb6; have cx6 := fun o => cell_blk (o := o) b6; have fx6 := fun o => frozen_blk (o := o) b6; have B6 := Lib.hid b6; clear b6 BX cx)
            | (go_at_call 12; refine (C_wakes _).mono ?_; rintro e w7 ⟨rfl, hb7⟩; have b7 := blk_keep hb7 (blk_set (o := 4) B6.out (.int .i64 (l - 1))); have hb7' := below_trans (Tr.below_set (a := ⟨w1.heap.size, 4, none⟩) (v := .int .i64 (l - 1)) hb6' (by simp; omega)) hb7; clear cx6 fx6; have cx7 := fun o => cell_blk (o := o) b7; have B7 := Lib.hid b7; clear b7 B6)
            | (go_at_call 13; have _tok := B7; refine (C_check_yes _ _ _ _ _ _ _ HM2.out hk _).mono ?_; rintro e w8 ⟨rfl, hb8⟩))
          go_ret
          exact ⟨rfl, below_trans hb7' hb8⟩
        · have HM := Lib.hid hm; clear hm
          have hl2 : decide (1 < l) = false := decide_eq_false hl
          clear hl
          go_wp2_with (first
            | (go_at_call 13; refine (C_check_yes _ _ _ _ _ _ _ HM.out hk _).mono ?_; rintro e w6 ⟨rfl, hb6⟩; have b6 := blk_keep hb6 BX.out; have hb6' := below_trans hbx hb6; have cx6 := fun o => cell_blk (o := o) b6; clear b6 cx)
            | (go_at_call 12; refine (C_wakes _).mono ?_; rintro e w7 ⟨rfl, hb7⟩))
          go_ret
          exact ⟨rfl, below_trans hb6' hb7⟩
      · have HM := Lib.hid hm; clear hm
        go_wp2_with (first
            | (go_at_call 13; refine (C_check_no _ _ _ _ _ _ _ HM.out hk _).mono ?_; rintro e w6 ⟨rfl, hb6⟩; have b6 := blk_keep hb6 BX.out; have hb6' := below_trans hbx hb6; have cx6 := fun o => cell_blk (o := o) b6; clear b6 cx)
            | (go_at_call 12; refine (C_wakes _).mono ?_; rintro e w7 ⟨rfl, hb7⟩))
        go_ret
        exact ⟨rfl, below_trans hb6' hb7⟩
theorem walk_GeoGrows : SayGeoGrows := by
  rintro c0 w ⟨_, _, rfl, ⟨a, rfl, _⟩, _, _, rfl, ⟨b, rfl, _⟩, _, _, rfl, ⟨c, rfl, _⟩, _, _, rfl, ⟨k, rfl, hk⟩, _, _, rfl, ⟨l, rfl, _⟩, _, _, rfl, ⟨t, rfl, _⟩, _, _, rfl, ⟨v, rfl, _⟩, rfl⟩
  by_cases h : Rt a b c
  · exact grows_yes a b c k l t v (decide_eq_true h) (bounds_i64 hk) w
  · exact grows_no a b c k l t v (decide_eq_false h) w
end Go.Proofs.Ytjkfkgpdlflbhaa
