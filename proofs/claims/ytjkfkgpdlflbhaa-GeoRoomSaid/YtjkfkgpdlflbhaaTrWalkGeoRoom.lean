/- GeoRoom: the rooms are the document's. -/
import Derived.Test.YtjkfkgpdlflbhaaTrGeoC
import Derived.Test.YtjkfkgpdlflbhaaTrGeo1
import Derived.Test.YtjkfkgpdlflbhaaTrSayGeoRoom
namespace Go.Proofs.Ytjkfkgpdlflbhaa
open Go.RowKit Go.Sort
open PGeoChecks Tr
set_option linter.unusedVariables false
attribute [local go_sem] Tr.go_max2 Tr.go_min2 Tr.go_max_two Tr.go_min_two
theorem rroom_no (n : Nat) (a b c k : Int) (hr : ¬ Rt a b c) : tillrollref07_Room.f (n + 1) a b c k = some (room a b c k) := by
  unfold tillrollref07_Room.f room
  rw [rright_eq]
  simp [hr, tillrollref07_Room.j0]
theorem C_rroom (a b c k : Int) (hk : -9223372036854775808 ≤ k ∧ k ≤ 9223372036854775807) (w : World) :
    Calls Try.prog 19 #[.int .i64 a, .int .i64 b, .int .i64 c, .int .i64 k] w fun e w' => e = .returned (.int .i64 (room a b c k)) ∧ Below w.heap.size w w' := by
  have h : tillrollref07_Room.f 1 a b c k = some (room a b c k) := by
    by_cases hr : Rt a b c
    · exact rroom_eq 0 a b c k hr hk
    · exact rroom_no 0 a b c k hr
  exact (tillrollref07_Room.calls 1 a b c k _ w h).mono fun e w' ⟨h1, h2⟩ => ⟨h1, by first | exact h2 | exact h2.below⟩
theorem C_each (a b c : Int) (w : World) : Calls Try.prog 20 #[.agg #[.int .i64 a, .int .i64 b, .int .i64 c]] w fun e w' => e = .returned (.int .i64 (each a b c)) ∧ Below w.heap.size w w' :=
  geo_Each.calls a b c _ w (each_eq a b c)

def RInv (a b c k : Int) (g2 g5 g25 : Nat) (w : World) (s27 : Value) (wr : World) : Prop :=
  ∃ j : Nat, s27 = .int .i64 j ∧ j ≤ 2 ∧ wr.heap[g2]? = some (.cells #[.int .i64 a, .int .i64 b, .int .i64 c] 36 (0, 0)) ∧ wr.heap[g5]? = some (.cells #[.int .i64 a, .int .i64 b, .int .i64 c] 25 (0, 0)) ∧
    wr.heap[g25]? = some (.cells #[.int .i64 k, .int .i64 (max 0 k % 300)] 3 (0, 0)) ∧ Below w.heap.size w wr

/-- One round's asking: two rooms that are alike. -/
def RRound (a b c k : Int) (g2 g5 g25 : Nat) (w : World) (s42 : Value) (wr : World) : Prop :=
  s42 = .bool false ∧ wr.heap[g2]? = some (.cells #[.int .i64 a, .int .i64 b, .int .i64 c] 36 (0, 0)) ∧ wr.heap[g5]? = some (.cells #[.int .i64 a, .int .i64 b, .int .i64 c] 25 (0, 0)) ∧
    wr.heap[g25]? = some (.cells #[.int .i64 k, .int .i64 (max 0 k % 300)] 3 (0, 0)) ∧ Below w.heap.size w wr

set_option maxRecDepth 100000 in
set_option maxHeartbeats 4000000 in
theorem room_yes (a b c k : Int) (hr : Rt a b c) (hk : -9223372036854775808 ≤ k ∧ k ≤ 9223372036854775807) (w : World) :
    Calls Try.prog 4 #[.agg #[.int .i64 a, .int .i64 b, .int .i64 c], .int .i64 k] w fun e w' => e = .returned (.bool true) ∧ Below w.heap.size w w' := by
  have hm : 0 ≤ max 0 k := by omega
  have hm1 : 0 ≤ max 0 k % 300 := by omega
  have hm2 : max 0 k % 300 < 300 := by omega
  have hr' := hr
  unfold Rt at hr'
  obtain ⟨-, -, hb1, hb2, -, -⟩ := hr'
  have HR := Lib.hid hr
  clear hr
  have CE : ∀ W : World, Calls Try.prog 20 #[.agg #[.int .i64 a, .int .i64 b, .int .i64 c]] W fun e w' => e = .returned (.int .i64 (b - 1)) ∧ Below W.heap.size W w' := fun W => by
    have := C_each a b c W; unfold each at this; rwa [if_pos HR.out] at this
  have CE := Lib.hid CE
  go_enter Try.func4, Try.ntmps4
  go_wp2_with (go_at_call 17; refine (C_right_yes _ _ _ HR.out _).mono ?_; rintro e w1 ⟨rfl, hb1⟩; have b5 := Tr.blk_keep (b := w.heap.size + 1) hb1 (Tr.blk_at (by simp)); have b2 := Tr.blk_keep hb1 (Tr.blk_old (Tr.blk_new _ _)); have hB1 := Tr.below_trans (Tr.below_alloc (Tr.below_alloc (Below.refl w.heap.size w) (Nat.le_refl _)) (Nat.le_refl _)) hb1; clear hb1; have hz := hB1.size; have B5 := Lib.hid b5; have B2 := Lib.hid b2; have c2 := fun o => Tr.cell_blk (o := o) b2; clear b5 b2)
  clear c2
  have hz3 := Tr.blk_lt B5.out
  go_loopw [27] (fun s27 wr => RInv a b c k w.heap.size (w.heap.size + 1) w1.heap.size w s27 wr) (fun s27 _ => 2 - (intOf s27).toNat)
  case atStart => exact ⟨0, rfl, by omega, Tr.blk_old B2.out, Tr.blk_old B5.out, Tr.blk_new _ _, Tr.below_alloc hB1 (Nat.le_refl _)⟩
  case round =>
    obtain ⟨j, rfl, hj, b2, b5, b25, hB⟩ := hrel
    clear B2 B5 hB1
    have B2 := Lib.hid b2; have B5 := Lib.hid b5; have B25 := Lib.hid b25
    clear b2 b5 b25
    by_cases hj2 : j < 2
    · obtain ⟨x, hx, hx1, hx2⟩ : ∃ x, (#[.int .i64 k, .int .i64 (max 0 k % 300)] : Array Value)[j]? = some (.int .i64 x) ∧ -9223372036854775808 ≤ x ∧ x ≤ 9223372036854775807 := by
        have : j = 0 ∨ j = 1 := by omega
        rcases this with rfl | rfl
        · exact ⟨k, rfl, hk⟩
        · exact ⟨max 0 k % 300, rfl, by omega, by omega⟩
      have c25 : wr.cell? ⟨w1.heap.size, j, none⟩ = some (.int .i64 x) := by rw [Tr.cell_blk B25.out, hx]
      clear hx
      go_upto_region 8 with fail
      clear c25
      go_cut [42] (fun s42 wx => RRound a b c k w.heap.size (w.heap.size + 1) w1.heap.size w s42 wx)
      case first =>
        have c2 : ∀ d os o, (grow (redrawn wr d) os).cell? ⟨w.heap.size, o, none⟩ = _ := fun d os o => Tr.cell_blk (Tr.blk_grown B2.out d os)
        have c5 : ∀ d os o, (grow (redrawn wr d) os).cell? ⟨w.heap.size + 1, o, none⟩ = _ := fun d os o => Tr.cell_blk (Tr.blk_grown B5.out d os)
        refine wp_region_quiet_below (by kernel_rfl) (by kernel_rfl) ?_
        repeat (any_goals (go_big_quiet_step ((first | (go_at_call 18; exact Calls.regrown_of (C_room _ _ _ _ (by omega) _)) | (go_at_call 19; exact Calls.regrown_of (C_rroom _ _ _ _ (by omega) _))))))
        refine wpQuiet_nil ?_
        intro w5 hw5
        have hb5 := Tr.below_grown hw5
        clear hw5 c2 c5
        go_wp2_with fail; go_meet
        exact ⟨rfl, Tr.blk_keep hb5 B2.out, Tr.blk_keep hb5 B5.out, Tr.blk_keep hb5 B25.out, Tr.below_trans hB hb5⟩
      case rest =>
        obtain ⟨rfl, b2, b5, b25, hB6⟩ := hcut
        have B2' := Lib.hid b2; have B5' := Lib.hid b5; have B25' := Lib.hid b25
        clear b2 b5 b25
        go_wp2
        go_roundw
        case rel => exact ⟨j + 1, by go_num, by omega, B2'.out, B5'.out, B25'.out, hB6⟩
        case measure => simp [intOf]; omega
    · have c5 := fun o => Tr.cell_blk (o := o) B5.out
      go_wp2_with (first
        | (go_at_call 12; refine (C_wakes _).mono ?_; rintro e w7 ⟨rfl, hb7⟩; have b7 := Tr.blk_keep hb7 B5.out; have hB7 := Tr.below_trans hB hb7; clear c5; have c7 := fun o => Tr.cell_blk (o := o) b7; clear b7)
        | (go_at_call 20; refine (CE.out _).mono ?_; rintro e w8 ⟨rfl, hb8⟩))
      go_ret
      exact ⟨by simp, Tr.below_trans hB7 hb8⟩
set_option maxRecDepth 100000 in
set_option maxHeartbeats 4000000 in
theorem room_no (a b c k : Int) (hr : ¬ Rt a b c) (hk : -9223372036854775808 ≤ k ∧ k ≤ 9223372036854775807) (w : World) :
    Calls Try.prog 4 #[.agg #[.int .i64 a, .int .i64 b, .int .i64 c], .int .i64 k] w fun e w' => e = .returned (.bool true) ∧ Below w.heap.size w w' := by
  have hm : 0 ≤ max 0 k := by omega
  have hm1 : 0 ≤ max 0 k % 300 := by omega
  have hm2 : max 0 k % 300 < 300 := by omega
  have HR := Lib.hid hr
  clear hr
  have CE : ∀ W : World, Calls Try.prog 20 #[.agg #[.int .i64 a, .int .i64 b, .int .i64 c]] W fun e w' => e = .returned (.int .i64 0) ∧ Below W.heap.size W w' := fun W => by
    have := C_each a b c W; unfold each at this; rwa [if_neg HR.out] at this
  have CE := Lib.hid CE
  go_enter Try.func4, Try.ntmps4
  go_wp2_with (go_at_call 17; refine (C_right_no _ _ _ HR.out _).mono ?_; rintro e w1 ⟨rfl, hb1⟩; have b5 := Tr.blk_keep (b := w.heap.size + 1) hb1 (Tr.blk_at (by simp)); have b2 := Tr.blk_keep hb1 (Tr.blk_old (Tr.blk_new _ _)); have hB1 := Tr.below_trans (Tr.below_alloc (Tr.below_alloc (Below.refl w.heap.size w) (Nat.le_refl _)) (Nat.le_refl _)) hb1; clear hb1; have hz := hB1.size; have B5 := Lib.hid b5; have B2 := Lib.hid b2; have c2 := fun o => Tr.cell_blk (o := o) b2; clear b5 b2)
  clear c2
  have hz3 := Tr.blk_lt B5.out
  go_loopw [27] (fun s27 wr => RInv a b c k w.heap.size (w.heap.size + 1) w1.heap.size w s27 wr) (fun s27 _ => 2 - (intOf s27).toNat)
  case atStart => exact ⟨0, rfl, by omega, Tr.blk_old B2.out, Tr.blk_old B5.out, Tr.blk_new _ _, Tr.below_alloc hB1 (Nat.le_refl _)⟩
  case round =>
    obtain ⟨j, rfl, hj, b2, b5, b25, hB⟩ := hrel
    clear B2 B5 hB1
    have B2 := Lib.hid b2; have B5 := Lib.hid b5; have B25 := Lib.hid b25
    clear b2 b5 b25
    by_cases hj2 : j < 2
    · obtain ⟨x, hx, hx1, hx2⟩ : ∃ x, (#[.int .i64 k, .int .i64 (max 0 k % 300)] : Array Value)[j]? = some (.int .i64 x) ∧ -9223372036854775808 ≤ x ∧ x ≤ 9223372036854775807 := by
        have : j = 0 ∨ j = 1 := by omega
        rcases this with rfl | rfl
        · exact ⟨k, rfl, hk⟩
        · exact ⟨max 0 k % 300, rfl, by omega, by omega⟩
      have c25 : wr.cell? ⟨w1.heap.size, j, none⟩ = some (.int .i64 x) := by rw [Tr.cell_blk B25.out, hx]
      clear hx
      go_upto_region 8 with fail
      clear c25
      go_cut [42] (fun s42 wx => RRound a b c k w.heap.size (w.heap.size + 1) w1.heap.size w s42 wx)
      case first =>
        have c2 : ∀ d os o, (grow (redrawn wr d) os).cell? ⟨w.heap.size, o, none⟩ = _ := fun d os o => Tr.cell_blk (Tr.blk_grown B2.out d os)
        have c5 : ∀ d os o, (grow (redrawn wr d) os).cell? ⟨w.heap.size + 1, o, none⟩ = _ := fun d os o => Tr.cell_blk (Tr.blk_grown B5.out d os)
        refine wp_region_quiet_below (by kernel_rfl) (by kernel_rfl) ?_
        repeat (any_goals (go_big_quiet_step ((first | (go_at_call 18; exact Calls.regrown_of (C_room _ _ _ _ (by omega) _)) | (go_at_call 19; exact Calls.regrown_of (C_rroom _ _ _ _ (by omega) _))))))
        refine wpQuiet_nil ?_
        intro w5 hw5
        have hb5 := Tr.below_grown hw5
        clear hw5 c2 c5
        go_wp2_with fail; go_meet
        exact ⟨rfl, Tr.blk_keep hb5 B2.out, Tr.blk_keep hb5 B5.out, Tr.blk_keep hb5 B25.out, Tr.below_trans hB hb5⟩
      case rest =>
        obtain ⟨rfl, b2, b5, b25, hB6⟩ := hcut
        have B2' := Lib.hid b2; have B5' := Lib.hid b5; have B25' := Lib.hid b25
        clear b2 b5 b25
        go_wp2
        go_roundw
        case rel => exact ⟨j + 1, by go_num, by omega, B2'.out, B5'.out, B25'.out, hB6⟩
        case measure => simp [intOf]; omega
    · have c5 := fun o => Tr.cell_blk (o := o) B5.out
      go_wp2_with (first
        | (go_at_call 12; refine (C_wakes _).mono ?_; rintro e w7 ⟨rfl, hb7⟩; have b7 := Tr.blk_keep hb7 B5.out; have hB7 := Tr.below_trans hB hb7; clear c5; have c7 := fun o => Tr.cell_blk (o := o) b7; clear b7)
        | (go_at_call 20; refine (CE.out _).mono ?_; rintro e w8 ⟨rfl, hb8⟩))
      go_ret
      exact ⟨by simp, Tr.below_trans hB7 hb8⟩
theorem walk_GeoRoom : SayGeoRoom := by
  rintro c0 k w ⟨_, _, rfl, ⟨a, rfl, _⟩, _, _, rfl, ⟨b, rfl, _⟩, _, _, rfl, ⟨c, rfl, _⟩, rfl⟩ hk
  by_cases h : Rt a b c
  · exact room_yes a b c k h (bounds_i64 hk) w
  · exact room_no a b c k h (bounds_i64 hk) w
end Go.Proofs.Ytjkfkgpdlflbhaa
