/- The reference's shifts: Start, Add. -/
import Derived.Test.YtjkfkgpdlflbhaaTrRef03b
import Derived.Test.YtjkfkgpdlflbhaaTrShiftWakes
namespace Go.Proofs.Ytjkfkgpdlflbhaa
open Go.RowKit Go.Sort
open Tr (Sl Chg)
set_option linter.unusedVariables false
set_option linter.unusedSimpArgs false

/-- The reference's value of shifts, lv the list. -/
def RV (x : Sh) (lv : Value) : Value := .agg #[.int .i64 x.keep, .int .i64 x.next, .bool x.op, .int .i64 x.now.n, .int .i64 x.now.s, .int .i64 x.now.v, .int .i64 x.now.r, .int .i64 x.now.i, .int .i64 x.now.o, lv]
def RSl (w : World) (lv : Value) (x : Sh) : Prop := Sl 69 6 w lv x.cl.length (tots x.cl)

set_option maxRecDepth 100000 in
set_option maxHeartbeats 4000000 in
theorem C_RStart (x : Sh) (a : Option Addr) (len cap : Nat) (w : World) (hx : 1 ≤ x.next ∧ x.next ≤ 4294967296) :
    Calls Try.prog 31 #[RV x (.slice a len cap)] w fun e w' => e = .returned (.tuple #[RV x.start.1 (.slice a len cap), .int .i64 x.start.2.1, .int .i64 x.start.2.2]) ∧ Below w.heap.size w w' := by
  obtain ⟨keep, next, op, ⟨n, s, v, r, i, o⟩, cl⟩ := x
  obtain ⟨n0, n1⟩ := hx
  unfold RV Sh.start
  dsimp only at *
  cases op with
  | true =>
    simp only [if_true]
    go_enter Try.func31, Try.ntmps31
    go_wp2_with fail
    refine bodyPost_ret (Tr.results_run [.cell 2 74, .tmp 3, .tmp 4] [_, _, _] rfl ⟨_, _, rfl, ⟨_, rfl, Tr.load_blk (t := 74) (fr := (0, 0)) (cs := #[.int .i64 keep, .int .i64 next, .bool true, .int .i64 n, .int .i64 s, .int .i64 v, .int .i64 r, .int .i64 i, .int .i64 o, .slice a len cap]) ?_ Try.underlying74 rfl (by kernel_rfl)⟩, _, _, rfl, rfl, _, _, rfl, rfl, rfl⟩ _ rfl) rfl ⟨rfl, ?_⟩
    · (repeat (first | with_reducible assumption | with_reducible refine Tr.blk_drew ?_ | with_reducible refine Tr.blk_drewN ?_ | (refine Tr.blk_at ?_; focus (first | (simp; done) | (simp; omega))) | with_reducible refine Tr.blk_old ?_ | ((with_reducible refine Tr.blk_set_ne ?_ _ ?_); rotate_left; focus (first | (simp; done) | (simp; omega) | (simp; assumption)))))
    · (repeat (first | with_reducible assumption | (with_reducible exact Below.refl _ _) | ((with_reducible refine Tr.below_alloc ?_ ?_); rotate_left; focus (first | omega | exact Nat.le_refl _)) | (with_reducible refine Tr.below_drew ?_) | (with_reducible refine Tr.below_drewN ?_) | ((with_reducible refine Tr.below_set ?_ ?_); rotate_left; focus (first | omega | (simp; done) | (simp; omega))) | ((with_reducible refine Tr.below_trans ?_ (by assumption) ?_); rotate_left; focus (first | exact Nat.le_refl _ | omega))))
  | false =>
    by_cases hn : 4294967295 < next
    · simp only [hn, if_true, Bool.false_eq_true, if_false]
      go_enter Try.func31, Try.ntmps31
      go_wp2_with fail
      refine bodyPost_ret (Tr.results_run [.cell 2 74, .tmp 3, .tmp 4] [_, _, _] rfl ⟨_, _, rfl, ⟨_, rfl, Tr.load_blk (t := 74) (fr := (0, 0)) (cs := #[.int .i64 keep, .int .i64 next, .bool false, .int .i64 n, .int .i64 s, .int .i64 v, .int .i64 r, .int .i64 i, .int .i64 o, .slice a len cap]) ?_ Try.underlying74 rfl (by kernel_rfl)⟩, _, _, rfl, rfl, _, _, rfl, rfl, rfl⟩ _ rfl) rfl ⟨rfl, ?_⟩
      · (repeat (first | with_reducible assumption | with_reducible refine Tr.blk_drew ?_ | with_reducible refine Tr.blk_drewN ?_ | (refine Tr.blk_at ?_; focus (first | (simp; done) | (simp; omega))) | with_reducible refine Tr.blk_old ?_ | ((with_reducible refine Tr.blk_set_ne ?_ _ ?_); rotate_left; focus (first | (simp; done) | (simp; omega) | (simp; assumption)))))
      · (repeat (first | with_reducible assumption | (with_reducible exact Below.refl _ _) | ((with_reducible refine Tr.below_alloc ?_ ?_); rotate_left; focus (first | omega | exact Nat.le_refl _)) | (with_reducible refine Tr.below_drew ?_) | (with_reducible refine Tr.below_drewN ?_) | ((with_reducible refine Tr.below_set ?_ ?_); rotate_left; focus (first | omega | (simp; done) | (simp; omega))) | ((with_reducible refine Tr.below_trans ?_ (by assumption) ?_); rotate_left; focus (first | exact Nat.le_refl _ | omega))))
    · simp only [hn, Bool.false_eq_true, if_false, Tot.zero]
      go_enter Try.func31, Try.ntmps31
      go_wp2_with fail
      refine bodyPost_ret (Tr.results_run [.cell 2 74, .tmp 3, .tmp 4] [_, _, _] rfl ⟨_, _, rfl, ⟨_, rfl, Tr.load_blk (t := 74) (fr := (0, 0)) (cs := #[.int .i64 keep, .int .i64 (next + 1), .bool true, .int .i64 0, .int .i64 0, .int .i64 0, .int .i64 0, .int .i64 0, .int .i64 0, .slice a len cap]) ?_ Try.underlying74 rfl (by kernel_rfl)⟩, _, _, rfl, rfl, _, _, rfl, rfl, rfl⟩ _ rfl) rfl ⟨rfl, ?_⟩
      · (repeat (first | with_reducible assumption | with_reducible refine Tr.blk_drew ?_ | with_reducible refine Tr.blk_drewN ?_ | (refine Tr.blk_at ?_; focus (first | (simp; done) | (simp; omega))) | with_reducible refine Tr.blk_old ?_ | ((with_reducible refine Tr.blk_set_ne ?_ _ ?_); rotate_left; focus (first | (simp; done) | (simp; omega) | (simp; assumption)))))
      · (repeat (first | with_reducible assumption | (with_reducible exact Below.refl _ _) | ((with_reducible refine Tr.below_alloc ?_ ?_); rotate_left; focus (first | omega | exact Nat.le_refl _)) | (with_reducible refine Tr.below_drew ?_) | (with_reducible refine Tr.below_drewN ?_) | ((with_reducible refine Tr.below_set ?_ ?_); rotate_left; focus (first | omega | (simp; done) | (simp; omega))) | ((with_reducible refine Tr.below_trans ?_ (by assumption) ?_); rotate_left; focus (first | exact Nat.le_refl _ | omega))))

set_option maxRecDepth 100000 in
set_option maxHeartbeats 8000000 in
theorem C_RAdd (x : Sh) (k : Nat) (am : Int) (a : Option Addr) (len cap : Nat) (w : World) (hk : k ≤ 255) (ham : I64 am) (ho : x.ok) :
    Calls Try.prog 33 #[RV x (.slice a len cap), .int .u8 k, .int .i64 am] w fun e w' => e = .returned (.tuple #[RV (x.add k am).1 (.slice a len cap), .int .i64 (x.add k am).2]) ∧ Below w.heap.size w w' := by
  obtain ⟨keep, next, op, ⟨n, s, v, r, i, o⟩, cl⟩ := x
  obtain ⟨-, -, ⟨⟨nn0, nn1⟩, ⟨hs0, hs1⟩, ⟨hv0, hv1⟩, ⟨hr0, hr1⟩, ⟨hi0, hi1⟩, ⟨ho0, ho1⟩⟩, -⟩ := ho
  have hamI := ham
  obtain ⟨am0, am1⟩ := ham
  dsimp only at hs0 hs1 hv0 hv1 hr0 hr1 hi0 hi1 ho0 ho1 nn0 nn1
  by_cases hbad : k < 1 ∨ 6 < k ∨ am < 0
  · have e1 : Sh.add ⟨keep, next, op, ⟨n, s, v, r, i, o⟩, cl⟩ k am = (⟨keep, next, op, ⟨n, s, v, r, i, o⟩, cl⟩, 2) := by unfold Sh.add; rw [if_pos hbad]
    rw [e1]
    unfold RV
    dsimp only
    clear e1
    have hk1 : ((k : Int) < 1) ∨ ((¬ (k : Int) < 1) ∧ (6 : Int) < k) ∨ ((¬ (k : Int) < 1) ∧ (¬ (6 : Int) < k) ∧ am < 0) := by omega
    clear hbad
    rcases hk1 with g | ⟨g1, g2⟩ | ⟨g1, g2, g3⟩
    all_goals
      go_enter Try.func33, Try.ntmps33
      go_wp2_with fail
      refine bodyPost_ret (Tr.results_run [.cell 6 74, .tmp 7] [_, _] rfl ⟨_, _, rfl, ⟨_, rfl, Tr.load_blk (t := 74) (fr := (0, 0)) (cs := #[.int .i64 keep, .int .i64 next, .bool op, .int .i64 n, .int .i64 s, .int .i64 v, .int .i64 r, .int .i64 i, .int .i64 o, .slice a len cap]) ?_ Try.underlying74 rfl (by kernel_rfl)⟩, _, _, rfl, rfl, rfl⟩ _ rfl) rfl ⟨rfl, ?_⟩
      · (repeat (first | with_reducible assumption | with_reducible refine Tr.blk_drew ?_ | with_reducible refine Tr.blk_drewN ?_ | (refine Tr.blk_at ?_; focus (first | (simp; done) | (simp; omega))) | with_reducible refine Tr.blk_old ?_ | ((with_reducible refine Tr.blk_set_ne ?_ _ ?_); rotate_left; focus (first | (simp; done) | (simp; omega) | (simp; assumption)))))
      · (repeat (first | with_reducible assumption | (with_reducible exact Below.refl _ _) | ((with_reducible refine Tr.below_alloc ?_ ?_); rotate_left; focus (first | omega | exact Nat.le_refl _)) | (with_reducible refine Tr.below_drew ?_) | (with_reducible refine Tr.below_drewN ?_) | ((with_reducible refine Tr.below_set ?_ ?_); rotate_left; focus (first | omega | (simp; done) | (simp; omega))) | ((with_reducible refine Tr.below_trans ?_ (by assumption) ?_); rotate_left; focus (first | exact Nat.le_refl _ | omega))))
  · have hk1 : 1 ≤ k := by omega
    have hk6 : k ≤ 6 := by omega
    have ha0 : 0 ≤ am := by omega
    cases op with
    | false =>
      have e1 : Sh.add ⟨keep, next, false, ⟨n, s, v, r, i, o⟩, cl⟩ k am = (⟨keep, next, false, ⟨n, s, v, r, i, o⟩, cl⟩, 20) := by unfold Sh.add; rw [if_neg hbad, if_pos rfl]
      rw [e1]
      unfold RV
      dsimp only
      clear e1 hbad
      go_enter Try.func33, Try.ntmps33
      go_wp2_with fail
      refine bodyPost_ret (Tr.results_run [.cell 6 74, .tmp 7] [_, _] rfl ⟨_, _, rfl, ⟨_, rfl, Tr.load_blk (t := 74) (fr := (0, 0)) (cs := #[.int .i64 keep, .int .i64 next, .bool false, .int .i64 n, .int .i64 s, .int .i64 v, .int .i64 r, .int .i64 i, .int .i64 o, .slice a len cap]) ?_ Try.underlying74 rfl (by kernel_rfl)⟩, _, _, rfl, rfl, rfl⟩ _ rfl) rfl ⟨rfl, ?_⟩
      · (repeat (first | with_reducible assumption | with_reducible refine Tr.blk_drew ?_ | with_reducible refine Tr.blk_drewN ?_ | (refine Tr.blk_at ?_; focus (first | (simp; done) | (simp; omega))) | with_reducible refine Tr.blk_old ?_ | ((with_reducible refine Tr.blk_set_ne ?_ _ ?_); rotate_left; focus (first | (simp; done) | (simp; omega) | (simp; assumption)))))
      · (repeat (first | with_reducible assumption | (with_reducible exact Below.refl _ _) | ((with_reducible refine Tr.below_alloc ?_ ?_); rotate_left; focus (first | omega | exact Nat.le_refl _)) | (with_reducible refine Tr.below_drew ?_) | (with_reducible refine Tr.below_drewN ?_) | ((with_reducible refine Tr.below_set ?_ ?_); rotate_left; focus (first | omega | (simp; done) | (simp; omega))) | ((with_reducible refine Tr.below_trans ?_ (by assumption) ?_); rotate_left; focus (first | exact Nat.le_refl _ | omega))))
    | true =>
      by_cases hn : 4294967295 ≤ n
      · have e1 : Sh.add ⟨keep, next, true, ⟨n, s, v, r, i, o⟩, cl⟩ k am = (⟨keep, next, true, ⟨n, s, v, r, i, o⟩, cl⟩, 6) := by unfold Sh.add; rw [if_neg hbad, if_neg (by simp), if_pos hn]
        rw [e1]
        unfold RV
        dsimp only
        clear e1 hbad
        go_enter Try.func33, Try.ntmps33
        go_wp2_with fail
        refine bodyPost_ret (Tr.results_run [.cell 6 74, .tmp 7] [_, _] rfl ⟨_, _, rfl, ⟨_, rfl, Tr.load_blk (t := 74) (fr := (0, 0)) (cs := #[.int .i64 keep, .int .i64 next, .bool true, .int .i64 n, .int .i64 s, .int .i64 v, .int .i64 r, .int .i64 i, .int .i64 o, .slice a len cap]) ?_ Try.underlying74 rfl (by kernel_rfl)⟩, _, _, rfl, rfl, rfl⟩ _ rfl) rfl ⟨rfl, ?_⟩
        · (repeat (first | with_reducible assumption | with_reducible refine Tr.blk_drew ?_ | with_reducible refine Tr.blk_drewN ?_ | (refine Tr.blk_at ?_; focus (first | (simp; done) | (simp; omega))) | with_reducible refine Tr.blk_old ?_ | ((with_reducible refine Tr.blk_set_ne ?_ _ ?_); rotate_left; focus (first | (simp; done) | (simp; omega) | (simp; assumption)))))
        · (repeat (first | with_reducible assumption | (with_reducible exact Below.refl _ _) | ((with_reducible refine Tr.below_alloc ?_ ?_); rotate_left; focus (first | omega | exact Nat.le_refl _)) | (with_reducible refine Tr.below_drew ?_) | (with_reducible refine Tr.below_drewN ?_) | ((with_reducible refine Tr.below_set ?_ ?_); rotate_left; focus (first | omega | (simp; done) | (simp; omega))) | ((with_reducible refine Tr.below_trans ?_ (by assumption) ?_); rotate_left; focus (first | exact Nat.le_refl _ | omega))))
      · by_cases hov : k ≤ 5 ∧ 9223372036854775807 < (Tot.mk n s v r i o).get k + am
        · have e1 : Sh.add ⟨keep, next, true, ⟨n, s, v, r, i, o⟩, cl⟩ k am = (⟨keep, next, true, ⟨n, s, v, r, i, o⟩, cl⟩, 6) := by unfold Sh.add; rw [if_neg hbad, if_neg (by simp), if_neg hn, if_pos hov]
          rw [e1]
          unfold RV
          dsimp only
          obtain ⟨hk5, hov⟩ := hov
          have hE : ∀ V, 9223372036854775807 < V → amt V = 0 ∧ amtE V = 6 := fun V hV => amt_no (by unfold I64; omega)
          have : k = 1 ∨ k = 2 ∨ k = 3 ∨ k = 4 ∨ k = 5 := by omega
          rcases this with rfl | rfl | rfl | rfl | rfl
          all_goals
            simp only [Tot.get] at hov
            have HE := Lib.hid (hE _ hov)
            have HAMI := Lib.hid hamI
            clear hE e1 hbad hov hk5 hk1 hk6 hamI
            go_enter Try.func33, Try.ntmps33
            go_wp2_with (go_at_call 54; refine (C_R03Add _ am (by unfold I64; omega) HAMI.out _).mono ?_; rw [HE.out.1, HE.out.2]; rintro e w2 ⟨rfl, hb2⟩; have b0 := Tr.blk_keep (b := w.heap.size) hb2 (Tr.blk_old (Tr.blk_old (Tr.blk_new _ _))); have b1 := Tr.blk_keep (b := w.heap.size + 1) hb2 (Tr.blk_old (Tr.blk_at (by simp))); have c0 := fun o => Tr.cell_blk (o := o) b0; have c1 := fun o => Tr.cell_blk (o := o) b1; have f1 := fun o => Tr.frozen_blk (o := o) b1; have B1 := Lib.hid b1; have hBB : Below w.heap.size w w2 := Tr.below_trans (by (repeat (first | with_reducible assumption | (with_reducible exact Below.refl _ _) | ((with_reducible refine Tr.below_alloc ?_ ?_); rotate_left; focus (first | omega | exact Nat.le_refl _)) | (with_reducible refine Tr.below_drew ?_) | (with_reducible refine Tr.below_drewN ?_) | ((with_reducible refine Tr.below_set ?_ ?_); rotate_left; focus (first | omega | (simp; done) | (simp; omega))) | ((with_reducible refine Tr.below_trans ?_ (by assumption) ?_); rotate_left; focus (first | exact Nat.le_refl _ | omega))))) hb2; clear b0 b1)
            refine bodyPost_ret (Tr.results_run [.cell 6 74, .tmp 7] [_, _] rfl ⟨_, _, rfl, ⟨_, rfl, Tr.load_blk (t := 74) (fr := (0, 0)) (cs := #[.int .i64 keep, .int .i64 next, .bool true, .int .i64 n, .int .i64 s, .int .i64 v, .int .i64 r, .int .i64 i, .int .i64 o, .slice a len cap]) ?_ Try.underlying74 rfl (by kernel_rfl)⟩, _, _, rfl, rfl, rfl⟩ _ rfl) rfl ⟨rfl, ?_⟩
            · have b1 := B1.out
              (simp only [Tr.heap_set_same, b1, Option.map_some, Tr.setObj]; simp [])
            · (repeat (first | with_reducible assumption | (with_reducible exact Below.refl _ _) | ((with_reducible refine Tr.below_alloc ?_ ?_); rotate_left; focus (first | omega | exact Nat.le_refl _)) | (with_reducible refine Tr.below_drew ?_) | (with_reducible refine Tr.below_drewN ?_) | ((with_reducible refine Tr.below_set ?_ ?_); rotate_left; focus (first | omega | (simp; done) | (simp; omega))) | ((with_reducible refine Tr.below_trans ?_ (by assumption) ?_); rotate_left; focus (first | exact Nat.le_refl _ | omega))))
        · have e1 : Sh.add ⟨keep, next, true, ⟨n, s, v, r, i, o⟩, cl⟩ k am = (⟨keep, next, true, { (Tot.mk n s v r i o).put k (Tot.get ⟨n, s, v, r, i, o⟩ k + am) with n := n + 1 }, cl⟩, 0) := by unfold Sh.add; rw [if_neg hbad, if_neg (by simp), if_neg hn, if_neg hov]
          rw [e1]
          unfold RV
          dsimp only
          have hE : ∀ V, I64 V → amt V = V ∧ amtE V = 0 := fun V hV => amt_yes hV
          have hge : k ≤ 5 → 0 ≤ Tot.get ⟨n, s, v, r, i, o⟩ k := by
            intro hk5
            have : k = 1 ∨ k = 2 ∨ k = 3 ∨ k = 4 ∨ k = 5 := by omega
            rcases this with rfl | rfl | rfl | rfl | rfl <;> simp only [Tot.get] <;> omega
          have hov1 : k ≤ 5 → I64 (Tot.get ⟨n, s, v, r, i, o⟩ k + am) := by
            intro hk5
            have : ¬ 9223372036854775807 < Tot.get ⟨n, s, v, r, i, o⟩ k + am := fun h => hov ⟨hk5, h⟩
            have := hge hk5
            unfold I64; omega
          clear e1 hge hbad hov
          have : k = 1 ∨ k = 2 ∨ k = 3 ∨ k = 4 ∨ k = 5 ∨ k = 6 := by omega
          rcases this with rfl | rfl | rfl | rfl | rfl | rfl
          case inr.inr.inr.inr.inr =>
            simp only [Tot.put]
            clear hE hov1 hk1 hk6 hamI
            go_enter Try.func33, Try.ntmps33
            go_wp2_with fail
            refine bodyPost_ret (Tr.results_run [.cell 6 74, .tmp 7] [_, _] rfl ⟨_, _, rfl, ⟨_, rfl, Tr.load_blk (t := 74) (fr := (0, 0)) (cs := #[.int .i64 keep, .int .i64 next, .bool true, .int .i64 (n + 1), .int .i64 (s), .int .i64 (v), .int .i64 (r), .int .i64 (i), .int .i64 (o), .slice a len cap]) ?_ Try.underlying74 rfl (by kernel_rfl)⟩, _, _, rfl, rfl, rfl⟩ _ rfl) rfl ⟨rfl, ?_⟩
            · (repeat (first | with_reducible assumption | with_reducible refine Tr.blk_drew ?_ | with_reducible refine Tr.blk_drewN ?_ | (refine Tr.blk_at ?_; focus (first | (simp; done) | (simp; omega))) | with_reducible refine Tr.blk_old ?_ | ((with_reducible refine Tr.blk_set_ne ?_ _ ?_); rotate_left; focus (first | (simp; done) | (simp; omega) | (simp; assumption)))))
            · (repeat (first | with_reducible assumption | (with_reducible exact Below.refl _ _) | ((with_reducible refine Tr.below_alloc ?_ ?_); rotate_left; focus (first | omega | exact Nat.le_refl _)) | (with_reducible refine Tr.below_drew ?_) | (with_reducible refine Tr.below_drewN ?_) | ((with_reducible refine Tr.below_set ?_ ?_); rotate_left; focus (first | omega | (simp; done) | (simp; omega))) | ((with_reducible refine Tr.below_trans ?_ (by assumption) ?_); rotate_left; focus (first | exact Nat.le_refl _ | omega))))
          · have hov' := hov1 (by omega)
            simp only [Tot.get, Tot.put] at hov' ⊢
            have HE := Lib.hid (hE _ hov')
            have HAMI := Lib.hid hamI
            clear hE hov1 hk1 hk6 hov' hamI
            go_enter Try.func33, Try.ntmps33
            go_wp2_with (go_at_call 54; refine (C_R03Add _ am (by unfold I64; omega) HAMI.out _).mono ?_; rw [HE.out.1, HE.out.2]; rintro e w2 ⟨rfl, hb2⟩; have b0 := Tr.blk_keep (b := w.heap.size) hb2 (Tr.blk_old (Tr.blk_old (Tr.blk_new _ _))); have b1 := Tr.blk_keep (b := w.heap.size + 1) hb2 (Tr.blk_old (Tr.blk_at (by simp))); have b2 := Tr.blk_keep (b := w.heap.size + 1 + 1) hb2 (Tr.blk_at (by simp)); have c0 := fun o => Tr.cell_blk (o := o) b0; have c1 := fun o => Tr.cell_blk (o := o) b1; have c2 := fun o => Tr.cell_blk (o := o) b2; have f0 := fun o => Tr.frozen_blk (o := o) b0; have f1 := fun o => Tr.frozen_blk (o := o) b1; have f2 := fun o => Tr.frozen_blk (o := o) b2; have B0 := Lib.hid b0; have B1 := Lib.hid b1; have B2 := Lib.hid b2; have hBB : Below w.heap.size w w2 := Tr.below_trans (by (repeat (first | with_reducible assumption | (with_reducible exact Below.refl _ _) | ((with_reducible refine Tr.below_alloc ?_ ?_); rotate_left; focus (first | omega | exact Nat.le_refl _)) | (with_reducible refine Tr.below_drew ?_) | (with_reducible refine Tr.below_drewN ?_) | ((with_reducible refine Tr.below_set ?_ ?_); rotate_left; focus (first | omega | (simp; done) | (simp; omega))) | ((with_reducible refine Tr.below_trans ?_ (by assumption) ?_); rotate_left; focus (first | exact Nat.le_refl _ | omega))))) hb2; clear b0 b1 b2)
            refine bodyPost_ret (Tr.results_run [.cell 6 74, .tmp 7] [_, _] rfl ⟨_, _, rfl, ⟨_, rfl, Tr.load_blk (t := 74) (fr := (0, 0)) (cs := #[.int .i64 keep, .int .i64 next, .bool true, .int .i64 (n + 1), .int .i64 (s + am), .int .i64 (v), .int .i64 (r), .int .i64 (i), .int .i64 (o), .slice a len cap]) ?_ Try.underlying74 rfl (by kernel_rfl)⟩, _, _, rfl, rfl, rfl⟩ _ rfl) rfl ⟨rfl, ?_⟩
            · have b1 := B1.out
              simp only [Tr.heap_set_same, Tr.heap_set_other _ ⟨w.heap.size, _, none⟩ _ _ (show w.heap.size ≠ w.heap.size + 1 by omega), Tr.heap_set_other _ ⟨w.heap.size + 1 + 1, _, none⟩ _ _ (show w.heap.size + 1 + 1 ≠ w.heap.size + 1 by omega), b1, Option.map_some, Tr.setObj]
              simp
            · (repeat (first | with_reducible assumption | (with_reducible exact Below.refl _ _) | ((with_reducible refine Tr.below_alloc ?_ ?_); rotate_left; focus (first | omega | exact Nat.le_refl _)) | (with_reducible refine Tr.below_drew ?_) | (with_reducible refine Tr.below_drewN ?_) | ((with_reducible refine Tr.below_set ?_ ?_); rotate_left; focus (first | omega | (simp; done) | (simp; omega))) | ((with_reducible refine Tr.below_trans ?_ (by assumption) ?_); rotate_left; focus (first | exact Nat.le_refl _ | omega))))
          · have hov' := hov1 (by omega)
            simp only [Tot.get, Tot.put] at hov' ⊢
            have HE := Lib.hid (hE _ hov')
            have HAMI := Lib.hid hamI
            clear hE hov1 hk1 hk6 hov' hamI
            go_enter Try.func33, Try.ntmps33
            go_wp2_with (go_at_call 54; refine (C_R03Add _ am (by unfold I64; omega) HAMI.out _).mono ?_; rw [HE.out.1, HE.out.2]; rintro e w2 ⟨rfl, hb2⟩; have b0 := Tr.blk_keep (b := w.heap.size) hb2 (Tr.blk_old (Tr.blk_old (Tr.blk_new _ _))); have b1 := Tr.blk_keep (b := w.heap.size + 1) hb2 (Tr.blk_old (Tr.blk_at (by simp))); have b2 := Tr.blk_keep (b := w.heap.size + 1 + 1) hb2 (Tr.blk_at (by simp)); have c0 := fun o => Tr.cell_blk (o := o) b0; have c1 := fun o => Tr.cell_blk (o := o) b1; have c2 := fun o => Tr.cell_blk (o := o) b2; have f0 := fun o => Tr.frozen_blk (o := o) b0; have f1 := fun o => Tr.frozen_blk (o := o) b1; have f2 := fun o => Tr.frozen_blk (o := o) b2; have B0 := Lib.hid b0; have B1 := Lib.hid b1; have B2 := Lib.hid b2; have hBB : Below w.heap.size w w2 := Tr.below_trans (by (repeat (first | with_reducible assumption | (with_reducible exact Below.refl _ _) | ((with_reducible refine Tr.below_alloc ?_ ?_); rotate_left; focus (first | omega | exact Nat.le_refl _)) | (with_reducible refine Tr.below_drew ?_) | (with_reducible refine Tr.below_drewN ?_) | ((with_reducible refine Tr.below_set ?_ ?_); rotate_left; focus (first | omega | (simp; done) | (simp; omega))) | ((with_reducible refine Tr.below_trans ?_ (by assumption) ?_); rotate_left; focus (first | exact Nat.le_refl _ | omega))))) hb2; clear b0 b1 b2)
            refine bodyPost_ret (Tr.results_run [.cell 6 74, .tmp 7] [_, _] rfl ⟨_, _, rfl, ⟨_, rfl, Tr.load_blk (t := 74) (fr := (0, 0)) (cs := #[.int .i64 keep, .int .i64 next, .bool true, .int .i64 (n + 1), .int .i64 (s), .int .i64 (v + am), .int .i64 (r), .int .i64 (i), .int .i64 (o), .slice a len cap]) ?_ Try.underlying74 rfl (by kernel_rfl)⟩, _, _, rfl, rfl, rfl⟩ _ rfl) rfl ⟨rfl, ?_⟩
            · have b1 := B1.out
              simp only [Tr.heap_set_same, Tr.heap_set_other _ ⟨w.heap.size, _, none⟩ _ _ (show w.heap.size ≠ w.heap.size + 1 by omega), Tr.heap_set_other _ ⟨w.heap.size + 1 + 1, _, none⟩ _ _ (show w.heap.size + 1 + 1 ≠ w.heap.size + 1 by omega), b1, Option.map_some, Tr.setObj]
              simp
            · (repeat (first | with_reducible assumption | (with_reducible exact Below.refl _ _) | ((with_reducible refine Tr.below_alloc ?_ ?_); rotate_left; focus (first | omega | exact Nat.le_refl _)) | (with_reducible refine Tr.below_drew ?_) | (with_reducible refine Tr.below_drewN ?_) | ((with_reducible refine Tr.below_set ?_ ?_); rotate_left; focus (first | omega | (simp; done) | (simp; omega))) | ((with_reducible refine Tr.below_trans ?_ (by assumption) ?_); rotate_left; focus (first | exact Nat.le_refl _ | omega))))
          · have hov' := hov1 (by omega)
            simp only [Tot.get, Tot.put] at hov' ⊢
            have HE := Lib.hid (hE _ hov')
            have HAMI := Lib.hid hamI
            clear hE hov1 hk1 hk6 hov' hamI
            go_enter Try.func33, Try.ntmps33
            go_wp2_with (go_at_call 54; refine (C_R03Add _ am (by unfold I64; omega) HAMI.out _).mono ?_; rw [HE.out.1, HE.out.2]; rintro e w2 ⟨rfl, hb2⟩; have b0 := Tr.blk_keep (b := w.heap.size) hb2 (Tr.blk_old (Tr.blk_old (Tr.blk_new _ _))); have b1 := Tr.blk_keep (b := w.heap.size + 1) hb2 (Tr.blk_old (Tr.blk_at (by simp))); have b2 := Tr.blk_keep (b := w.heap.size + 1 + 1) hb2 (Tr.blk_at (by simp)); have c0 := fun o => Tr.cell_blk (o := o) b0; have c1 := fun o => Tr.cell_blk (o := o) b1; have c2 := fun o => Tr.cell_blk (o := o) b2; have f0 := fun o => Tr.frozen_blk (o := o) b0; have f1 := fun o => Tr.frozen_blk (o := o) b1; have f2 := fun o => Tr.frozen_blk (o := o) b2; have B0 := Lib.hid b0; have B1 := Lib.hid b1; have B2 := Lib.hid b2; have hBB : Below w.heap.size w w2 := Tr.below_trans (by (repeat (first | with_reducible assumption | (with_reducible exact Below.refl _ _) | ((with_reducible refine Tr.below_alloc ?_ ?_); rotate_left; focus (first | omega | exact Nat.le_refl _)) | (with_reducible refine Tr.below_drew ?_) | (with_reducible refine Tr.below_drewN ?_) | ((with_reducible refine Tr.below_set ?_ ?_); rotate_left; focus (first | omega | (simp; done) | (simp; omega))) | ((with_reducible refine Tr.below_trans ?_ (by assumption) ?_); rotate_left; focus (first | exact Nat.le_refl _ | omega))))) hb2; clear b0 b1 b2)
            refine bodyPost_ret (Tr.results_run [.cell 6 74, .tmp 7] [_, _] rfl ⟨_, _, rfl, ⟨_, rfl, Tr.load_blk (t := 74) (fr := (0, 0)) (cs := #[.int .i64 keep, .int .i64 next, .bool true, .int .i64 (n + 1), .int .i64 (s), .int .i64 (v), .int .i64 (r + am), .int .i64 (i), .int .i64 (o), .slice a len cap]) ?_ Try.underlying74 rfl (by kernel_rfl)⟩, _, _, rfl, rfl, rfl⟩ _ rfl) rfl ⟨rfl, ?_⟩
            · have b1 := B1.out
              simp only [Tr.heap_set_same, Tr.heap_set_other _ ⟨w.heap.size, _, none⟩ _ _ (show w.heap.size ≠ w.heap.size + 1 by omega), Tr.heap_set_other _ ⟨w.heap.size + 1 + 1, _, none⟩ _ _ (show w.heap.size + 1 + 1 ≠ w.heap.size + 1 by omega), b1, Option.map_some, Tr.setObj]
              simp
            · (repeat (first | with_reducible assumption | (with_reducible exact Below.refl _ _) | ((with_reducible refine Tr.below_alloc ?_ ?_); rotate_left; focus (first | omega | exact Nat.le_refl _)) | (with_reducible refine Tr.below_drew ?_) | (with_reducible refine Tr.below_drewN ?_) | ((with_reducible refine Tr.below_set ?_ ?_); rotate_left; focus (first | omega | (simp; done) | (simp; omega))) | ((with_reducible refine Tr.below_trans ?_ (by assumption) ?_); rotate_left; focus (first | exact Nat.le_refl _ | omega))))
          · have hov' := hov1 (by omega)
            simp only [Tot.get, Tot.put] at hov' ⊢
            have HE := Lib.hid (hE _ hov')
            have HAMI := Lib.hid hamI
            clear hE hov1 hk1 hk6 hov' hamI
            go_enter Try.func33, Try.ntmps33
            go_wp2_with (go_at_call 54; refine (C_R03Add _ am (by unfold I64; omega) HAMI.out _).mono ?_; rw [HE.out.1, HE.out.2]; rintro e w2 ⟨rfl, hb2⟩; have b0 := Tr.blk_keep (b := w.heap.size) hb2 (Tr.blk_old (Tr.blk_old (Tr.blk_new _ _))); have b1 := Tr.blk_keep (b := w.heap.size + 1) hb2 (Tr.blk_old (Tr.blk_at (by simp))); have b2 := Tr.blk_keep (b := w.heap.size + 1 + 1) hb2 (Tr.blk_at (by simp)); have c0 := fun o => Tr.cell_blk (o := o) b0; have c1 := fun o => Tr.cell_blk (o := o) b1; have c2 := fun o => Tr.cell_blk (o := o) b2; have f0 := fun o => Tr.frozen_blk (o := o) b0; have f1 := fun o => Tr.frozen_blk (o := o) b1; have f2 := fun o => Tr.frozen_blk (o := o) b2; have B0 := Lib.hid b0; have B1 := Lib.hid b1; have B2 := Lib.hid b2; have hBB : Below w.heap.size w w2 := Tr.below_trans (by (repeat (first | with_reducible assumption | (with_reducible exact Below.refl _ _) | ((with_reducible refine Tr.below_alloc ?_ ?_); rotate_left; focus (first | omega | exact Nat.le_refl _)) | (with_reducible refine Tr.below_drew ?_) | (with_reducible refine Tr.below_drewN ?_) | ((with_reducible refine Tr.below_set ?_ ?_); rotate_left; focus (first | omega | (simp; done) | (simp; omega))) | ((with_reducible refine Tr.below_trans ?_ (by assumption) ?_); rotate_left; focus (first | exact Nat.le_refl _ | omega))))) hb2; clear b0 b1 b2)
            refine bodyPost_ret (Tr.results_run [.cell 6 74, .tmp 7] [_, _] rfl ⟨_, _, rfl, ⟨_, rfl, Tr.load_blk (t := 74) (fr := (0, 0)) (cs := #[.int .i64 keep, .int .i64 next, .bool true, .int .i64 (n + 1), .int .i64 (s), .int .i64 (v), .int .i64 (r), .int .i64 (i + am), .int .i64 (o), .slice a len cap]) ?_ Try.underlying74 rfl (by kernel_rfl)⟩, _, _, rfl, rfl, rfl⟩ _ rfl) rfl ⟨rfl, ?_⟩
            · have b1 := B1.out
              simp only [Tr.heap_set_same, Tr.heap_set_other _ ⟨w.heap.size, _, none⟩ _ _ (show w.heap.size ≠ w.heap.size + 1 by omega), Tr.heap_set_other _ ⟨w.heap.size + 1 + 1, _, none⟩ _ _ (show w.heap.size + 1 + 1 ≠ w.heap.size + 1 by omega), b1, Option.map_some, Tr.setObj]
              simp
            · (repeat (first | with_reducible assumption | (with_reducible exact Below.refl _ _) | ((with_reducible refine Tr.below_alloc ?_ ?_); rotate_left; focus (first | omega | exact Nat.le_refl _)) | (with_reducible refine Tr.below_drew ?_) | (with_reducible refine Tr.below_drewN ?_) | ((with_reducible refine Tr.below_set ?_ ?_); rotate_left; focus (first | omega | (simp; done) | (simp; omega))) | ((with_reducible refine Tr.below_trans ?_ (by assumption) ?_); rotate_left; focus (first | exact Nat.le_refl _ | omega))))
          · have hov' := hov1 (by omega)
            simp only [Tot.get, Tot.put] at hov' ⊢
            have HE := Lib.hid (hE _ hov')
            have HAMI := Lib.hid hamI
            clear hE hov1 hk1 hk6 hov' hamI
            go_enter Try.func33, Try.ntmps33
            go_wp2_with (go_at_call 54; refine (C_R03Add _ am (by unfold I64; omega) HAMI.out _).mono ?_; rw [HE.out.1, HE.out.2]; rintro e w2 ⟨rfl, hb2⟩; have b0 := Tr.blk_keep (b := w.heap.size) hb2 (Tr.blk_old (Tr.blk_old (Tr.blk_new _ _))); have b1 := Tr.blk_keep (b := w.heap.size + 1) hb2 (Tr.blk_old (Tr.blk_at (by simp))); have b2 := Tr.blk_keep (b := w.heap.size + 1 + 1) hb2 (Tr.blk_at (by simp)); have c0 := fun o => Tr.cell_blk (o := o) b0; have c1 := fun o => Tr.cell_blk (o := o) b1; have c2 := fun o => Tr.cell_blk (o := o) b2; have f0 := fun o => Tr.frozen_blk (o := o) b0; have f1 := fun o => Tr.frozen_blk (o := o) b1; have f2 := fun o => Tr.frozen_blk (o := o) b2; have B0 := Lib.hid b0; have B1 := Lib.hid b1; have B2 := Lib.hid b2; have hBB : Below w.heap.size w w2 := Tr.below_trans (by (repeat (first | with_reducible assumption | (with_reducible exact Below.refl _ _) | ((with_reducible refine Tr.below_alloc ?_ ?_); rotate_left; focus (first | omega | exact Nat.le_refl _)) | (with_reducible refine Tr.below_drew ?_) | (with_reducible refine Tr.below_drewN ?_) | ((with_reducible refine Tr.below_set ?_ ?_); rotate_left; focus (first | omega | (simp; done) | (simp; omega))) | ((with_reducible refine Tr.below_trans ?_ (by assumption) ?_); rotate_left; focus (first | exact Nat.le_refl _ | omega))))) hb2; clear b0 b1 b2)
            refine bodyPost_ret (Tr.results_run [.cell 6 74, .tmp 7] [_, _] rfl ⟨_, _, rfl, ⟨_, rfl, Tr.load_blk (t := 74) (fr := (0, 0)) (cs := #[.int .i64 keep, .int .i64 next, .bool true, .int .i64 (n + 1), .int .i64 (s), .int .i64 (v), .int .i64 (r), .int .i64 (i), .int .i64 (o + am), .slice a len cap]) ?_ Try.underlying74 rfl (by kernel_rfl)⟩, _, _, rfl, rfl, rfl⟩ _ rfl) rfl ⟨rfl, ?_⟩
            · have b1 := B1.out
              simp only [Tr.heap_set_same, Tr.heap_set_other _ ⟨w.heap.size, _, none⟩ _ _ (show w.heap.size ≠ w.heap.size + 1 by omega), Tr.heap_set_other _ ⟨w.heap.size + 1 + 1, _, none⟩ _ _ (show w.heap.size + 1 + 1 ≠ w.heap.size + 1 by omega), b1, Option.map_some, Tr.setObj]
              simp
            · (repeat (first | with_reducible assumption | (with_reducible exact Below.refl _ _) | ((with_reducible refine Tr.below_alloc ?_ ?_); rotate_left; focus (first | omega | exact Nat.le_refl _)) | (with_reducible refine Tr.below_drew ?_) | (with_reducible refine Tr.below_drewN ?_) | ((with_reducible refine Tr.below_set ?_ ?_); rotate_left; focus (first | omega | (simp; done) | (simp; omega))) | ((with_reducible refine Tr.below_trans ?_ (by assumption) ?_); rotate_left; focus (first | exact Nat.le_refl _ | omega))))
end Go.Proofs.Ytjkfkgpdlflbhaa
