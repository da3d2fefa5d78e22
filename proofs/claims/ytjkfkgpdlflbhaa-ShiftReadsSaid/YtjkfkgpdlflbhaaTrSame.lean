/- Shifts: a copy; and whether they are the reference's. -/
import Derived.Test.YtjkfkgpdlflbhaaTrR26c
import Derived.Laws.StructEq
import Derived.Deep.CutRange
import Derived.BigQuiet
namespace Go.Proofs.Ytjkfkgpdlflbhaa
open Go.RowKit Go.Sort
open Tr (Sl Chg)
set_option linter.unusedVariables false
set_option linter.unusedSimpArgs false

theorem eq63 (s v r i o : Int) (d : Nat) (W : World) : (Op.equalIn (d + 2) 63 (.agg #[.int .i64 s, .int .i64 v, .int .i64 r, .int .i64 i, .int .i64 o]) (.agg #[.int .i64 s, .int .i64 v, .int .i64 r, .int .i64 i, .int .i64 o])).run Try.prog W = .ok true W := by
  unfold Op.equalIn
  simp only [Sem.run_bind, run_underlying Try.underlying63, Result.andThen_ok]
  have hs : ∀ W, (sizeOf 2).run Try.prog W = .ok 1 W := fun W => by kernel_rfl
  rw [hs]
  have hi : ∀ (x : Int) (W : World), (Op.equalIn (d + 1) 2 (.int .i64 x) (.int .i64 x)).run Try.prog W = .ok true W := fun x W => by rw [run_equalIn_int (h := Try.underlying2)]; simp
  simp only [Result.andThen_ok, Std.Legacy.Range.forIn_eq_forIn_range', Std.Legacy.Range.size, Nat.sub_zero, Nat.add_sub_cancel, Nat.div_one]
  simp [List.range', go_sem, hi, Try.underlying2]
theorem eq69 (n s v r i o : Int) (W : World) : (Op.equalIn 10000 69 (.agg #[.int .i64 n, .int .i64 s, .int .i64 v, .int .i64 r, .int .i64 i, .int .i64 o]) (.agg #[.int .i64 n, .int .i64 s, .int .i64 v, .int .i64 r, .int .i64 i, .int .i64 o])).run Try.prog W = .ok true W := by
  have h := fun W => eq63 s v r i o 9997 W
  simp [go_sem, Try.underlying69, Try.underlying3, h]

set_option maxRecDepth 100000 in
set_option maxHeartbeats 4000000 in
theorem C_Copy (b : Nat) (x : Sh) (w : World) (h : x.is w b) (ho : x.ok) : Calls Try.prog 30 #[.pointer (some ⟨b, 0, none⟩)] w fun e w' =>
    e = .returned (.pointer (some ⟨w.heap.size, 0, none⟩)) ∧ x.is w' w.heap.size ∧ Below w.heap.size w w' := by
  obtain ⟨a, cap, hb, hsl⟩ := h
  obtain ⟨keep, next, op, ⟨n, s, v, r, i, o⟩, cl⟩ := x
  have hc := fun o => Tr.cell_blk (o := o) hb
  have hbl := Tr.blk_lt hb
  unfold Sh.cells at hc
  obtain ⟨⟨k0, k1⟩, ⟨n0, n1⟩, -, -, hlen, -⟩ := ho
  dsimp only at hc hsl k0 k1 n0 n1 hlen
  have hcl : cl.length ≤ 64 := by omega
  have hcl2 : ∀ W : World, Below w.heap.size w W → Calls Try.prog 47 #[.slice a cl.length cap] W fun e w' => ∃ v', e = .returned v' ∧ w'.ownsRow W.heap.size 55 6 v' cl.length (tots cl) ∧ Below W.heap.size W w' :=
    fun W hW => C_CloneT _ _ _ W (Tr.Sl.keep hW hsl) (by omega)
  have HCL := Lib.hid hcl2; have HB := Lib.hid hb
  clear hcl2 hsl hb
  go_enter Try.func30, Try.ntmps30
  go_wp2_with (go_at_call 47; refine (HCL.out _ ?_).mono ?_; (focus ((repeat (first | with_reducible assumption | (with_reducible exact Below.refl _ _) | ((with_reducible refine Tr.below_alloc ?_ ?_); rotate_left; focus (first | omega | exact Nat.le_refl _)) | (with_reducible refine Tr.below_drew ?_) | (with_reducible refine Tr.below_drewN ?_) | ((with_reducible refine Tr.below_set ?_ ?_); rotate_left; focus (first | omega | (simp; done) | (simp; omega))) | ((with_reducible refine Tr.below_trans ?_ (by assumption) ?_); rotate_left; focus (first | exact Nat.le_refl _ | omega)))))); rintro e w1 ⟨v', rfl, hown, hb1⟩; have bn := Tr.blk_keep hb1 (Tr.blk_new _ _); have cn := fun o => Tr.cell_blk (o := o) bn; have fn := fun o => Tr.frozen_blk (o := o) bn; have BN := Lib.hid bn; have hB1 : Below w.heap.size w w1 := Tr.below_trans (by (repeat (first | with_reducible assumption | (with_reducible exact Below.refl _ _) | ((with_reducible refine Tr.below_alloc ?_ ?_); rotate_left; focus (first | omega | exact Nat.le_refl _)) | (with_reducible refine Tr.below_drew ?_) | (with_reducible refine Tr.below_drewN ?_) | ((with_reducible refine Tr.below_set ?_ ?_); rotate_left; focus (first | omega | (simp; done) | (simp; omega))) | ((with_reducible refine Tr.below_trans ?_ (by assumption) ?_); rotate_left; focus (first | exact Nat.le_refl _ | omega))))) hb1; obtain ⟨a', cap', rfl, hrest⟩ := Tr.Sl.of_row hown (tots_one cl); have hSl : Sl 55 6 w1 (.slice a' cl.length cap') cl.length (tots cl) := ⟨a', cap', rfl, hrest⟩; have HSL := Lib.hid hSl; clear bn hown hb1 hSl hrest)
  go_ret
  have hsl := HSL.out
  refine ⟨rfl, ⟨a', cap', ?_, hsl.chg (b := w.heap.size) ((Chg.refl _ _).set _ _) BN.out (by decide)⟩, ?_⟩
  · have bn := BN.out
    (simp only [Tr.heap_set_same, bn, Option.map_some, Tr.setObj]; simp [Sh.cells])
  · (repeat (first | with_reducible assumption | (with_reducible exact Below.refl _ _) | ((with_reducible refine Tr.below_alloc ?_ ?_); rotate_left; focus (first | omega | exact Nat.le_refl _)) | (with_reducible refine Tr.below_drew ?_) | (with_reducible refine Tr.below_drewN ?_) | ((with_reducible refine Tr.below_set ?_ ?_); rotate_left; focus (first | omega | (simp; done) | (simp; omega))) | ((with_reducible refine Tr.below_trans ?_ (by assumption) ?_); rotate_left; focus (first | exact Nat.le_refl _ | omega))))
set_option maxHeartbeats 1000000 in
theorem C_Copy_nil (w : World) : Calls Try.prog 30 #[.pointer none] w fun e w' => e = .returned (.pointer none) ∧ Below w.heap.size w w' := by
  go_enter Try.func30, Try.ntmps30
  go_wp2_with fail
  go_ret
  exact ⟨rfl, by (repeat (first | with_reducible assumption | (with_reducible exact Below.refl _ _) | ((with_reducible refine Tr.below_alloc ?_ ?_); rotate_left; focus (first | omega | exact Nat.le_refl _)) | (with_reducible refine Tr.below_drew ?_) | (with_reducible refine Tr.below_drewN ?_) | ((with_reducible refine Tr.below_set ?_ ?_); rotate_left; focus (first | omega | (simp; done) | (simp; omega))) | ((with_reducible refine Tr.below_trans ?_ (by assumption) ?_); rotate_left; focus (first | exact Nat.le_refl _ | omega))))⟩

def SameInv (B : World) (blk : Array Value) (nx : Int) (s6 : Value) (wr : World) : Prop :=
  ∃ j : Nat, j ≤ 14 ∧ s6 = .int .i64 (nx - 12 + j) ∧ wr.heap[B.heap.size]? = some (.cells blk 74 (0, 0)) ∧ Below B.heap.size B wr
set_option maxRecDepth 100000 in
set_option maxHeartbeats 8000000 in
theorem C_same (b : Nat) (x : Sh) (a : Option Addr) (cap : Nat) (w : World) (h : x.is w b) (ho : x.ok) (hl : Sl 69 6 w (.slice a x.cl.length cap) x.cl.length (tots x.cl)) :
    Calls Try.prog 34 #[.pointer (some ⟨b, 0, none⟩), RV x (.slice a x.cl.length cap)] w fun e w' => e = .returned (.bool true) ∧ Below w.heap.size w w' := by
  have hOpen : ∀ W : World, Below w.heap.size w W → Calls Try.prog 43 #[.pointer (some ⟨b, 0, none⟩)] W fun e w' => e = .returned (.int .i64 x.openN) ∧ Below W.heap.size W w' := fun W hW => C_Open b x W (Sh.is_keep h hW) ho
  have hTot : ∀ (W : World) (n : Int), I64 n → Below w.heap.size w W → Calls Try.prog 26 #[.pointer (some ⟨b, 0, none⟩), .int .i64 n] W fun e w' => e = .returned (.tuple #[(x.totals n).1.val, .bool (x.totals n).2]) ∧ Below W.heap.size W w' := fun W n hn hW => C_Totals b x n hn W (Sh.is_keep h hW) ho
  have hOf : ∀ (W : World) (n : Int), I64 n → Below w.heap.size w W → Calls Try.prog 37 #[RV x (.slice a x.cl.length cap), .int .i64 n] W fun e w' => e = .returned (.tuple #[(x.totals n).1.val, .bool (x.totals n).2]) ∧ Below W.heap.size W w' := fun W n hn hW => by
    have := C_ROf x n a cap W (Tr.Sl.keep hW hl) ho hn
    rwa [Sh.of_totals x ho n] at this
  have hz : ∀ n, (x.totals n).2 = false → (x.totals n).1 = .zero := fun n => by unfold Sh.totals; split <;> (try split) <;> (try split) <;> simp
  have HOPEN := Lib.hid hOpen; have HTOT := Lib.hid hTot; have HZ := Lib.hid hz
  obtain ⟨-, ⟨n0, n1⟩, -⟩ := ho
  clear hOpen hTot h hl hz
  obtain ⟨op, hop⟩ : ∃ op, op = x.op := ⟨_, rfl⟩
  obtain ⟨next, hnext⟩ : ∃ next, next = x.next := ⟨_, rfl⟩
  have hon : x.openN = if op then next - 1 else 0 := by unfold Sh.openN; rw [hop, hnext]
  have HON := Lib.hid hon
  rw [← hnext] at n0 n1
  have hrv : RV x (.slice a x.cl.length cap) = .agg #[.int .i64 x.keep, .int .i64 next, .bool op, .int .i64 x.now.n, .int .i64 x.now.s, .int .i64 x.now.v, .int .i64 x.now.r, .int .i64 x.now.i, .int .i64 x.now.o, .slice a x.cl.length cap] := by rw [hop, hnext]; rfl
  rw [hrv]
  simp only [hrv] at hOf
  have HOF := Lib.hid hOf
  clear hop hnext hon hrv hOf
  cases op with
  | true =>
    go_enter Try.func34, Try.ntmps34
    go_wp2_with (go_at_call 43; refine (HOPEN.out _ ?_).mono ?_; (focus ((repeat (first | with_reducible assumption | (with_reducible exact Below.refl _ _) | ((with_reducible refine Tr.below_alloc ?_ ?_); rotate_left; focus (first | omega | exact Nat.le_refl _)) | (with_reducible refine Tr.below_drew ?_) | (with_reducible refine Tr.below_drewN ?_) | ((with_reducible refine Tr.below_set ?_ ?_); rotate_left; focus (first | omega | (simp; done) | (simp; omega))) | ((with_reducible refine Tr.below_trans ?_ (by assumption) ?_); rotate_left; focus (first | exact Nat.le_refl _ | omega)))))); rw [HON.out]; simp only [if_true, if_false, Bool.false_eq_true]; rintro e w1 ⟨rfl, hb1⟩; have bm := Tr.blk_keep hb1 (Tr.blk_new _ _); have hB1 : Below w.heap.size w w1 := Tr.below_trans (by (repeat (first | with_reducible assumption | (with_reducible exact Below.refl _ _) | ((with_reducible refine Tr.below_alloc ?_ ?_); rotate_left; focus (first | omega | exact Nat.le_refl _)) | (with_reducible refine Tr.below_drew ?_) | (with_reducible refine Tr.below_drewN ?_) | ((with_reducible refine Tr.below_set ?_ ?_); rotate_left; focus (first | omega | (simp; done) | (simp; omega))) | ((with_reducible refine Tr.below_trans ?_ (by assumption) ?_); rotate_left; focus (first | exact Nat.le_refl _ | omega))))) hb1; have cm := fun o => Tr.cell_blk (o := o) bm; have BM := Lib.hid bm; clear bm hb1)
    clear HOPEN HON
    go_loopw [6] (fun s6 wr => SameInv w #[.int .i64 x.keep, .int .i64 next, .bool true, .int .i64 x.now.n, .int .i64 x.now.s, .int .i64 x.now.v, .int .i64 x.now.r, .int .i64 x.now.i, .int .i64 x.now.o, .slice a x.cl.length cap] next s6 wr) (fun s6 _ => (next + 2 - intOf s6).toNat)
    case atStart => exact ⟨0, by omega, by go_num, BM.out, hB1⟩
    case round =>
      clear cm BM hB1
      obtain ⟨j, hj, rfl, bm, hB⟩ := hrel
      have lm := Tr.blk_lt bm
      have cm := fun o => Tr.cell_blk (o := o) bm
      have BM := Lib.hid bm
      clear bm
      by_cases hlt : j < 14
      · obtain ⟨R, hR⟩ : ∃ R, R = x.totals (next - 12 + j) := ⟨_, rfl⟩
        have hz := HZ.out (next - 12 + j)
        rw [← hR] at hz
        obtain ⟨⟨n, s, v, r, i, o⟩, ok⟩ := R
        have HR := Lib.hid hR
        clear hR
        go_upto_region 11 with (first
          | (go_at_call 26; refine (HTOT.out _ (next - 12 + j) (by unfold I64; omega) ?_).mono ?_; (focus ((repeat (first | with_reducible assumption | (with_reducible exact Below.refl _ _) | ((with_reducible refine Tr.below_alloc ?_ ?_); rotate_left; focus (first | omega | exact Nat.le_refl _)) | (with_reducible refine Tr.below_drew ?_) | (with_reducible refine Tr.below_drewN ?_) | ((with_reducible refine Tr.below_set ?_ ?_); rotate_left; focus (first | omega | (simp; done) | (simp; omega))) | ((with_reducible refine Tr.below_trans ?_ (by assumption) ?_); rotate_left; focus (first | exact Nat.le_refl _ | omega)))))); rw [← HR.out]; rintro e w2 ⟨rfl, hb2⟩; simp only [Tot.val]; have bm2 := Tr.blk_old (x := .cells #[.int .i64 n, .int .i64 s, .int .i64 v, .int .i64 r, .int .i64 i, .int .i64 o] 55) (Tr.blk_keep hb2 BM.out); have b7 := Tr.blk_new w2 (.cells #[.int .i64 n, .int .i64 s, .int .i64 v, .int .i64 r, .int .i64 i, .int .i64 o] 55); have hB2 : Below w.heap.size w (w2.alloc (.cells #[.int .i64 n, .int .i64 s, .int .i64 v, .int .i64 r, .int .i64 i, .int .i64 o] 55)) := Tr.below_alloc (Tr.below_trans hB hb2) (Nat.le_refl _); have cm2 := fun o => Tr.cell_blk (o := o) bm2; have B7 := Lib.hid b7; have BM2 := Lib.hid bm2; clear cm hb2 bm2 b7)
          | (go_at_call 37; refine (HOF.out _ (next - 12 + j) (by unfold I64; omega) ?_).mono ?_; (focus ((repeat (first | with_reducible assumption | (with_reducible exact Below.refl _ _) | ((with_reducible refine Tr.below_alloc ?_ ?_); rotate_left; focus (first | omega | exact Nat.le_refl _)) | (with_reducible refine Tr.below_drew ?_) | (with_reducible refine Tr.below_drewN ?_) | ((with_reducible refine Tr.below_set ?_ ?_); rotate_left; focus (first | omega | (simp; done) | (simp; omega))) | ((with_reducible refine Tr.below_trans ?_ (by assumption) ?_); rotate_left; focus (first | exact Nat.le_refl _ | omega)))))); rw [← HR.out]; rintro e w3 ⟨rfl, hb3⟩; simp only [Tot.val]; have b73 := Tr.blk_old (x := .cells #[.int .i64 n, .int .i64 s, .int .i64 v, .int .i64 r, .int .i64 i, .int .i64 o] 69) (Tr.blk_keep hb3 B7.out); have bm3 := Tr.blk_old (x := .cells #[.int .i64 n, .int .i64 s, .int .i64 v, .int .i64 r, .int .i64 i, .int .i64 o] 69) (Tr.blk_keep hb3 BM2.out); have b9 := Tr.blk_new w3 (.cells #[.int .i64 n, .int .i64 s, .int .i64 v, .int .i64 r, .int .i64 i, .int .i64 o] 69); have hB3 : Below w.heap.size w (w3.alloc (.cells #[.int .i64 n, .int .i64 s, .int .i64 v, .int .i64 r, .int .i64 i, .int .i64 o] 69)) := Tr.below_alloc (Tr.below_trans hB2 hb3) (Nat.le_refl _); have B73 := Lib.hid b73; have BM3 := Lib.hid bm3; have B9 := Lib.hid b9; clear cm2 hb3 b73 bm3 b9))
        go_cut [62] from 23 to 62 (fun s62 wx => s62 = .bool false ∧ Below w.heap.size w wx ∧ wx.heap[w.heap.size]? = some (.cells #[.int .i64 x.keep, .int .i64 next, .bool true, .int .i64 x.now.n, .int .i64 x.now.s, .int .i64 x.now.v, .int .i64 x.now.r, .int .i64 x.now.i, .int .i64 x.now.o, .slice a x.cl.length cap] 74 (0, 0)))
        case first =>
          have hof : ∀ W : World, Calls Try.prog 29 #[.agg #[.int .i64 n, .int .i64 s, .int .i64 v, .int .i64 r, .int .i64 i, .int .i64 o]] W fun e w' => e = .returned (.agg #[.int .i64 n, .int .i64 s, .int .i64 v, .int .i64 r, .int .i64 i, .int .i64 o]) ∧ Below W.heap.size W w' := fun W => C_of26 ⟨n, s, v, r, i, o⟩ W
          have HOFF := Lib.hid hof
          clear hof
          have c73 : ∀ d os (q : Nat), (grow (redrawn (w3.alloc (.cells #[.int .i64 n, .int .i64 s, .int .i64 v, .int .i64 r, .int .i64 i, .int .i64 o] 69)) d) os).cell? ⟨w2.heap.size, q, none⟩ = _ := fun d os q => Tr.cell_blk (Tr.blk_grown B73.out d os)
          have c93 : ∀ d os (q : Nat), (grow (redrawn (w3.alloc (.cells #[.int .i64 n, .int .i64 s, .int .i64 v, .int .i64 r, .int .i64 i, .int .i64 o] 69)) d) os).cell? ⟨w3.heap.size, q, none⟩ = _ := fun d os q => Tr.cell_blk (Tr.blk_grown B9.out d os)
          cases ok with
          | true =>
            clear hz
            have h63 : ∀ W, (Op.equalIn 9999 63 (.agg #[.int .i64 s, .int .i64 v, .int .i64 r, .int .i64 i, .int .i64 o]) (.agg #[.int .i64 s, .int .i64 v, .int .i64 r, .int .i64 i, .int .i64 o])).run Try.prog W = .ok true W := fun W => eq63 s v r i o 9997 W
            have h69 : ∀ W, (Op.equalIn 10000 69 (.agg #[.int .i64 n, .int .i64 s, .int .i64 v, .int .i64 r, .int .i64 i, .int .i64 o]) (.agg #[.int .i64 n, .int .i64 s, .int .i64 v, .int .i64 r, .int .i64 i, .int .i64 o])).run Try.prog W = .ok true W := fun W => eq69 n s v r i o W
            refine wp_region_quiet_below (by kernel_rfl) (by kernel_rfl) ?_
            repeat (any_goals (go_big_quiet_step ((go_at_call 29; exact Calls.regrown_of (HOFF.out _)))))
            refine wpQuiet_nil ?_
            intro w5 hw5
            have hb5 := Tr.below_grown hw5
            clear hw5 c73 c93
            go_wp2_with fail; go_meet
            exact ⟨rfl, Tr.below_trans hB3 hb5, Tr.blk_keep hb5 BM3.out⟩
          | false =>
            have hz' := hz rfl
            unfold Tot.zero at hz'
            simp only [Tot.mk.injEq] at hz'
            obtain ⟨rfl, rfl, rfl, rfl, rfl, rfl⟩ := hz'
            clear hz
            refine wp_region_quiet_below (by kernel_rfl) (by kernel_rfl) ?_
            repeat (any_goals (go_big_quiet_step (fail)))
            refine wpQuiet_nil ?_
            intro w5 hw5
            have hb5 := Tr.below_grown hw5
            clear hw5 c73 c93
            go_wp2_with fail; go_meet
            exact ⟨rfl, Tr.below_trans hB3 hb5, Tr.blk_keep hb5 BM3.out⟩
        case rest =>
          obtain ⟨rfl, hB5, bm5⟩ := hcut
          clear hB3
          have cm5 := fun o => Tr.cell_blk (o := o) bm5
          have BM5 := Lib.hid bm5
          clear bm5
          go_wp2_with fail
          go_roundw
          case rel => exact ⟨j + 1, by omega, by go_num, BM5.out, hB5⟩
          case measure => simp [intOf]; omega
      · go_wp2_with fail
        go_ret
        exact ⟨rfl, hB⟩
  | false =>
    go_enter Try.func34, Try.ntmps34
    go_wp2_with (go_at_call 43; refine (HOPEN.out _ ?_).mono ?_; (focus ((repeat (first | with_reducible assumption | (with_reducible exact Below.refl _ _) | ((with_reducible refine Tr.below_alloc ?_ ?_); rotate_left; focus (first | omega | exact Nat.le_refl _)) | (with_reducible refine Tr.below_drew ?_) | (with_reducible refine Tr.below_drewN ?_) | ((with_reducible refine Tr.below_set ?_ ?_); rotate_left; focus (first | omega | (simp; done) | (simp; omega))) | ((with_reducible refine Tr.below_trans ?_ (by assumption) ?_); rotate_left; focus (first | exact Nat.le_refl _ | omega)))))); rw [HON.out]; simp only [if_true, if_false, Bool.false_eq_true]; rintro e w1 ⟨rfl, hb1⟩; have bm := Tr.blk_keep hb1 (Tr.blk_new _ _); have hB1 : Below w.heap.size w w1 := Tr.below_trans (by (repeat (first | with_reducible assumption | (with_reducible exact Below.refl _ _) | ((with_reducible refine Tr.below_alloc ?_ ?_); rotate_left; focus (first | omega | exact Nat.le_refl _)) | (with_reducible refine Tr.below_drew ?_) | (with_reducible refine Tr.below_drewN ?_) | ((with_reducible refine Tr.below_set ?_ ?_); rotate_left; focus (first | omega | (simp; done) | (simp; omega))) | ((with_reducible refine Tr.below_trans ?_ (by assumption) ?_); rotate_left; focus (first | exact Nat.le_refl _ | omega))))) hb1; have cm := fun o => Tr.cell_blk (o := o) bm; have BM := Lib.hid bm; clear bm hb1)
    clear HOPEN HON
    go_loopw [6] (fun s6 wr => SameInv w #[.int .i64 x.keep, .int .i64 next, .bool false, .int .i64 x.now.n, .int .i64 x.now.s, .int .i64 x.now.v, .int .i64 x.now.r, .int .i64 x.now.i, .int .i64 x.now.o, .slice a x.cl.length cap] next s6 wr) (fun s6 _ => (next + 2 - intOf s6).toNat)
    case atStart => exact ⟨0, by omega, by go_num, BM.out, hB1⟩
    case round =>
      clear cm BM hB1
      obtain ⟨j, hj, rfl, bm, hB⟩ := hrel
      have lm := Tr.blk_lt bm
      have cm := fun o => Tr.cell_blk (o := o) bm
      have BM := Lib.hid bm
      clear bm
      by_cases hlt : j < 14
      · obtain ⟨R, hR⟩ : ∃ R, R = x.totals (next - 12 + j) := ⟨_, rfl⟩
        have hz := HZ.out (next - 12 + j)
        rw [← hR] at hz
        obtain ⟨⟨n, s, v, r, i, o⟩, ok⟩ := R
        have HR := Lib.hid hR
        clear hR
        go_upto_region 11 with (first
          | (go_at_call 26; refine (HTOT.out _ (next - 12 + j) (by unfold I64; omega) ?_).mono ?_; (focus ((repeat (first | with_reducible assumption | (with_reducible exact Below.refl _ _) | ((with_reducible refine Tr.below_alloc ?_ ?_); rotate_left; focus (first | omega | exact Nat.le_refl _)) | (with_reducible refine Tr.below_drew ?_) | (with_reducible refine Tr.below_drewN ?_) | ((with_reducible refine Tr.below_set ?_ ?_); rotate_left; focus (first | omega | (simp; done) | (simp; omega))) | ((with_reducible refine Tr.below_trans ?_ (by assumption) ?_); rotate_left; focus (first | exact Nat.le_refl _ | omega)))))); rw [← HR.out]; rintro e w2 ⟨rfl, hb2⟩; simp only [Tot.val]; have bm2 := Tr.blk_old (x := .cells #[.int .i64 n, .int .i64 s, .int .i64 v, .int .i64 r, .int .i64 i, .int .i64 o] 55) (Tr.blk_keep hb2 BM.out); have b7 := Tr.blk_new w2 (.cells #[.int .i64 n, .int .i64 s, .int .i64 v, .int .i64 r, .int .i64 i, .int .i64 o] 55); have hB2 : Below w.heap.size w (w2.alloc (.cells #[.int .i64 n, .int .i64 s, .int .i64 v, .int .i64 r, .int .i64 i, .int .i64 o] 55)) := Tr.below_alloc (Tr.below_trans hB hb2) (Nat.le_refl _); have cm2 := fun o => Tr.cell_blk (o := o) bm2; have B7 := Lib.hid b7; have BM2 := Lib.hid bm2; clear cm hb2 bm2 b7)
          | (go_at_call 37; refine (HOF.out _ (next - 12 + j) (by unfold I64; omega) ?_).mono ?_; (focus ((repeat (first | with_reducible assumption | (with_reducible exact Below.refl _ _) | ((with_reducible refine Tr.below_alloc ?_ ?_); rotate_left; focus (first | omega | exact Nat.le_refl _)) | (with_reducible refine Tr.below_drew ?_) | (with_reducible refine Tr.below_drewN ?_) | ((with_reducible refine Tr.below_set ?_ ?_); rotate_left; focus (first | omega | (simp; done) | (simp; omega))) | ((with_reducible refine Tr.below_trans ?_ (by assumption) ?_); rotate_left; focus (first | exact Nat.le_refl _ | omega)))))); rw [← HR.out]; rintro e w3 ⟨rfl, hb3⟩; simp only [Tot.val]; have b73 := Tr.blk_old (x := .cells #[.int .i64 n, .int .i64 s, .int .i64 v, .int .i64 r, .int .i64 i, .int .i64 o] 69) (Tr.blk_keep hb3 B7.out); have bm3 := Tr.blk_old (x := .cells #[.int .i64 n, .int .i64 s, .int .i64 v, .int .i64 r, .int .i64 i, .int .i64 o] 69) (Tr.blk_keep hb3 BM2.out); have b9 := Tr.blk_new w3 (.cells #[.int .i64 n, .int .i64 s, .int .i64 v, .int .i64 r, .int .i64 i, .int .i64 o] 69); have hB3 : Below w.heap.size w (w3.alloc (.cells #[.int .i64 n, .int .i64 s, .int .i64 v, .int .i64 r, .int .i64 i, .int .i64 o] 69)) := Tr.below_alloc (Tr.below_trans hB2 hb3) (Nat.le_refl _); have B73 := Lib.hid b73; have BM3 := Lib.hid bm3; have B9 := Lib.hid b9; clear cm2 hb3 b73 bm3 b9))
        go_cut [62] from 23 to 62 (fun s62 wx => s62 = .bool false ∧ Below w.heap.size w wx ∧ wx.heap[w.heap.size]? = some (.cells #[.int .i64 x.keep, .int .i64 next, .bool false, .int .i64 x.now.n, .int .i64 x.now.s, .int .i64 x.now.v, .int .i64 x.now.r, .int .i64 x.now.i, .int .i64 x.now.o, .slice a x.cl.length cap] 74 (0, 0)))
        case first =>
          have hof : ∀ W : World, Calls Try.prog 29 #[.agg #[.int .i64 n, .int .i64 s, .int .i64 v, .int .i64 r, .int .i64 i, .int .i64 o]] W fun e w' => e = .returned (.agg #[.int .i64 n, .int .i64 s, .int .i64 v, .int .i64 r, .int .i64 i, .int .i64 o]) ∧ Below W.heap.size W w' := fun W => C_of26 ⟨n, s, v, r, i, o⟩ W
          have HOFF := Lib.hid hof
          clear hof
          have c73 : ∀ d os (q : Nat), (grow (redrawn (w3.alloc (.cells #[.int .i64 n, .int .i64 s, .int .i64 v, .int .i64 r, .int .i64 i, .int .i64 o] 69)) d) os).cell? ⟨w2.heap.size, q, none⟩ = _ := fun d os q => Tr.cell_blk (Tr.blk_grown B73.out d os)
          have c93 : ∀ d os (q : Nat), (grow (redrawn (w3.alloc (.cells #[.int .i64 n, .int .i64 s, .int .i64 v, .int .i64 r, .int .i64 i, .int .i64 o] 69)) d) os).cell? ⟨w3.heap.size, q, none⟩ = _ := fun d os q => Tr.cell_blk (Tr.blk_grown B9.out d os)
          cases ok with
          | true =>
            clear hz
            have h63 : ∀ W, (Op.equalIn 9999 63 (.agg #[.int .i64 s, .int .i64 v, .int .i64 r, .int .i64 i, .int .i64 o]) (.agg #[.int .i64 s, .int .i64 v, .int .i64 r, .int .i64 i, .int .i64 o])).run Try.prog W = .ok true W := fun W => eq63 s v r i o 9997 W
            have h69 : ∀ W, (Op.equalIn 10000 69 (.agg #[.int .i64 n, .int .i64 s, .int .i64 v, .int .i64 r, .int .i64 i, .int .i64 o]) (.agg #[.int .i64 n, .int .i64 s, .int .i64 v, .int .i64 r, .int .i64 i, .int .i64 o])).run Try.prog W = .ok true W := fun W => eq69 n s v r i o W
            refine wp_region_quiet_below (by kernel_rfl) (by kernel_rfl) ?_
            repeat (any_goals (go_big_quiet_step ((go_at_call 29; exact Calls.regrown_of (HOFF.out _)))))
            refine wpQuiet_nil ?_
            intro w5 hw5
            have hb5 := Tr.below_grown hw5
            clear hw5 c73 c93
            go_wp2_with fail; go_meet
            exact ⟨rfl, Tr.below_trans hB3 hb5, Tr.blk_keep hb5 BM3.out⟩
          | false =>
            have hz' := hz rfl
            unfold Tot.zero at hz'
            simp only [Tot.mk.injEq] at hz'
            obtain ⟨rfl, rfl, rfl, rfl, rfl, rfl⟩ := hz'
            clear hz
            refine wp_region_quiet_below (by kernel_rfl) (by kernel_rfl) ?_
            repeat (any_goals (go_big_quiet_step (fail)))
            refine wpQuiet_nil ?_
            intro w5 hw5
            have hb5 := Tr.below_grown hw5
            clear hw5 c73 c93
            go_wp2_with fail; go_meet
            exact ⟨rfl, Tr.below_trans hB3 hb5, Tr.blk_keep hb5 BM3.out⟩
        case rest =>
          obtain ⟨rfl, hB5, bm5⟩ := hcut
          clear hB3
          have cm5 := fun o => Tr.cell_blk (o := o) bm5
          have BM5 := Lib.hid bm5
          clear bm5
          go_wp2_with fail
          go_roundw
          case rel => exact ⟨j + 1, by omega, by go_num, BM5.out, hB5⟩
          case measure => simp [intOf]; omega
      · go_wp2_with fail
        go_ret
        exact ⟨rfl, hB⟩
end Go.Proofs.Ytjkfkgpdlflbhaa
