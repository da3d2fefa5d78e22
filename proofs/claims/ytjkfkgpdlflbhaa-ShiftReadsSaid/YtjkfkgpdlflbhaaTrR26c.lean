/- The reference's shifts: End of none, Of. -/
import Derived.Test.YtjkfkgpdlflbhaaTrR26b
namespace Go.Proofs.Ytjkfkgpdlflbhaa
open Go.RowKit Go.Sort
open Tr (Sl Chg)
set_option linter.unusedVariables false
set_option linter.unusedSimpArgs false

set_option maxRecDepth 100000 in
set_option maxHeartbeats 4000000 in
theorem C_REnd_no (keep next : Int) (now : Tot) (cl : List Tot) (a : Option Addr) (len cap : Nat) (w : World) :
    Calls Try.prog 32 #[RV (Sh.mk keep next false now cl) (.slice a len cap)] w fun e w' =>
      e = .returned (.tuple #[RV (Sh.mk keep next false now cl) (.slice a len cap), .int .i64 0, Tot.zero.val, .int .i64 20]) ∧ Below w.heap.size w w' := by
  obtain ⟨n, s, v, r, i, o⟩ := now
  unfold RV Tot.val Tot.zero
  dsimp only
  go_enter Try.func32, Try.ntmps32
  go_wp2_with fail
  go_region
  all_goals
    go_wp2
    refine bodyPost_ret (Tr.results_run [.cell 2 74, .tmp 3, .cell 4 69, .tmp 5] [_, _, _, _] rfl ⟨_, _, rfl, ⟨_, rfl, Tr.load_blk (t := 74) (fr := (0, 0)) (cs := #[.int .i64 keep, .int .i64 next, .bool false, .int .i64 n, .int .i64 s, .int .i64 v, .int .i64 r, .int .i64 i, .int .i64 o, .slice a len cap]) ?_ Try.underlying74 rfl (by kernel_rfl)⟩, _, _, rfl, rfl, _, _, rfl, ⟨_, rfl, Tr.load_blk (t := 69) (fr := (0, 0)) (cs := #[.int .i64 0, .int .i64 0, .int .i64 0, .int .i64 0, .int .i64 0, .int .i64 0]) ?_ Try.underlying69 rfl (by kernel_rfl)⟩, _, _, rfl, rfl, rfl⟩ _ rfl) rfl ⟨rfl, ?_⟩
    · (repeat (first | with_reducible assumption | with_reducible refine Tr.blk_drew ?_ | with_reducible refine Tr.blk_drewN ?_ | (refine Tr.blk_at ?_; focus (first | (simp; done) | (simp; omega))) | with_reducible refine Tr.blk_old ?_ | ((with_reducible refine Tr.blk_set_ne ?_ _ ?_); rotate_left; focus (first | (simp; done) | (simp; omega) | (simp; assumption)))))
    · (repeat (first | with_reducible assumption | with_reducible refine Tr.blk_drew ?_ | with_reducible refine Tr.blk_drewN ?_ | (refine Tr.blk_at ?_; focus (first | (simp; done) | (simp; omega))) | with_reducible refine Tr.blk_old ?_ | ((with_reducible refine Tr.blk_set_ne ?_ _ ?_); rotate_left; focus (first | (simp; done) | (simp; omega) | (simp; assumption)))))
    · (repeat (first | with_reducible assumption | (with_reducible exact Below.refl _ _) | ((with_reducible refine Tr.below_alloc ?_ ?_); rotate_left; focus (first | omega | exact Nat.le_refl _)) | (with_reducible refine Tr.below_drew ?_) | (with_reducible refine Tr.below_drewN ?_) | ((with_reducible refine Tr.below_set ?_ ?_); rotate_left; focus (first | omega | (simp; done) | (simp; omega))) | ((with_reducible refine Tr.below_trans ?_ (by assumption) ?_); rotate_left; focus (first | exact Nat.le_refl _ | omega))))

def RlastN (x : Sh) : Int := if x.op then x.next - 2 else x.next - 1
/-- The reference's Of, as a function of the model. -/
def Sh.of_ (x : Sh) (n : Int) : Tot × Bool :=
  if x.op = true ∧ n = x.next - 1 then (x.now, true) else
  if 0 ≤ n - (x.lastN - x.cl.length + 1) ∧ n - (x.lastN - x.cl.length + 1) < x.cl.length then (x.cl.getD (n - (x.lastN - x.cl.length + 1)).toNat .zero, true) else (.zero, false)
/-- The two ways of finding a shift are one. -/
theorem Sh.of_totals (x : Sh) (ho : x.ok) (n : Int) : x.of_ n = x.totals n := by
  obtain ⟨-, ⟨h1, h2⟩, -, -, -, h6⟩ := ho
  unfold Sh.of_ Sh.totals Sh.openN Sh.at_ Sh.lastN
  cases hop : x.op with
  | true =>
    rw [hop] at h6
    simp only [if_true] at h6 ⊢
    by_cases hn1 : n < 1
    · rw [if_neg (by omega), if_neg (by omega), if_pos hn1]
    · by_cases hn : n = x.next - 1
      · rw [if_pos ⟨trivial, hn⟩, if_neg hn1, if_pos hn]
      · rw [if_neg (by omega), if_neg hn1, if_neg hn]
        have e : n - (x.next - 2 - x.cl.length + 1) = x.cl.length - 1 - (x.next - 2 - n) := by omega
        rw [e]
  | false =>
    rw [hop] at h6
    simp only [Bool.false_eq_true, if_false, false_and] at h6 ⊢
    by_cases hn1 : n < 1
    · rw [if_neg (by omega), if_pos hn1]
    · rw [if_neg hn1, if_neg (show ¬ n = 0 by omega)]
      have e : n - (x.next - 1 - x.cl.length + 1) = x.cl.length - 1 - (x.next - 1 - n) := by omega
      rw [e]

def ROfInv (B : World) (blk : Array Value) (f m : Int) (len : Nat) (s7 : Value) (wr : World) : Prop :=
  ∃ i : Nat, i ≤ len ∧ s7 = .int .i64 i ∧ ¬ (0 ≤ m ∧ m < i) ∧ wr.heap[B.heap.size]? = some (.cells blk 74 (0, 0)) ∧
    wr.heap[B.heap.size + 1]? = some (.cells #[.int .i64 0, .int .i64 0, .int .i64 0, .int .i64 0, .int .i64 0, .int .i64 0] 69 (0, 0)) ∧ Below B.heap.size B wr

set_option maxRecDepth 100000 in
set_option maxHeartbeats 8000000 in
theorem C_ROf (x : Sh) (num : Int) (a : Option Addr) (cap : Nat) (w : World) (hl : Sl 69 6 w (.slice a x.cl.length cap) x.cl.length (tots x.cl)) (ho : x.ok) (hnum : I64 num) :
    Calls Try.prog 37 #[RV x (.slice a x.cl.length cap), .int .i64 num] w fun e w' => e = .returned (.tuple #[(x.of_ num).1.val, .bool (x.of_ num).2]) ∧ Below w.heap.size w w' := by
  obtain ⟨keep, next, op, ⟨n, s, v, r, i, o⟩, cl⟩ := x
  obtain ⟨⟨k0, k1⟩, ⟨n0, n1⟩, -, -, hlen, -⟩ := ho
  dsimp only at k0 k1 n0 n1 hlen hl
  unfold I64 at hnum
  obtain ⟨hm0, hm1⟩ := hnum
  have hcl : cl.length ≤ 64 := by omega
  have HL := Lib.hid hl
  clear hl
  by_cases hopen : op = true ∧ num = next - 1
  · have e1 : Sh.of_ ⟨keep, next, op, ⟨n, s, v, r, i, o⟩, cl⟩ num = (⟨n, s, v, r, i, o⟩, true) := by unfold Sh.of_; rw [if_pos hopen]
    rw [e1]
    obtain ⟨rfl, rfl⟩ := hopen
    unfold RV Tot.val
    dsimp only
    clear e1
    go_enter Try.func37, Try.ntmps37
    go_wp2_with fail
    refine bodyPost_ret (Tr.results_run [.cell 4 69, .tmp 5] [_, _] rfl ⟨_, _, rfl, ⟨_, rfl, Tr.load_blk (t := 69) (fr := (0, 0)) (cs := #[.int .i64 n, .int .i64 s, .int .i64 v, .int .i64 r, .int .i64 i, .int .i64 o]) ?_ Try.underlying69 rfl (by kernel_rfl)⟩, _, _, rfl, rfl, rfl⟩ _ rfl) rfl ⟨rfl, ?_⟩
    · (repeat (first | with_reducible assumption | with_reducible refine Tr.blk_drew ?_ | with_reducible refine Tr.blk_drewN ?_ | (refine Tr.blk_at ?_; focus (first | (simp; done) | (simp; omega))) | with_reducible refine Tr.blk_old ?_ | ((with_reducible refine Tr.blk_set_ne ?_ _ ?_); rotate_left; focus (first | (simp; done) | (simp; omega) | (simp; assumption)))))
    · (repeat (first | with_reducible assumption | (with_reducible exact Below.refl _ _) | ((with_reducible refine Tr.below_alloc ?_ ?_); rotate_left; focus (first | omega | exact Nat.le_refl _)) | (with_reducible refine Tr.below_drew ?_) | (with_reducible refine Tr.below_drewN ?_) | ((with_reducible refine Tr.below_set ?_ ?_); rotate_left; focus (first | omega | (simp; done) | (simp; omega))) | ((with_reducible refine Tr.below_trans ?_ (by assumption) ?_); rotate_left; focus (first | exact Nat.le_refl _ | omega))))
  · obtain ⟨f, hf⟩ : ∃ f, f = (Sh.mk keep next op ⟨n, s, v, r, i, o⟩ cl).lastN := ⟨_, rfl⟩
    have e1 : Sh.of_ ⟨keep, next, op, ⟨n, s, v, r, i, o⟩, cl⟩ num = if 0 ≤ num - (f - cl.length + 1) ∧ num - (f - cl.length + 1) < cl.length then (cl.getD (num - (f - cl.length + 1)).toNat .zero, true) else (.zero, false) := by unfold Sh.of_; rw [if_neg hopen, ← hf]
    obtain ⟨R, hR⟩ : ∃ R, R = Sh.of_ ⟨keep, next, op, ⟨n, s, v, r, i, o⟩, cl⟩ num := ⟨_, rfl⟩
    rw [← hR]
    rw [e1] at hR
    clear e1
    obtain ⟨m, hm⟩ : ∃ m, m = num - (f - cl.length + 1) := ⟨_, rfl⟩
    rw [← hm] at hR
    have HR := Lib.hid hR
    unfold RV
    dsimp only
    clear hR
    unfold Sh.lastN at hf
    dsimp only at hf
    have hf' : (op = true ∧ f = next - 2 ∧ ¬ num = next - 1) ∨ (op = false ∧ f = next - 1) := by
      cases op with
      | true => exact .inl ⟨rfl, by simpa using hf, fun e => hopen ⟨rfl, e⟩⟩
      | false => exact .inr ⟨rfl, by simpa using hf⟩
    clear hf hopen
    rcases hf' with ⟨rfl, rfl, hne⟩ | ⟨rfl, rfl⟩
    all_goals
      go_enter Try.func37, Try.ntmps37
      go_wp2_with fail
      have hma : m ≤ num - (_ - cl.length + 1) := Int.le_of_eq hm
      have hmb : num - (_ - cl.length + 1) ≤ m := Int.le_of_eq hm.symm
      clear hm
      go_loopw [7] (fun s7 wr => ROfInv w #[.int .i64 keep, .int .i64 next, .bool _, .int .i64 n, .int .i64 s, .int .i64 v, .int .i64 r, .int .i64 i, .int .i64 o, .slice a cl.length cap] 0 m cl.length s7 wr) (fun s7 _ => cl.length - (intOf s7).toNat)
      case atStart =>
        refine ⟨0, Nat.zero_le _, rfl, by omega, ?_, ?_, ?_⟩
        · (repeat (first | with_reducible assumption | with_reducible refine Tr.blk_drew ?_ | with_reducible refine Tr.blk_drewN ?_ | (refine Tr.blk_at ?_; focus (first | (simp; done) | (simp; omega))) | with_reducible refine Tr.blk_old ?_ | ((with_reducible refine Tr.blk_set_ne ?_ _ ?_); rotate_left; focus (first | (simp; done) | (simp; omega) | (simp; assumption)))))
        · (repeat (first | with_reducible assumption | with_reducible refine Tr.blk_drew ?_ | with_reducible refine Tr.blk_drewN ?_ | (refine Tr.blk_at ?_; focus (first | (simp; done) | (simp; omega))) | with_reducible refine Tr.blk_old ?_ | ((with_reducible refine Tr.blk_set_ne ?_ _ ?_); rotate_left; focus (first | (simp; done) | (simp; omega) | (simp; assumption)))))
        · (repeat (first | with_reducible assumption | (with_reducible exact Below.refl _ _) | ((with_reducible refine Tr.below_alloc ?_ ?_); rotate_left; focus (first | omega | exact Nat.le_refl _)) | (with_reducible refine Tr.below_drew ?_) | (with_reducible refine Tr.below_drewN ?_) | ((with_reducible refine Tr.below_set ?_ ?_); rotate_left; focus (first | omega | (simp; done) | (simp; omega))) | ((with_reducible refine Tr.below_trans ?_ (by assumption) ?_); rotate_left; focus (first | exact Nat.le_refl _ | omega))))
      case round =>
        obtain ⟨j, hj, rfl, hnot, b0, b1, hB⟩ := hrel
        have l0 := Tr.blk_lt b0
        have l1 := Tr.blk_lt b1
        have c0 := fun o => Tr.cell_blk (o := o) b0
        have c1 := fun o => Tr.cell_blk (o := o) b1
        have f1 := fun o => Tr.frozen_blk (o := o) b1
        have B0 := Lib.hid b0; have B1 := Lib.hid b1
        clear b0 b1
        by_cases hlt : j < cl.length
        · by_cases heq : m = j
          · obtain ⟨g, off, rfl, hg, hcell⟩ := sl_at6 HL.out j hlt
            obtain ⟨t, ht⟩ : ∃ t, t = cl.getD j .zero := ⟨_, rfl⟩
            rw [← ht] at hcell
            have hRR := HR.out
            rw [if_pos (by omega), heq, show ((j : Nat) : Int).toNat = j from rfl, ← ht] at hRR
            have hcw := hcell wr hB
            obtain ⟨tn, ts, tv, tr, ti, tq⟩ := t
            simp only [Tot.cells] at hcw
            have q0 := hcw 0 (by omega)
            have q1 := hcw 1 (by omega)
            have q2 := hcw 2 (by omega)
            have q3 := hcw 3 (by omega)
            have q4 := hcw 4 (by omega)
            have q5 := hcw 5 (by omega)
            simp only [Nat.add_zero] at q0 q1 q2 q3 q4 q5
            have HRR := Lib.hid hRR
            clear hcw hcell ht hRR
            have heq1 : m ≤ j := by omega
            have heq2 : (j : Int) ≤ m := by omega
            clear heq
            go_wp2_with fail
            refine bodyPost_ret (Tr.results_run [.cell 4 69, .tmp 5] [_, _] rfl ⟨_, _, rfl, ⟨_, rfl, Tr.load_blk (t := 69) (fr := (0, 0)) (cs := #[.int .i64 tn, .int .i64 ts, .int .i64 tv, .int .i64 tr, .int .i64 ti, .int .i64 tq]) ?_ Try.underlying69 rfl (by kernel_rfl)⟩, _, _, rfl, rfl, rfl⟩ _ rfl) rfl ⟨by rw [HRR.out]; rfl, ?_⟩
            · have b1 := B1.out
              (simp only [Tr.heap_set_same, b1, Option.map_some, Tr.setObj]; simp [])
            · (repeat (first | with_reducible assumption | (with_reducible exact Below.refl _ _) | ((with_reducible refine Tr.below_alloc ?_ ?_); rotate_left; focus (first | omega | exact Nat.le_refl _)) | (with_reducible refine Tr.below_drew ?_) | (with_reducible refine Tr.below_drewN ?_) | ((with_reducible refine Tr.below_set ?_ ?_); rotate_left; focus (first | omega | (simp; done) | (simp; omega))) | ((with_reducible refine Tr.below_trans ?_ (by assumption) ?_); rotate_left; focus (first | exact Nat.le_refl _ | omega))))
          · go_wp2_with fail
            go_roundw
            case rel => exact ⟨j + 1, by omega, by go_num, by omega, B0.out, B1.out, hB⟩
            case measure => simp [intOf]; omega
        · have hRR := HR.out
          rw [if_neg (by omega)] at hRR
          have HRR := Lib.hid hRR
          clear hRR
          go_wp2_with fail
          refine bodyPost_ret (Tr.results_run [.cell 4 69, .tmp 5] [_, _] rfl ⟨_, _, rfl, ⟨_, rfl, Tr.load_blk (t := 69) (fr := (0, 0)) (cs := #[.int .i64 0, .int .i64 0, .int .i64 0, .int .i64 0, .int .i64 0, .int .i64 0]) ?_ Try.underlying69 rfl (by kernel_rfl)⟩, _, _, rfl, rfl, rfl⟩ _ rfl) rfl ⟨by rw [HRR.out]; rfl, ?_⟩
          · have b1 := B1.out
            refine Tr.blk_old ?_
            (simp only [Tr.heap_set_same, b1, Option.map_some, Tr.setObj]; simp [])
          · (repeat (first | with_reducible assumption | (with_reducible exact Below.refl _ _) | ((with_reducible refine Tr.below_alloc ?_ ?_); rotate_left; focus (first | omega | exact Nat.le_refl _)) | (with_reducible refine Tr.below_drew ?_) | (with_reducible refine Tr.below_drewN ?_) | ((with_reducible refine Tr.below_set ?_ ?_); rotate_left; focus (first | omega | (simp; done) | (simp; omega))) | ((with_reducible refine Tr.below_trans ?_ (by assumption) ?_); rotate_left; focus (first | exact Nat.le_refl _ | omega))))
end Go.Proofs.Ytjkfkgpdlflbhaa
