/- shifts: the totals of a number, a copy. -/
import Derived.Test.YtjkfkgpdlflbhaaDoorTrShift2
namespace Go.Proofs.YtjkfkgpdlflbhaaDoor
open Go.RowKit Go.Sort
open Tr (Sl Chg)
set_option linter.unusedVariables false
set_option linter.unusedSimpArgs false
attribute [local go_sem] Tr.go_max2 Tr.go_min2 Tr.go_max_two Tr.go_min_two

set_option maxRecDepth 100000 in
set_option maxHeartbeats 1000000 in
theorem C_End_no (b : Nat) (keep next : Int) (now : Tot) (cl : List Tot) (w : World) (h : (Sh.mk keep next false now cl).is w b) :
    Calls Tryd.prog 7 #[.pointer (some ⟨b, 0, none⟩)] w fun e w' => e = .returned (.tuple #[.int .i64 0, Tot.zero.val, .int .i64 20]) ∧ Below w.heap.size w w' := by
  obtain ⟨a, cap, hb, hsl⟩ := h
  have hc := fun o => Tr.cell_blk (o := o) hb
  have hbl := Tr.blk_lt hb
  unfold Sh.cells at hc
  dsimp only at hc
  clear hb hsl
  go_enter Tryd.func7, Tryd.ntmps7
  go_wp2_with fail
  refine bodyPost_ret (Tr.results_run [.tmp 2, .cell 3 34, .tmp 4] [_, _, _] rfl ⟨_, _, rfl, rfl, _, _, rfl, ⟨_, rfl, Tr.load_blk (t := 34) (fr := (0, 0)) (cs := #[.int .i64 0, .int .i64 0, .int .i64 0, .int .i64 0, .int .i64 0, .int .i64 0]) ?_ Tryd.underlying34 rfl (by kernel_rfl)⟩, _, _, rfl, rfl, rfl⟩ _ rfl) rfl ⟨rfl, ?_⟩
  · (repeat (first | with_reducible assumption | with_reducible refine Tr.blk_drew ?_ | with_reducible refine Tr.blk_drewN ?_ | (refine Tr.blk_at ?_; focus (first | (simp; done) | (simp; omega))) | with_reducible refine Tr.blk_old ?_ | ((with_reducible refine Tr.blk_set_ne ?_ _ ?_); rotate_left; focus (first | (simp; done) | (simp; omega) | (simp; assumption)))))
  · (repeat (first | with_reducible assumption | (with_reducible exact Below.refl _ _) | ((with_reducible refine Tr.below_alloc ?_ ?_); rotate_left; focus (first | omega | exact Nat.le_refl _)) | (with_reducible refine Tr.below_drew ?_) | (with_reducible refine Tr.below_drewN ?_) | ((with_reducible refine Tr.below_set ?_ ?_); rotate_left; focus (first | omega | (simp; done) | (simp; omega))) | ((with_reducible refine Tr.below_trans ?_ (by assumption) ?_); rotate_left; focus (first | exact Nat.le_refl _ | omega))))
set_option maxRecDepth 100000 in
set_option maxHeartbeats 1000000 in
theorem C_End_nil (w : World) :
    Calls Tryd.prog 7 #[.pointer none] w fun e w' => e = .returned (.tuple #[.int .i64 0, Tot.zero.val, .int .i64 1]) ∧ Below w.heap.size w w' := by
  go_enter Tryd.func7, Tryd.ntmps7
  go_wp2_with fail
  refine bodyPost_ret (Tr.results_run [.tmp 2, .cell 3 34, .tmp 4] [_, _, _] rfl ⟨_, _, rfl, rfl, _, _, rfl, ⟨_, rfl, Tr.load_blk (t := 34) (fr := (0, 0)) (cs := #[.int .i64 0, .int .i64 0, .int .i64 0, .int .i64 0, .int .i64 0, .int .i64 0]) ?_ Tryd.underlying34 rfl (by kernel_rfl)⟩, _, _, rfl, rfl, rfl⟩ _ rfl) rfl ⟨rfl, ?_⟩
  · (repeat (first | with_reducible assumption | with_reducible refine Tr.blk_drew ?_ | with_reducible refine Tr.blk_drewN ?_ | (refine Tr.blk_at ?_; focus (first | (simp; done) | (simp; omega))) | with_reducible refine Tr.blk_old ?_ | ((with_reducible refine Tr.blk_set_ne ?_ _ ?_); rotate_left; focus (first | (simp; done) | (simp; omega) | (simp; assumption)))))
  · (repeat (first | with_reducible assumption | (with_reducible exact Below.refl _ _) | ((with_reducible refine Tr.below_alloc ?_ ?_); rotate_left; focus (first | omega | exact Nat.le_refl _)) | (with_reducible refine Tr.below_drew ?_) | (with_reducible refine Tr.below_drewN ?_) | ((with_reducible refine Tr.below_set ?_ ?_); rotate_left; focus (first | omega | (simp; done) | (simp; omega))) | ((with_reducible refine Tr.below_trans ?_ (by assumption) ?_); rotate_left; focus (first | exact Nat.le_refl _ | omega))))

def Sh.at_ (x : Sh) (n : Int) : Int := x.cl.length - 1 - (x.lastN - n)
def Sh.totals (x : Sh) (n : Int) : Tot × Bool :=
  if n < 1 then (.zero, false) else if n = x.openN then (x.now, true) else
  if 0 ≤ x.at_ n ∧ x.at_ n < x.cl.length then (x.cl.getD (x.at_ n).toNat .zero, true) else (.zero, false)

theorem tots_at (l : List Tot) (i : Nat) (hi : i < l.length) (j : Nat) (hj : j < 6) : (tots l)[i * 6 + j]? = (Tot.cells (l.getD i .zero))[j]? := by
  induction l generalizing i with
  | nil => simp at hi
  | cons t l ih =>
    have e : tots (t :: l) = t.cells ++ tots l := by simp [tots]
    have ht : t.cells.length = 6 := rfl
    rw [e]
    cases i with
    | zero => rw [List.getElem?_append_left (by omega)]; simp
    | succ i =>
      rw [List.getElem?_append_right (by omega)]
      have := ih i (by simpa using hi)
      rw [show (i + 1) * 6 + j - t.cells.length = i * 6 + j by omega, this]
      simp

set_option maxRecDepth 100000 in
set_option maxHeartbeats 2000000 in
theorem C_Totals_low (b : Option Addr) (n : Int) (hn : n < 1) (w : World) :
    Calls Tryd.prog 11 #[.pointer b, .int .i64 n] w fun e w' => e = .returned (.tuple #[Tot.zero.val, .bool false]) ∧ Below w.heap.size w w' := by
  cases b
  all_goals
    go_enter Tryd.func11, Tryd.ntmps11
    go_wp2_with fail
    refine bodyPost_ret (Tr.results_run [.cell 4 34, .tmp 5] [_, _] rfl ⟨_, _, rfl, ⟨_, rfl, Tr.load_blk (t := 34) (fr := (0, 0)) (cs := #[.int .i64 0, .int .i64 0, .int .i64 0, .int .i64 0, .int .i64 0, .int .i64 0]) ?_ Tryd.underlying34 rfl (by kernel_rfl)⟩, _, _, rfl, rfl, rfl⟩ _ rfl) rfl ⟨rfl, ?_⟩
    · (repeat (first | with_reducible assumption | with_reducible refine Tr.blk_drew ?_ | with_reducible refine Tr.blk_drewN ?_ | (refine Tr.blk_at ?_; focus (first | (simp; done) | (simp; omega))) | with_reducible refine Tr.blk_old ?_ | ((with_reducible refine Tr.blk_set_ne ?_ _ ?_); rotate_left; focus (first | (simp; done) | (simp; omega) | (simp; assumption)))))
    · (repeat (first | with_reducible assumption | (with_reducible exact Below.refl _ _) | ((with_reducible refine Tr.below_alloc ?_ ?_); rotate_left; focus (first | omega | exact Nat.le_refl _)) | (with_reducible refine Tr.below_drew ?_) | (with_reducible refine Tr.below_drewN ?_) | ((with_reducible refine Tr.below_set ?_ ?_); rotate_left; focus (first | omega | (simp; done) | (simp; omega))) | ((with_reducible refine Tr.below_trans ?_ (by assumption) ?_); rotate_left; focus (first | exact Nat.le_refl _ | omega))))
set_option maxRecDepth 100000 in
set_option maxHeartbeats 2000000 in
theorem C_Totals_nil (n : Int) (w : World) :
    Calls Tryd.prog 11 #[.pointer none, .int .i64 n] w fun e w' => e = .returned (.tuple #[Tot.zero.val, .bool false]) ∧ Below w.heap.size w w' := by
  go_enter Tryd.func11, Tryd.ntmps11
  go_wp2_with fail
  refine bodyPost_ret (Tr.results_run [.cell 4 34, .tmp 5] [_, _] rfl ⟨_, _, rfl, ⟨_, rfl, Tr.load_blk (t := 34) (fr := (0, 0)) (cs := #[.int .i64 0, .int .i64 0, .int .i64 0, .int .i64 0, .int .i64 0, .int .i64 0]) ?_ Tryd.underlying34 rfl (by kernel_rfl)⟩, _, _, rfl, rfl, rfl⟩ _ rfl) rfl ⟨rfl, ?_⟩
  · (repeat (first | with_reducible assumption | with_reducible refine Tr.blk_drew ?_ | with_reducible refine Tr.blk_drewN ?_ | (refine Tr.blk_at ?_; focus (first | (simp; done) | (simp; omega))) | with_reducible refine Tr.blk_old ?_ | ((with_reducible refine Tr.blk_set_ne ?_ _ ?_); rotate_left; focus (first | (simp; done) | (simp; omega) | (simp; assumption)))))
  · (repeat (first | with_reducible assumption | (with_reducible exact Below.refl _ _) | ((with_reducible refine Tr.below_alloc ?_ ?_); rotate_left; focus (first | omega | exact Nat.le_refl _)) | (with_reducible refine Tr.below_drew ?_) | (with_reducible refine Tr.below_drewN ?_) | ((with_reducible refine Tr.below_set ?_ ?_); rotate_left; focus (first | omega | (simp; done) | (simp; omega))) | ((with_reducible refine Tr.below_trans ?_ (by assumption) ?_); rotate_left; focus (first | exact Nat.le_refl _ | omega))))

def TotAt (w : World) (i : Int) (s6 : Value) (wx : World) : Prop :=
  s6 = .int .i64 i ∧ Below w.heap.size w wx ∧ wx.heap[w.heap.size]? = some (.cells #[.int .i64 0, .int .i64 0, .int .i64 0, .int .i64 0, .int .i64 0, .int .i64 0] 34 (0, 0))

set_option maxRecDepth 100000 in
set_option maxHeartbeats 8000000 in
theorem C_Totals (b : Nat) (x : Sh) (n : Int) (hn : I64 n) (w : World) (h : x.is w b) (ho : x.ok) :
    Calls Tryd.prog 11 #[.pointer (some ⟨b, 0, none⟩), .int .i64 n] w fun e w' => e = .returned (.tuple #[(x.totals n).1.val, .bool (x.totals n).2]) ∧ Below w.heap.size w w' := by
  by_cases hn1 : n < 1
  · have e1 : x.totals n = (.zero, false) := by unfold Sh.totals; rw [if_pos hn1]
    rw [e1]
    exact C_Totals_low _ n hn1 w
  have hop : ∀ W : World, Below w.heap.size w W → Calls Tryd.prog 9 #[.pointer (some ⟨b, 0, none⟩)] W fun e w' => e = .returned (.int .i64 x.openN) ∧ Below W.heap.size W w' :=
    fun W hW => C_Open b x W (Sh.is_keep h hW) ho
  have hla : ∀ W : World, Below w.heap.size w W → Calls Tryd.prog 21 #[.pointer (some ⟨b, 0, none⟩)] W fun e w' => e = .returned (.int .i64 x.lastN) ∧ Below W.heap.size W w' :=
    fun W hW => C_last b x W (Sh.is_keep h hW) ho
  have HOP := Lib.hid hop; have HLA := Lib.hid hla
  clear hop hla
  have hob : 0 ≤ x.openN ∧ x.openN ≤ 4294967296 := by obtain ⟨-, ⟨h1, h2⟩, -⟩ := ho; unfold Sh.openN; split <;> omega
  have hlb : (x.cl.length : Int) ≤ x.lastN ∧ x.lastN ≤ 4294967296 := by
    obtain ⟨-, ⟨h1, h2⟩, -, -, -, h3⟩ := ho
    unfold Sh.lastN; split at h3 <;> simp_all <;> omega
  obtain ⟨hn2, hn3⟩ := hn
  obtain ⟨a, cap, hb, hsl⟩ := h
  have hc := fun o => Tr.cell_blk (o := o) hb
  have hbl := Tr.blk_lt hb
  have hzero : ∀ t : Tot, t.val = .agg #[.int .i64 t.n, .int .i64 t.s, .int .i64 t.v, .int .i64 t.r, .int .i64 t.i, .int .i64 t.o] := fun _ => rfl
  unfold Sh.cells at hc
  have HB := Lib.hid hb; have HSL := Lib.hid hsl; have HZ := Lib.hid hzero
  clear hb hsl hzero
  have hkeep : (x.cl.length : Int) ≤ 64 := by obtain ⟨⟨_, h1⟩, -, -, -, h2, -⟩ := ho; omega
  clear ho
  by_cases heq : n = x.openN
  · have e1 : x.totals n = (x.now, true) := by unfold Sh.totals; rw [if_neg hn1, if_pos heq]
    rw [e1]
    have heq2 : (n == x.openN) = true := by simpa using heq
    clear e1 heq hlb
    go_enter Tryd.func11, Tryd.ntmps11
    go_wp2_with (go_at_call 9; refine (HOP.out _ ?_).mono ?_; (focus ((repeat (first | with_reducible assumption | (with_reducible exact Below.refl _ _) | ((with_reducible refine Tr.below_alloc ?_ ?_); rotate_left; focus (first | omega | exact Nat.le_refl _)) | (with_reducible refine Tr.below_drew ?_) | (with_reducible refine Tr.below_drewN ?_) | ((with_reducible refine Tr.below_set ?_ ?_); rotate_left; focus (first | omega | (simp; done) | (simp; omega))) | ((with_reducible refine Tr.below_trans ?_ (by assumption) ?_); rotate_left; focus (first | exact Nat.le_refl _ | omega)))))); rintro e w1 ⟨rfl, hb1⟩; have br := Tr.blk_keep hb1 (Tr.blk_new _ _); have fr := fun o => Tr.frozen_blk (o := o) br; have cr := fun o => Tr.cell_blk (o := o) br; have bb := Tr.blk_keep hb1 (Tr.blk_old HB.out); have cb := fun o => Tr.cell_blk (o := o) bb; unfold Sh.cells at cb; have BR := Lib.hid br; have hB1 := Tr.below_trans (Tr.below_alloc (Below.refl w.heap.size w) (Nat.le_refl _)) hb1; clear br bb hc)
    refine bodyPost_ret (Tr.results_run [.cell 4 34, .tmp 5] [_, _] rfl ⟨_, _, rfl, ⟨_, rfl, Tr.load_blk (t := 34) (fr := (0, 0)) (cs := #[.int .i64 x.now.n, .int .i64 x.now.s, .int .i64 x.now.v, .int .i64 x.now.r, .int .i64 x.now.i, .int .i64 x.now.o]) ?_ Tryd.underlying34 rfl (by kernel_rfl)⟩, _, _, rfl, rfl, rfl⟩ _ rfl) rfl ⟨rfl, ?_⟩
    · have br := BR.out
      (simp only [Tr.heap_set_same, br, Option.map_some, Tr.setObj]; simp [])
    · (repeat (first | with_reducible assumption | (with_reducible exact Below.refl _ _) | ((with_reducible refine Tr.below_alloc ?_ ?_); rotate_left; focus (first | omega | exact Nat.le_refl _)) | (with_reducible refine Tr.below_drew ?_) | (with_reducible refine Tr.below_drewN ?_) | ((with_reducible refine Tr.below_set ?_ ?_); rotate_left; focus (first | omega | (simp; done) | (simp; omega))) | ((with_reducible refine Tr.below_trans ?_ (by assumption) ?_); rotate_left; focus (first | exact Nat.le_refl _ | omega))))
  · have heq2 : (n == x.openN) = false := by simpa using heq
    have hat : x.at_ n = x.cl.length - 1 - (x.lastN - n) := rfl
    have e1 : x.totals n = (if 0 ≤ x.at_ n ∧ x.at_ n < x.cl.length then (x.cl.getD (x.at_ n).toNat .zero, true) else (.zero, false)) := by unfold Sh.totals; rw [if_neg hn1, if_neg heq]
    obtain ⟨R, hR⟩ : ∃ R : Tot × Bool, R = x.totals n := ⟨_, rfl⟩
    rw [← hR]
    rw [e1] at hR
    obtain ⟨hl0, hl1⟩ := hlb
    generalize hAt : x.at_ n = AT at *
    generalize hLN : x.lastN = LN at *
    have HAT := Lib.hid hat; have HRR := Lib.hid hR
    clear e1 heq hat hAt hLN hR
    go_enter Tryd.func11, Tryd.ntmps11
    go_upto_region 5 with (go_at_call 9; refine (HOP.out _ ?_).mono ?_; (focus ((repeat (first | with_reducible assumption | (with_reducible exact Below.refl _ _) | ((with_reducible refine Tr.below_alloc ?_ ?_); rotate_left; focus (first | omega | exact Nat.le_refl _)) | (with_reducible refine Tr.below_drew ?_) | (with_reducible refine Tr.below_drewN ?_) | ((with_reducible refine Tr.below_set ?_ ?_); rotate_left; focus (first | omega | (simp; done) | (simp; omega))) | ((with_reducible refine Tr.below_trans ?_ (by assumption) ?_); rotate_left; focus (first | exact Nat.le_refl _ | omega)))))); rintro e w1 ⟨rfl, hb1⟩; have br := Tr.blk_keep hb1 (Tr.blk_new _ _); have bb := Tr.blk_keep hb1 (Tr.blk_old HB.out); have BR := Lib.hid br; have BB := Lib.hid bb; have hB1 := Tr.below_trans (Tr.below_alloc (Below.refl w.heap.size w) (Nat.le_refl _)) hb1; clear br bb hc)
    go_cut [6] (fun s6 wx => TotAt w AT s6 wx)
    case first =>
      have cb : ∀ d os o, (grow (redrawn w1 d) os).cell? ⟨b, o, none⟩ = _ := fun d os o => Tr.cell_blk (Tr.blk_grown BB.out d os)
      unfold Sh.cells at cb
      refine wp_region_quiet_below (by kernel_rfl) (by kernel_rfl) ?_
      repeat (any_goals (go_big_quiet_step ((go_at_call 21; exact Calls.regrown_of (HLA.out _ (Tr.below_trans hB1 (below_regrown _ _ _)))))))
      refine wpQuiet_nil ?_
      intro w5 hw5
      have hb5 := Tr.below_grown hw5
      clear hw5 cb
      go_wp2_with fail; go_meet
      exact ⟨by rw [HAT.out], Tr.below_trans hB1 hb5, Tr.blk_keep hb5 BR.out⟩
    case rest =>
      obtain ⟨rfl, hB, hr⟩ := hcut
      have hbx := Tr.blk_below hB HB.out hbl
      have cx := fun o => Tr.cell_blk (o := o) hbx
      unfold Sh.cells at cx
      have cr := fun o => Tr.cell_blk (o := o) hr
      have fr := fun o => Tr.frozen_blk (o := o) hr
      have HR := Lib.hid hr
      clear hbx hr hB1
      by_cases hin : 0 ≤ AT ∧ AT < x.cl.length
      · have hRR := HRR.out
        rw [if_pos hin] at hRR
        obtain ⟨h0, h1⟩ := hin
        obtain ⟨i, rfl⟩ := Int.eq_ofNat_of_zero_le h0
        have hil : i < x.cl.length := by omega
        have hs := HSL.out
        obtain ⟨a', cap', hv, hcap', -, -, hcells⟩ := hs
        simp only [Value.slice.injEq] at hv
        obtain ⟨rfl, _, rfl⟩ := hv
        obtain ⟨g, off, cs, fz, rfl, hg, hcs⟩ := hcells (by omega)
        have hgx := Tr.blk_below hB hg (Tr.blk_lt hg)
        obtain ⟨t, ht⟩ : ∃ t, t = x.cl.getD i .zero := ⟨_, rfl⟩
        have hcell : ∀ j, j < 6 → ∀ W : World, W.heap[g]? = some (.cells cs 34 fz) → W.cell? ⟨g, off + i * 6 + j, none⟩ = (Tot.cells t)[j]? := by
          intro j hj W hW
          rw [Tr.cell_blk hW, Nat.add_assoc, hcs _ (by omega), tots_at _ _ hil _ hj, ht]
        have q0 := hcell 0 (by omega) _ hgx
        have q1 := hcell 1 (by omega) _ hgx
        have q2 := hcell 2 (by omega) _ hgx
        have q3 := hcell 3 (by omega) _ hgx
        have q4 := hcell 4 (by omega) _ hgx
        have q5 := hcell 5 (by omega) _ hgx
        simp only [Tot.cells, Nat.add_zero] at q0 q1 q2 q3 q4 q5
        have HT := Lib.hid ht
        clear hcell hg hcs hcells ht hgx
        rw [show (((i : Nat) : Int)).toNat = i from rfl, ← HT.out] at hRR
        have HRR2 := Lib.hid hRR
        clear hRR
        go_wp2_with fail
        refine bodyPost_ret (Tr.results_run [.cell 4 34, .tmp 5] [_, _] rfl ⟨_, _, rfl, ⟨_, rfl, Tr.load_blk (t := 34) (fr := (0, 0)) (cs := #[.int .i64 t.n, .int .i64 t.s, .int .i64 t.v, .int .i64 t.r, .int .i64 t.i, .int .i64 t.o]) ?_ Tryd.underlying34 rfl (by kernel_rfl)⟩, _, _, rfl, rfl, rfl⟩ _ rfl) rfl ⟨by rw [HRR2.out]; rfl, ?_⟩
        · have br := HR.out
          (simp only [Tr.heap_set_same, br, Option.map_some, Tr.setObj]; simp [])
        · (repeat (first | with_reducible assumption | (with_reducible exact Below.refl _ _) | ((with_reducible refine Tr.below_alloc ?_ ?_); rotate_left; focus (first | omega | exact Nat.le_refl _)) | (with_reducible refine Tr.below_drew ?_) | (with_reducible refine Tr.below_drewN ?_) | ((with_reducible refine Tr.below_set ?_ ?_); rotate_left; focus (first | omega | (simp; done) | (simp; omega))) | ((with_reducible refine Tr.below_trans ?_ (by assumption) ?_); rotate_left; focus (first | exact Nat.le_refl _ | omega))))
      · have hRR := HRR.out
        rw [if_neg hin] at hRR
        have HRR2 := Lib.hid hRR
        clear hRR
        have hor : AT < 0 ∨ (0 ≤ AT ∧ ¬ AT < x.cl.length) := by omega
        clear hin
        rcases hor with g | ⟨g1, g2⟩
        all_goals
          go_wp2_with fail
          refine bodyPost_ret (Tr.results_run [.cell 4 34, .tmp 5] [_, _] rfl ⟨_, _, rfl, ⟨_, rfl, Tr.load_blk (t := 34) (fr := (0, 0)) (cs := #[.int .i64 0, .int .i64 0, .int .i64 0, .int .i64 0, .int .i64 0, .int .i64 0]) ?_ Tryd.underlying34 rfl (by kernel_rfl)⟩, _, _, rfl, rfl, rfl⟩ _ rfl) rfl ⟨by rw [HRR2.out]; rfl, ?_⟩
          · have br := HR.out
            (simp only [Tr.heap_set_same, br, Option.map_some, Tr.setObj]; simp [])
          · (repeat (first | with_reducible assumption | (with_reducible exact Below.refl _ _) | ((with_reducible refine Tr.below_alloc ?_ ?_); rotate_left; focus (first | omega | exact Nat.le_refl _)) | (with_reducible refine Tr.below_drew ?_) | (with_reducible refine Tr.below_drewN ?_) | ((with_reducible refine Tr.below_set ?_ ?_); rotate_left; focus (first | omega | (simp; done) | (simp; omega))) | ((with_reducible refine Tr.below_trans ?_ (by assumption) ?_); rotate_left; focus (first | exact Nat.le_refl _ | omega))))
end Go.Proofs.YtjkfkgpdlflbhaaDoor
