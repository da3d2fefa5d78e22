/- shifts, by contract. -/
import Derived.Test.YtjkfkgpdlflbhaaDoorTrTill

namespace Go.Proofs.YtjkfkgpdlflbhaaDoor
open Go.RowKit Go.Sort
open Tr (Sl Chg)
set_option linter.unusedVariables false
set_option linter.unusedSimpArgs false
attribute [local go_sem] Tr.go_max2 Tr.go_min2 Tr.go_max_two Tr.go_min_two

structure Tot where
  n : Int
  s : Int
  v : Int
  r : Int
  i : Int
  o : Int
def Tot.zero : Tot := ⟨0, 0, 0, 0, 0, 0⟩
def Tot.cells (t : Tot) : List Value := [.int .i64 t.n, .int .i64 t.s, .int .i64 t.v, .int .i64 t.r, .int .i64 t.i, .int .i64 t.o]
def Tot.val (t : Tot) : Value := .agg #[.int .i64 t.n, .int .i64 t.s, .int .i64 t.v, .int .i64 t.r, .int .i64 t.i, .int .i64 t.o]
def Amt (c : Int) : Prop := 0 ≤ c ∧ c ≤ 9223372036854775807
def Tot.ok (t : Tot) : Prop := (0 ≤ t.n ∧ t.n ≤ 4294967295) ∧ Amt t.s ∧ Amt t.v ∧ Amt t.r ∧ Amt t.i ∧ Amt t.o
theorem Tot.zero_ok : Tot.zero.ok := by unfold Tot.ok Tot.zero Amt; decide
structure Sh where
  keep : Int
  next : Int
  op : Bool
  now : Tot
  cl : List Tot
def tots (l : List Tot) : List Value := l.flatMap Tot.cells
def Sh.cells (x : Sh) (cv : Value) : Array Value :=
  #[.int .i64 x.keep, .int .i64 x.next, .bool x.op, .int .i64 x.now.n, .int .i64 x.now.s, .int .i64 x.now.v, .int .i64 x.now.r, .int .i64 x.now.i, .int .i64 x.now.o, cv]
/-- The shifts that stand in a block. -/
def Sh.is (w : World) (b : Nat) (x : Sh) : Prop :=
  ∃ a cap, w.heap[b]? = some (.cells (x.cells (.slice a x.cl.length cap)) 56 (0, 0)) ∧ Sl 34 6 w (.slice a x.cl.length cap) x.cl.length (tots x.cl)
def Sh.ok (x : Sh) : Prop := (1 ≤ x.keep ∧ x.keep ≤ 64) ∧ (1 ≤ x.next ∧ x.next ≤ 4294967296) ∧ x.now.ok ∧ (∀ t ∈ x.cl, t.ok) ∧ (x.cl.length : Int) ≤ x.keep ∧ (x.cl.length : Int) ≤ (if x.op then x.next - 2 else x.next - 1)
theorem Sh.is_keep {w w' : World} {b : Nat} {x : Sh} (h : x.is w b) (hb : Below w.heap.size w w') : x.is w' b := by
  obtain ⟨a, cap, h1, h2⟩ := h
  exact ⟨a, cap, Tr.blk_keep hb h1, h2.keep hb⟩
theorem Sh.is_chg {w w' : World} {b b' : Nat} {x : Sh} (h : x.is w b) (hc : Chg b' w w') (hne : b ≠ b') {cs : Array Value} {f : Nat × Nat} (hb : w.heap[b']? = some (.cells cs 56 f)) : x.is w' b := by
  obtain ⟨a, cap, h1, h2⟩ := h
  exact ⟨a, cap, hc.keep h1 hne, h2.chg hc hb (by decide)⟩
theorem tots_len (l : List Tot) : (tots l).length = l.length * 6 := by
  unfold tots
  induction l with
  | nil => rfl
  | cons t l ih => simp [List.flatMap_cons, Tot.cells] at *; omega
theorem tots_one (l : List Tot) : ∀ u ∈ tots l, u.oneCell' = true := by
  intro u hu
  obtain ⟨t, _, ht⟩ := List.mem_flatMap.1 hu
  simp [Tot.cells] at ht
  rcases ht with rfl | rfl | rfl | rfl | rfl | rfl <;> rfl

/-! New -/
set_option maxHeartbeats 1000000 in
theorem C_New_yes (k : Int) (h1 : 1 ≤ k) (h2 : k ≤ 64) (w : World) : Calls Tryd.prog 4 #[.int .i64 k] w fun e w' => e = .returned (.tuple #[.pointer (some ⟨w.heap.size, 0, none⟩), .int .i64 0]) ∧
    Sh.is w' w.heap.size ⟨k, 1, false, .zero, []⟩ ∧ Below w.heap.size w w' := by
  go_enter Tryd.func4, Tryd.ntmps4
  go_wp2_with fail
  go_ret2
  refine ⟨rfl, ⟨none, 0, ?_, none, 0, rfl, Nat.le_refl _, rfl, (fun u hu => by cases hu), fun h => by cases h⟩, by (repeat (first | with_reducible assumption | (with_reducible exact Below.refl _ _) | ((with_reducible refine Tr.below_alloc ?_ ?_); rotate_left; focus (first | omega | exact Nat.le_refl _)) | (with_reducible refine Tr.below_drew ?_) | (with_reducible refine Tr.below_drewN ?_) | ((with_reducible refine Tr.below_set ?_ ?_); rotate_left; focus (first | omega | (simp; done) | (simp; omega))) | ((with_reducible refine Tr.below_trans ?_ (by assumption) ?_); rotate_left; focus (first | exact Nat.le_refl _ | omega))))⟩
  exact Tr.blk_new _ _
set_option maxHeartbeats 1000000 in
theorem C_New_no (k : Int) (h : k < 1 ∨ 64 < k) (w : World) : Calls Tryd.prog 4 #[.int .i64 k] w fun e w' => e = .returned (.tuple #[.pointer none, .int .i64 2]) ∧ Below w.heap.size w w' := by
  rcases h with h | h
  · go_enter Tryd.func4, Tryd.ntmps4
    go_wp2_with fail
    go_ret2
    exact ⟨rfl, by (repeat (first | with_reducible assumption | (with_reducible exact Below.refl _ _) | ((with_reducible refine Tr.below_alloc ?_ ?_); rotate_left; focus (first | omega | exact Nat.le_refl _)) | (with_reducible refine Tr.below_drew ?_) | (with_reducible refine Tr.below_drewN ?_) | ((with_reducible refine Tr.below_set ?_ ?_); rotate_left; focus (first | omega | (simp; done) | (simp; omega))) | ((with_reducible refine Tr.below_trans ?_ (by assumption) ?_); rotate_left; focus (first | exact Nat.le_refl _ | omega))))⟩
  · have h' : ¬ k < 1 := by omega
    go_enter Tryd.func4, Tryd.ntmps4
    go_wp2_with fail
    go_ret2
    exact ⟨rfl, by (repeat (first | with_reducible assumption | (with_reducible exact Below.refl _ _) | ((with_reducible refine Tr.below_alloc ?_ ?_); rotate_left; focus (first | omega | exact Nat.le_refl _)) | (with_reducible refine Tr.below_drew ?_) | (with_reducible refine Tr.below_drewN ?_) | ((with_reducible refine Tr.below_set ?_ ?_); rotate_left; focus (first | omega | (simp; done) | (simp; omega))) | ((with_reducible refine Tr.below_trans ?_ (by assumption) ?_); rotate_left; focus (first | exact Nat.le_refl _ | omega))))⟩

/-! Open, last -/
def Sh.openN (x : Sh) : Int := if x.op then x.next - 1 else 0
set_option maxHeartbeats 1000000 in
theorem C_Open (b : Nat) (x : Sh) (w : World) (h : x.is w b) (ho : x.ok) : Calls Tryd.prog 9 #[.pointer (some ⟨b, 0, none⟩)] w fun e w' => e = .returned (.int .i64 x.openN) ∧ Below w.heap.size w w' := by
  obtain ⟨a, cap, hb, -⟩ := h
  obtain ⟨keep, next, op, now, cl⟩ := x
  have hc := fun o => Tr.cell_blk (o := o) hb
  unfold Sh.cells at hc
  obtain ⟨-, ⟨n0, n1⟩, -⟩ := ho
  dsimp only at hc n0 n1
  clear hb
  unfold Sh.openN
  cases op with
  | true =>
    go_enter Tryd.func9, Tryd.ntmps9
    go_wp2_with fail
    go_ret
    exact ⟨rfl, by (repeat (first | with_reducible assumption | (with_reducible exact Below.refl _ _) | ((with_reducible refine Tr.below_alloc ?_ ?_); rotate_left; focus (first | omega | exact Nat.le_refl _)) | (with_reducible refine Tr.below_drew ?_) | (with_reducible refine Tr.below_drewN ?_) | ((with_reducible refine Tr.below_set ?_ ?_); rotate_left; focus (first | omega | (simp; done) | (simp; omega))) | ((with_reducible refine Tr.below_trans ?_ (by assumption) ?_); rotate_left; focus (first | exact Nat.le_refl _ | omega))))⟩
  | false =>
    go_enter Tryd.func9, Tryd.ntmps9
    go_wp2_with fail
    go_ret
    exact ⟨rfl, by (repeat (first | with_reducible assumption | (with_reducible exact Below.refl _ _) | ((with_reducible refine Tr.below_alloc ?_ ?_); rotate_left; focus (first | omega | exact Nat.le_refl _)) | (with_reducible refine Tr.below_drew ?_) | (with_reducible refine Tr.below_drewN ?_) | ((with_reducible refine Tr.below_set ?_ ?_); rotate_left; focus (first | omega | (simp; done) | (simp; omega))) | ((with_reducible refine Tr.below_trans ?_ (by assumption) ?_); rotate_left; focus (first | exact Nat.le_refl _ | omega))))⟩
set_option maxHeartbeats 1000000 in
theorem C_Open_nil (w : World) : Calls Tryd.prog 9 #[.pointer none] w fun e w' => e = .returned (.int .i64 0) ∧ Below w.heap.size w w' := by
  go_enter Tryd.func9, Tryd.ntmps9
  go_wp2_with fail
  go_ret
  exact ⟨rfl, by (repeat (first | with_reducible assumption | (with_reducible exact Below.refl _ _) | ((with_reducible refine Tr.below_alloc ?_ ?_); rotate_left; focus (first | omega | exact Nat.le_refl _)) | (with_reducible refine Tr.below_drew ?_) | (with_reducible refine Tr.below_drewN ?_) | ((with_reducible refine Tr.below_set ?_ ?_); rotate_left; focus (first | omega | (simp; done) | (simp; omega))) | ((with_reducible refine Tr.below_trans ?_ (by assumption) ?_); rotate_left; focus (first | exact Nat.le_refl _ | omega))))⟩
def Sh.lastN (x : Sh) : Int := if x.op then x.next - 2 else x.next - 1
set_option maxHeartbeats 1000000 in
theorem C_last (b : Nat) (x : Sh) (w : World) (h : x.is w b) (ho : x.ok) : Calls Tryd.prog 21 #[.pointer (some ⟨b, 0, none⟩)] w fun e w' => e = .returned (.int .i64 x.lastN) ∧ Below w.heap.size w w' := by
  obtain ⟨a, cap, hb, -⟩ := h
  obtain ⟨keep, next, op, now, cl⟩ := x
  have hc := fun o => Tr.cell_blk (o := o) hb
  unfold Sh.cells at hc
  obtain ⟨-, ⟨n0, n1⟩, -⟩ := ho
  dsimp only at hc n0 n1
  clear hb
  unfold Sh.lastN
  cases op with
  | true =>
    go_enter Tryd.func21, Tryd.ntmps21
    go_wp2_with fail
    go_ret
    exact ⟨rfl, by (repeat (first | with_reducible assumption | (with_reducible exact Below.refl _ _) | ((with_reducible refine Tr.below_alloc ?_ ?_); rotate_left; focus (first | omega | exact Nat.le_refl _)) | (with_reducible refine Tr.below_drew ?_) | (with_reducible refine Tr.below_drewN ?_) | ((with_reducible refine Tr.below_set ?_ ?_); rotate_left; focus (first | omega | (simp; done) | (simp; omega))) | ((with_reducible refine Tr.below_trans ?_ (by assumption) ?_); rotate_left; focus (first | exact Nat.le_refl _ | omega))))⟩
  | false =>
    go_enter Tryd.func21, Tryd.ntmps21
    go_wp2_with fail
    go_ret
    exact ⟨rfl, by (repeat (first | with_reducible assumption | (with_reducible exact Below.refl _ _) | ((with_reducible refine Tr.below_alloc ?_ ?_); rotate_left; focus (first | omega | exact Nat.le_refl _)) | (with_reducible refine Tr.below_drew ?_) | (with_reducible refine Tr.below_drewN ?_) | ((with_reducible refine Tr.below_set ?_ ?_); rotate_left; focus (first | omega | (simp; done) | (simp; omega))) | ((with_reducible refine Tr.below_trans ?_ (by assumption) ?_); rotate_left; focus (first | exact Nat.le_refl _ | omega))))⟩

/-! Start -/
def Sh.start (x : Sh) : Sh × Int × Int :=
  if x.op then (x, 0, 20) else if 4294967295 < x.next then (x, 0, 7) else (⟨x.keep, x.next + 1, true, .zero, x.cl⟩, x.next, 0)
set_option maxRecDepth 100000 in
set_option maxHeartbeats 2000000 in
theorem C_Start (b : Nat) (x : Sh) (w : World) (h : x.is w b) (ho : x.ok) : Calls Tryd.prog 6 #[.pointer (some ⟨b, 0, none⟩)] w fun e w' =>
    e = .returned (.tuple #[.int .i64 x.start.2.1, .int .i64 x.start.2.2]) ∧ x.start.1.is w' b ∧ Chg b w w' := by
  have h' := h
  obtain ⟨a, cap, hb, hsl⟩ := h
  obtain ⟨keep, next, op, now, cl⟩ := x
  have hc := fun o => Tr.cell_blk (o := o) hb
  have hf := fun o => Tr.frozen_blk (o := o) hb
  unfold Sh.cells at hc
  obtain ⟨-, ⟨n0, n1⟩, -⟩ := ho
  dsimp only at hc n0 n1 hsl
  have HB := Lib.hid hb; have HSL := Lib.hid hsl; have H' := Lib.hid h'
  clear hb hsl h'
  unfold Sh.start
  cases op with
  | true =>
    go_enter Tryd.func6, Tryd.ntmps6
    go_wp2_with fail
    go_ret2
    exact ⟨rfl, H'.out, Chg.refl _ _⟩
  | false =>
    by_cases hn : 4294967295 < next
    · go_enter Tryd.func6, Tryd.ntmps6
      go_wp2_with fail
      go_ret2
      simp only [hn, if_true, Bool.false_eq_true, if_false]
      exact ⟨rfl, H'.out, Chg.refl _ _⟩
    · go_enter Tryd.func6, Tryd.ntmps6
      go_wp2_with fail
      go_ret2
      simp only [hn, Bool.false_eq_true, if_false]
      refine ⟨rfl, ⟨a, cap, ?_, HSL.out.chg (b := b) ?_ HB.out (by decide)⟩, ?_⟩
      · have hb2 := HB.out; unfold Sh.cells at hb2; dsimp only at hb2; (simp only [Tr.heap_set_same, hb2, Option.map_some, Tr.setObj]; simp [Sh.cells, Tot.zero])
      · (repeat (first | with_reducible assumption | (with_reducible exact Tr.Chg.refl _ _) | (with_reducible refine Tr.Chg.set ?_ _ _) | (with_reducible refine Tr.Chg.alloc ?_ _) | (with_reducible refine Tr.Chg.drew ?_) | (with_reducible refine Tr.Chg.drewN ?_) | ((with_reducible refine Tr.Chg.set_new ?_ _ ?_); rotate_left; focus (first | omega | (simp; done) | (simp; omega))) | (with_reducible refine Tr.Chg.grown ?_ (by assumption)) | (with_reducible refine Tr.Chg.trans ?_ (by assumption))))
      · (repeat (first | with_reducible assumption | (with_reducible exact Tr.Chg.refl _ _) | (with_reducible refine Tr.Chg.set ?_ _ _) | (with_reducible refine Tr.Chg.alloc ?_ _) | (with_reducible refine Tr.Chg.drew ?_) | (with_reducible refine Tr.Chg.drewN ?_) | ((with_reducible refine Tr.Chg.set_new ?_ _ ?_); rotate_left; focus (first | omega | (simp; done) | (simp; omega))) | (with_reducible refine Tr.Chg.grown ?_ (by assumption)) | (with_reducible refine Tr.Chg.trans ?_ (by assumption))))

/-! sum -/
set_option maxHeartbeats 1000000 in
theorem C_sum (g : Nat) (k : Int) (hk : 1 ≤ k ∧ k ≤ 6) (w : World) : Calls Tryd.prog 17 #[.pointer (some ⟨g, 0, none⟩), .int .u8 k] w fun e w' => e = .returned (.pointer (if k ≤ 5 then some ⟨g, k.toNat, none⟩ else none)) ∧ w' = w := by
  have : k = 1 ∨ k = 2 ∨ k = 3 ∨ k = 4 ∨ k = 5 ∨ k = 6 := by omega
  rcases this with rfl | rfl | rfl | rfl | rfl | rfl
  all_goals
    clear hk
    go_enter Tryd.func17, Tryd.ntmps17
    go_wp2_with fail
    go_ret
    exact ⟨rfl, rfl⟩

/-! Add -/
def Tot.get (t : Tot) : Nat → Int
  | 1 => t.s | 2 => t.v | 3 => t.r | 4 => t.i | 5 => t.o | _ => 0
def Tot.put (t : Tot) (k : Nat) (x : Int) : Tot :=
  match k with
  | 1 => { t with s := x } | 2 => { t with v := x } | 3 => { t with r := x } | 4 => { t with i := x } | 5 => { t with o := x } | _ => t
def Sh.add (x : Sh) (k : Nat) (a : Int) : Sh × Int :=
  if k < 1 ∨ 6 < k ∨ a < 0 then (x, 2) else if x.op = false then (x, 20) else if 4294967295 ≤ x.now.n then (x, 6) else
  if k ≤ 5 ∧ 9223372036854775807 < x.now.get k + a then (x, 6) else
  (⟨x.keep, x.next, x.op, { x.now.put k (x.now.get k + a) with n := x.now.n + 1 }, x.cl⟩, 0)
set_option maxRecDepth 100000 in
set_option maxHeartbeats 4000000 in
theorem C_ShAdd (b k : Nat) (am : Int) (x : Sh) (w : World) (hk : k ≤ 255) (ham : I64 am) (h : x.is w b) (ho : x.ok) : Calls Tryd.prog 8 #[.pointer (some ⟨b, 0, none⟩), .int .u8 k, .int .i64 am] w fun e w' =>
    e = .returned (.int .i64 (x.add k am).2) ∧ (x.add k am).1.is w' b ∧ Chg b w w' := by
  have h' := h
  obtain ⟨a, cap, hb, hsl⟩ := h
  obtain ⟨keep, next, op, now, cl⟩ := x
  obtain ⟨n, s, v, r, i, o⟩ := now
  have hc := fun o => Tr.cell_blk (o := o) hb
  have hf := fun o => Tr.frozen_blk (o := o) hb
  have hbl := Tr.blk_lt hb
  unfold Sh.cells at hc
  obtain ⟨-, -, ⟨⟨nn0, nn1⟩, hs, hv, hr, hi, hoo⟩, -⟩ := ho
  unfold Amt at hs hv hr hi hoo
  unfold I64 at ham
  obtain ⟨hs0, hs1⟩ := hs
  obtain ⟨hv0, hv1⟩ := hv
  obtain ⟨hr0, hr1⟩ := hr
  obtain ⟨hi0, hi1⟩ := hi
  obtain ⟨ho0, ho1⟩ := hoo
  obtain ⟨am0, am1⟩ := ham
  dsimp only at hc hsl hs0 hs1 hv0 hv1 hr0 hr1 hi0 hi1 ho0 ho1 nn0 nn1
  have HB := Lib.hid hb; have HSL := Lib.hid hsl; have H' := Lib.hid h'
  clear hb hsl h'
  by_cases hbad : k < 1 ∨ 6 < k ∨ am < 0
  · have e1 : Sh.add ⟨keep, next, op, ⟨n, s, v, r, i, o⟩, cl⟩ k am = (⟨keep, next, op, ⟨n, s, v, r, i, o⟩, cl⟩, 2) := by unfold Sh.add; rw [if_pos hbad]
    rw [e1]
    clear e1
    have hk1 : ((k : Int) < 1) ∨ ((¬ (k : Int) < 1) ∧ (6 : Int) < k) ∨ ((¬ (k : Int) < 1) ∧ (¬ (6 : Int) < k) ∧ am < 0) := by omega
    clear hbad
    rcases hk1 with g | ⟨g1, g2⟩ | ⟨g1, g2, g3⟩
    all_goals
      go_enter Tryd.func8, Tryd.ntmps8
      go_wp2_with fail
      go_ret
      exact ⟨rfl, H'.out, Chg.refl _ _⟩
  · have hk1 : 1 ≤ k := by omega
    have hk6 : k ≤ 6 := by omega
    have ha0 : 0 ≤ am := by omega
    cases op with
    | false =>
      have e1 : Sh.add ⟨keep, next, false, ⟨n, s, v, r, i, o⟩, cl⟩ k am = (⟨keep, next, false, ⟨n, s, v, r, i, o⟩, cl⟩, 20) := by unfold Sh.add; rw [if_neg hbad, if_pos rfl]
      rw [e1]
      clear e1 hbad
      go_enter Tryd.func8, Tryd.ntmps8
      go_wp2_with fail
      go_ret
      exact ⟨rfl, H'.out, Chg.refl _ _⟩
    | true =>
      by_cases hn : 4294967295 ≤ n
      · have e1 : Sh.add ⟨keep, next, true, ⟨n, s, v, r, i, o⟩, cl⟩ k am = (⟨keep, next, true, ⟨n, s, v, r, i, o⟩, cl⟩, 6) := by unfold Sh.add; rw [if_neg hbad, if_neg (by simp), if_pos hn]
        rw [e1]
        clear e1 hbad
        go_enter Tryd.func8, Tryd.ntmps8
        go_wp2_with fail
        go_ret
        exact ⟨rfl, H'.out, Chg.refl _ _⟩
      · by_cases hov : k ≤ 5 ∧ 9223372036854775807 < (Tot.mk n s v r i o).get k + am
        · have e1 : Sh.add ⟨keep, next, true, ⟨n, s, v, r, i, o⟩, cl⟩ k am = (⟨keep, next, true, ⟨n, s, v, r, i, o⟩, cl⟩, 6) := by unfold Sh.add; rw [if_neg hbad, if_neg (by simp), if_neg hn, if_pos hov]
          rw [e1]
          obtain ⟨hk5, hov⟩ := hov
          have hE : ∀ V, 9223372036854775807 < V → amt V = 0 ∧ amtE V = 6 := fun V hV => amt_no (by unfold I64; omega)
          have : k = 1 ∨ k = 2 ∨ k = 3 ∨ k = 4 ∨ k = 5 := by omega
          rcases this with rfl | rfl | rfl | rfl | rfl
          all_goals
            simp only [Tot.get] at hov
            have HE := Lib.hid (hE _ hov)
            clear hE e1 hbad hov hk5 hk1 hk6
            go_enter Tryd.func8, Tryd.ntmps8
            go_wp2_with (first
              | (go_at_call 17; refine (C_sum _ _ (by omega) _).mono ?_; rintro e w1 ⟨rfl, rfl⟩; simp only [Int.reduceLE, if_true, if_false, Int.reduceToNat])
              | (go_at_call 18; refine (C_Add _ am (by unfold I64; omega) (by unfold I64; omega) _).mono ?_; rw [HE.out.1, HE.out.2]; rintro e w2 ⟨rfl, hb2⟩))
            go_ret
            refine ⟨rfl, Sh.is_keep H'.out ?_, Chg.of_below ?_⟩
            · (repeat (first | with_reducible assumption | (with_reducible exact Below.refl _ _) | ((with_reducible refine Tr.below_alloc ?_ ?_); rotate_left; focus (first | omega | exact Nat.le_refl _)) | (with_reducible refine Tr.below_drew ?_) | (with_reducible refine Tr.below_drewN ?_) | ((with_reducible refine Tr.below_set ?_ ?_); rotate_left; focus (first | omega | (simp; done) | (simp; omega))) | ((with_reducible refine Tr.below_trans ?_ (by assumption) ?_); rotate_left; focus (first | exact Nat.le_refl _ | omega))))
            · (repeat (first | with_reducible assumption | (with_reducible exact Below.refl _ _) | ((with_reducible refine Tr.below_alloc ?_ ?_); rotate_left; focus (first | omega | exact Nat.le_refl _)) | (with_reducible refine Tr.below_drew ?_) | (with_reducible refine Tr.below_drewN ?_) | ((with_reducible refine Tr.below_set ?_ ?_); rotate_left; focus (first | omega | (simp; done) | (simp; omega))) | ((with_reducible refine Tr.below_trans ?_ (by assumption) ?_); rotate_left; focus (first | exact Nat.le_refl _ | omega))))
        · have hE : ∀ V, I64 V → amt V = V ∧ amtE V = 0 := fun V hV => amt_yes hV
          have hge : k ≤ 5 → 0 ≤ Tot.get ⟨n, s, v, r, i, o⟩ k := by
            intro hk5
            have : k = 1 ∨ k = 2 ∨ k = 3 ∨ k = 4 ∨ k = 5 := by omega
            rcases this with rfl | rfl | rfl | rfl | rfl <;> simp only [Tot.get] <;> omega
          have hov1 : k ≤ 5 → I64 (Tot.get ⟨n, s, v, r, i, o⟩ k + am) := by
            intro hk5
            have : ¬ 9223372036854775807 < Tot.get ⟨n, s, v, r, i, o⟩ k + am := fun h => hov ⟨hk5, h⟩
            have := hge hk5
            unfold I64; omega
          have e1 : Sh.add ⟨keep, next, true, ⟨n, s, v, r, i, o⟩, cl⟩ k am = (⟨keep, next, true, { (Tot.mk n s v r i o).put k (Tot.get ⟨n, s, v, r, i, o⟩ k + am) with n := n + 1 }, cl⟩, 0) := by unfold Sh.add; rw [if_neg hbad, if_neg (by simp), if_neg hn, if_neg hov]
          rw [e1]
          clear e1 hge hbad hov
          have : k = 1 ∨ k = 2 ∨ k = 3 ∨ k = 4 ∨ k = 5 ∨ k = 6 := by omega
          rcases this with rfl | rfl | rfl | rfl | rfl | rfl
          case inr.inr.inr.inr.inr =>
            simp only [Tot.put]
            clear hE hov1 hk1 hk6
            have hne : w.heap.size ≠ b := by omega
            go_enter Tryd.func8, Tryd.ntmps8
            go_wp2_with (go_at_call 17; refine (C_sum _ _ (by omega) _).mono ?_; rintro e w1 ⟨rfl, rfl⟩; simp only [Int.reduceLE, if_true, if_false, Int.reduceToNat])
            go_ret
            refine ⟨rfl, ⟨a, cap, ?_, HSL.out.chg (b := b) ?_ HB.out (by decide)⟩, ?_⟩
            · have bb := HB.out
              refine Tr.blk_old ?_
              (simp only [Tr.heap_set_same, bb, Option.map_some, Tr.setObj]; simp [Sh.cells])
            · (repeat (first | with_reducible assumption | (with_reducible exact Tr.Chg.refl _ _) | (with_reducible refine Tr.Chg.set ?_ _ _) | (with_reducible refine Tr.Chg.alloc ?_ _) | (with_reducible refine Tr.Chg.drew ?_) | (with_reducible refine Tr.Chg.drewN ?_) | ((with_reducible refine Tr.Chg.set_new ?_ _ ?_); rotate_left; focus (first | omega | (simp; done) | (simp; omega))) | (with_reducible refine Tr.Chg.grown ?_ (by assumption)) | (with_reducible refine Tr.Chg.trans ?_ (by assumption))))
            · (repeat (first | with_reducible assumption | (with_reducible exact Tr.Chg.refl _ _) | (with_reducible refine Tr.Chg.set ?_ _ _) | (with_reducible refine Tr.Chg.alloc ?_ _) | (with_reducible refine Tr.Chg.drew ?_) | (with_reducible refine Tr.Chg.drewN ?_) | ((with_reducible refine Tr.Chg.set_new ?_ _ ?_); rotate_left; focus (first | omega | (simp; done) | (simp; omega))) | (with_reducible refine Tr.Chg.grown ?_ (by assumption)) | (with_reducible refine Tr.Chg.trans ?_ (by assumption))))
          all_goals
            have hov' := hov1 (by omega)
            simp only [Tot.get, Tot.put] at hov' ⊢
            have HE := Lib.hid (hE _ hov')
            clear hE hov1 hk1 hk6 hov'
            have hne : w.heap.size ≠ b := by omega
            have hne2 : b < w.heap.size + 1 := by omega
            go_enter Tryd.func8, Tryd.ntmps8
            go_wp2_with (first
              | (go_at_call 17; refine (C_sum _ _ (by omega) _).mono ?_; rintro e w1 ⟨rfl, rfl⟩; simp only [Int.reduceLE, if_true, if_false, Int.reduceToNat])
              | (go_at_call 18; refine (C_Add _ am (by unfold I64; omega) (by unfold I64; omega) _).mono ?_; rw [HE.out.1, HE.out.2]; rintro e w2 ⟨rfl, hb2⟩; have bx := Tr.blk_keep hb2 (Tr.blk_new _ _); have bb := Tr.blk_keep hb2 (Tr.blk_old HB.out); have cx := fun o => Tr.cell_blk (o := o) bx; have fx := fun o => Tr.frozen_blk (o := o) bx; have fb := fun o => Tr.frozen_blk (o := o) bb; have cb := fun o => Tr.cell_blk (o := o) bb; unfold Sh.cells at cb; dsimp only at cb; have BX := Lib.hid bx; have BB := Lib.hid bb; have hC2 := (Chg.refl b w).alloc (.cells #[.int .i64 n, .int .i64 s, .int .i64 v, .int .i64 r, .int .i64 i, .int .i64 o] 34); have hC3 := hC2.grown hb2; clear bx bb hc hf hb2 hC2))
            go_outline
            go_ret
            refine ⟨rfl, ⟨a, cap, ?_, HSL.out.chg (b := b) ?_ HB.out (by decide)⟩, ?_⟩
            · have bb := BB.out
              simp only [Tr.heap_set_same, Tr.heap_set_other _ ⟨w.heap.size, _, none⟩ _ _ hne, bb, Option.map_some, Tr.setObj]
              simp [Sh.cells]
            · (repeat (first | with_reducible assumption | (with_reducible exact Tr.Chg.refl _ _) | (with_reducible refine Tr.Chg.set ?_ _ _) | (with_reducible refine Tr.Chg.alloc ?_ _) | (with_reducible refine Tr.Chg.drew ?_) | (with_reducible refine Tr.Chg.drewN ?_) | ((with_reducible refine Tr.Chg.set_new ?_ _ ?_); rotate_left; focus (first | omega | (simp; done) | (simp; omega))) | (with_reducible refine Tr.Chg.grown ?_ (by assumption)) | (with_reducible refine Tr.Chg.trans ?_ (by assumption))))
            · (repeat (first | with_reducible assumption | (with_reducible exact Tr.Chg.refl _ _) | (with_reducible refine Tr.Chg.set ?_ _ _) | (with_reducible refine Tr.Chg.alloc ?_ _) | (with_reducible refine Tr.Chg.drew ?_) | (with_reducible refine Tr.Chg.drewN ?_) | ((with_reducible refine Tr.Chg.set_new ?_ _ ?_); rotate_left; focus (first | omega | (simp; done) | (simp; omega))) | (with_reducible refine Tr.Chg.grown ?_ (by assumption)) | (with_reducible refine Tr.Chg.trans ?_ (by assumption))))
end Go.Proofs.YtjkfkgpdlflbhaaDoor
