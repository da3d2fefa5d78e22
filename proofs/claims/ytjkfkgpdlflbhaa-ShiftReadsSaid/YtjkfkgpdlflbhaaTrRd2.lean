/- The reader of bytes: take, Number, Signed, Left, Wrong. -/
import Derived.Test.YtjkfkgpdlflbhaaTrRd
namespace Go.Proofs.Ytjkfkgpdlflbhaa
open Go.RowKit Go.Sort
open Tr (Sl Chg)
set_option linter.unusedVariables false
set_option linter.unusedSimpArgs false

/-- A reader in a block: what is left, and whether it is wrong. -/
def Rd (w : World) (g : Nat) (s : List UInt8 × Bool) : Prop := w.heap[g]? = some (.cells #[.string ⟨s.1.toArray⟩, .bool s.2] 124 (0, 0))
theorem Rd.keep {w w' : World} {g : Nat} {s : List UInt8 × Bool} (h : Rd w g s) (hb : Below w.heap.size w w') : Rd w' g s := Tr.blk_keep hb h
def rdTake (k : Nat) (s : List UInt8 × Bool) : List UInt8 × (List UInt8 × Bool) := if s.2 = true ∨ s.1.length < k then ([], ([], true)) else (s.1.take k, (s.1.drop k, false))
def rdNum (k : Nat) (s : List UInt8 × Bool) : Nat × (List UInt8 × Bool) := (NUM (rdTake k s).1, (rdTake k s).2)

set_option maxRecDepth 100000 in
set_option maxHeartbeats 4000000 in
theorem C_fail (g : Nat) (s : List UInt8 × Bool) (w : World) (h : Rd w g s) : Calls Try.prog 79 #[.pointer (some ⟨g, 0, none⟩)] w fun e w' => e = .returned (.tuple #[]) ∧ Rd w' g ([], true) ∧ Chg g w w' := by
  unfold Rd at h
  have hc := fun o => Tr.cell_blk (o := o) h
  have hf := fun o => Tr.frozen_blk (o := o) h
  have hl := Tr.blk_lt h
  have H := Lib.hid h
  clear h
  go_enter Try.func79, Try.ntmps79
  go_wp2_with fail
  go_end0
  refine ⟨rfl, ?_, by (repeat (first | with_reducible assumption | (with_reducible exact Tr.Chg.refl _ _) | (with_reducible refine Tr.Chg.set ?_ _ _) | (with_reducible refine Tr.Chg.alloc ?_ _) | (with_reducible refine Tr.Chg.drew ?_) | (with_reducible refine Tr.Chg.drewN ?_) | ((with_reducible refine Tr.Chg.set_new ?_ _ ?_); rotate_left; focus (first | omega | (simp; done) | (simp; omega))) | (with_reducible refine Tr.Chg.grown ?_ (by assumption)) | (with_reducible refine Tr.Chg.trans ?_ (by assumption))))⟩
  have h := H.out
  unfold Rd
  (simp only [Tr.heap_set_same, h, Option.map_some, Tr.setObj]; simp [])
set_option maxRecDepth 100000 in
theorem C_fail_nil (w : World) : Calls Try.prog 79 #[.pointer none] w fun e w' => e = .returned (.tuple #[]) ∧ Below w.heap.size w w' := by
  go_enter Try.func79, Try.ntmps79
  go_wp2_with fail
  go_end0
  exact ⟨rfl, by (repeat (first | with_reducible assumption | (with_reducible exact Below.refl _ _) | ((with_reducible refine Tr.below_alloc ?_ ?_); rotate_left; focus (first | omega | exact Nat.le_refl _)) | (with_reducible refine Tr.below_drew ?_) | (with_reducible refine Tr.below_drewN ?_) | ((with_reducible refine Tr.below_set ?_ ?_); rotate_left; focus (first | omega | (simp; done) | (simp; omega))) | ((with_reducible refine Tr.below_trans ?_ (by assumption) ?_); rotate_left; focus (first | exact Nat.le_refl _ | omega))))⟩

set_option maxRecDepth 100000 in
set_option maxHeartbeats 4000000 in
theorem C_take (g k : Nat) (s : List UInt8 × Bool) (w : World) (h : Rd w g s) : Calls Try.prog 73 #[.pointer (some ⟨g, 0, none⟩), .int .i64 k] w fun e w' =>
    e = .returned (.tuple #[.string ⟨(rdTake k s).1.toArray⟩, .bool (!(rdTake k s).2.2)]) ∧ Rd w' g (rdTake k s).2 ∧ Chg g w w' := by
  obtain ⟨l, wr⟩ := s
  have hF := fun W hW => C_fail g (l, wr) W hW
  have h' := h
  unfold Rd at h
  dsimp only at h
  have hc := fun o => Tr.cell_blk (o := o) h
  have hf := fun o => Tr.frozen_blk (o := o) h
  have hl := Tr.blk_lt h
  have H := Lib.hid h; have H' := Lib.hid h'; have HF := Lib.hid hF
  clear h h' hF
  have hsz : (ByteArray.mk l.toArray).size = l.length := by simp [ByteArray.size]
  by_cases hbad : wr = true ∨ l.length < k
  · have e1 : rdTake k (l, wr) = ([], ([], true)) := by unfold rdTake; rw [if_pos hbad]
    rw [e1]
    clear e1
    have hb2 : wr = true ∨ (wr = false ∧ l.length < k) := by cases wr <;> simp_all
    clear hbad
    rcases hb2 with rfl | ⟨rfl, hlt⟩
    all_goals
      go_enter Try.func73, Try.ntmps73
      go_wp2_with (go_at_call 79; refine (HF.out _ H'.out).mono ?_; rintro e w1 ⟨rfl, hr1, hc1⟩)
      go_ret2
      exact ⟨rfl, hr1, hc1⟩
  · have e1 : rdTake k (l, wr) = (l.take k, (l.drop k, false)) := by unfold rdTake; rw [if_neg hbad]
    rw [e1]
    clear e1
    have hwr : wr = false := by cases wr <;> simp_all
    subst hwr
    have hlt : k ≤ l.length := by simp at hbad; omega
    clear hbad
    go_enter Try.func73, Try.ntmps73
    go_wp2_with fail
    go_ret2
    refine ⟨?_, ?_, by (repeat (first | with_reducible assumption | (with_reducible exact Tr.Chg.refl _ _) | (with_reducible refine Tr.Chg.set ?_ _ _) | (with_reducible refine Tr.Chg.alloc ?_ _) | (with_reducible refine Tr.Chg.drew ?_) | (with_reducible refine Tr.Chg.drewN ?_) | ((with_reducible refine Tr.Chg.set_new ?_ _ ?_); rotate_left; focus (first | omega | (simp; done) | (simp; omega))) | (with_reducible refine Tr.Chg.grown ?_ (by assumption)) | (with_reducible refine Tr.Chg.trans ?_ (by assumption))))⟩
    · first | rfl | (simp only [str_take]; rfl)
    · have h := H.out
      unfold Rd
      dsimp only
      rw [← str_drop l k l.length (Nat.le_refl _)]
      (simp only [Tr.heap_set_same, h, Option.map_some, Tr.setObj]; simp [])
set_option maxRecDepth 100000 in
theorem C_take_nil (k : Nat) (w : World) : Calls Try.prog 73 #[.pointer none, .int .i64 k] w fun e w' => e = .returned (.tuple #[.string ⟨#[]⟩, .bool false]) ∧ Below w.heap.size w w' := by
  go_enter Try.func73, Try.ntmps73
  go_wp2_with (go_at_call 79; refine (C_fail_nil _).mono ?_; rintro e w1 ⟨rfl, hb1⟩)
  go_ret2
  exact ⟨rfl, hb1⟩
theorem rdTake_len (k : Nat) (s : List UInt8 × Bool) : (rdTake k s).1.length ≤ k := by
  unfold rdTake
  split
  · simp
  · simp; omega

set_option maxRecDepth 100000 in
set_option maxHeartbeats 4000000 in
theorem C_RdNumber (g k : Nat) (s : List UInt8 × Bool) (w : World) (h : Rd w g s) (h1 : 1 ≤ k) (h2 : k ≤ 8) : Calls Try.prog 59 #[.pointer (some ⟨g, 0, none⟩), .int .i64 k] w fun e w' =>
    e = .returned (.int .u64 (rdNum k s).1) ∧ Rd w' g (rdNum k s).2 ∧ Chg g w w' := by
  have hF := fun W => C_BeFits_yes 0 k (Nat.pow_pos (by decide)) h1 h2 W
  have hT := fun W hW => C_take g k s W hW
  have hG := fun W => C_BeGet (rdTake k s).1 (Nat.le_trans (rdTake_len k s) h2) W
  unfold rdNum
  obtain ⟨R, hR⟩ : ∃ R, R = rdTake k s := ⟨_, rfl⟩
  rw [← hR] at hT hG ⊢
  have HF := Lib.hid hF; have HT := Lib.hid hT; have HG := Lib.hid hG; have H := Lib.hid h
  clear hF hT hG h hR
  go_enter Try.func59, Try.ntmps59
  go_wp2_with (first
    | (go_at_call 69; have hk := HF.out w; refine Calls.mono hk ?_; rintro e w1 ⟨rfl, hb1⟩; have HB1 := Lib.hid hb1; clear hb1)
    | (go_at_call 73; have hk := HT.out w1 (Rd.keep H.out HB1.out); refine Calls.mono hk ?_; rintro e w2 ⟨rfl, hr2, hc2⟩; have HR2 := Lib.hid hr2; have HC2 := Lib.hid hc2; clear hr2 hc2)
    | (go_at_call 74; have hk := HG.out w2; refine Calls.mono hk ?_; rintro e w3 ⟨rfl, hb3⟩; have HB3 := Lib.hid hb3; clear hb3)
    | fail)
  go_ret
  exact ⟨rfl, Rd.keep HR2.out HB3.out, ((Chg.of_below HB1.out).trans HC2.out).trans (Chg.of_below HB3.out)⟩
set_option maxRecDepth 100000 in
set_option maxHeartbeats 4000000 in
theorem C_RdNumber_nil (k : Nat) (w : World) (h1 : 1 ≤ k) (h2 : k ≤ 8) : Calls Try.prog 59 #[.pointer none, .int .i64 k] w fun e w' => e = .returned (.int .u64 0) ∧ Below w.heap.size w w' := by
  have hF := fun W => C_BeFits_yes 0 k (Nat.pow_pos (by decide)) h1 h2 W
  have hG : ∀ W, Calls Try.prog 74 #[.string ⟨#[]⟩] W fun e w' => e = .returned (.int .u64 0) ∧ Below W.heap.size W w' := fun W => C_BeGet [] (by simp) W
  have HF := Lib.hid hF; have HG := Lib.hid hG
  clear hF hG
  go_enter Try.func59, Try.ntmps59
  go_wp2_with (first
    | (go_at_call 69; have hk := HF.out w; refine Calls.mono hk ?_; rintro e w1 ⟨rfl, hb1⟩; have HB1 := Lib.hid hb1; clear hb1)
    | (go_at_call 73; have hk := C_take_nil k w1; refine Calls.mono hk ?_; rintro e w2 ⟨rfl, hb2⟩; have HB2 := Lib.hid hb2; clear hb2)
    | (go_at_call 74; have hk := HG.out w2; refine Calls.mono hk ?_; rintro e w3 ⟨rfl, hb3⟩; have HB3 := Lib.hid hb3; clear hb3)
    | fail)
  go_ret
  exact ⟨rfl, Tr.below_trans (Tr.below_trans HB1.out HB2.out) HB3.out⟩
def sg64 (n : Nat) : Int := if n < 9223372036854775808 then (n : Int) else (n : Int) - 18446744073709551616
theorem i64_sg (n : Nat) (h : n < 18446744073709551616) : wrap64 (n : Int) = sg64 n := by
  unfold sg64 wrap64
  split <;> (try split) <;> omega
set_option maxRecDepth 100000 in
set_option maxHeartbeats 4000000 in
theorem C_RdSigned (g : Nat) (s : List UInt8 × Bool) (w : World) (h : Rd w g s) : Calls Try.prog 75 #[.pointer (some ⟨g, 0, none⟩)] w fun e w' =>
    e = .returned (.int .i64 (sg64 (rdNum 8 s).1)) ∧ Rd w' g (rdNum 8 s).2 ∧ Chg g w w' := by
  have hN : Calls Try.prog 59 #[.pointer (some ⟨g, 0, none⟩), .int .i64 8] w _ := C_RdNumber g 8 s w h (by omega) (by omega)
  have hn : (rdNum 8 s).1 < 18446744073709551616 := NUM_lt _ 8 (rdTake_len 8 s)
  rw [← i64_sg _ hn]
  obtain ⟨R, hR⟩ : ∃ R, R = rdNum 8 s := ⟨_, rfl⟩
  rw [← hR] at hN hn ⊢
  have HN := Lib.hid hN
  clear hN h hR
  go_enter Try.func75, Try.ntmps75
  go_wp2_with (go_at_call 59; have hk := HN.out; refine Calls.mono hk ?_; rintro e w1 ⟨rfl, hr1, hc1⟩)
  go_ret
  exact ⟨rfl, hr1, hc1⟩
set_option maxRecDepth 100000 in
theorem C_RdLeft (g : Nat) (s : List UInt8 × Bool) (w : World) (h : Rd w g s) : Calls Try.prog 42 #[.pointer (some ⟨g, 0, none⟩)] w fun e w' => e = .returned (.int .i64 s.1.length) ∧ Below w.heap.size w w' := by
  unfold Rd at h
  have hc := fun o => Tr.cell_blk (o := o) h
  have hsz : (ByteArray.mk s.1.toArray).size = s.1.length := by simp [ByteArray.size]
  clear h
  go_enter Try.func42, Try.ntmps42
  go_wp2_with fail
  go_ret
  exact ⟨by simp, by (repeat (first | with_reducible assumption | (with_reducible exact Below.refl _ _) | ((with_reducible refine Tr.below_alloc ?_ ?_); rotate_left; focus (first | omega | exact Nat.le_refl _)) | (with_reducible refine Tr.below_drew ?_) | (with_reducible refine Tr.below_drewN ?_) | ((with_reducible refine Tr.below_set ?_ ?_); rotate_left; focus (first | omega | (simp; done) | (simp; omega))) | ((with_reducible refine Tr.below_trans ?_ (by assumption) ?_); rotate_left; focus (first | exact Nat.le_refl _ | omega))))⟩
set_option maxRecDepth 100000 in
theorem C_RdWrong (g : Nat) (s : List UInt8 × Bool) (w : World) (h : Rd w g s) : Calls Try.prog 61 #[.pointer (some ⟨g, 0, none⟩)] w fun e w' => e = .returned (.bool s.2) ∧ Below w.heap.size w w' := by
  unfold Rd at h
  have hc := fun o => Tr.cell_blk (o := o) h
  clear h
  go_enter Try.func61, Try.ntmps61
  go_wp2_with fail
  go_ret
  exact ⟨rfl, by (repeat (first | with_reducible assumption | (with_reducible exact Below.refl _ _) | ((with_reducible refine Tr.below_alloc ?_ ?_); rotate_left; focus (first | omega | exact Nat.le_refl _)) | (with_reducible refine Tr.below_drew ?_) | (with_reducible refine Tr.below_drewN ?_) | ((with_reducible refine Tr.below_set ?_ ?_); rotate_left; focus (first | omega | (simp; done) | (simp; omega))) | ((with_reducible refine Tr.below_trans ?_ (by assumption) ?_); rotate_left; focus (first | exact Nat.le_refl _ | omega))))⟩
set_option maxRecDepth 100000 in
theorem C_CurRead (l : List UInt8) (w : World) : Calls Try.prog 39 #[.string ⟨l.toArray⟩] w fun e w' => e = .returned (.pointer (some ⟨w.heap.size, 0, none⟩)) ∧ Rd w' w.heap.size (l, false) ∧ Below w.heap.size w w' := by
  go_enter Try.func39, Try.ntmps39
  go_wp2_with fail
  go_ret
  exact ⟨rfl, by unfold Rd; (repeat (first | with_reducible assumption | with_reducible refine Tr.blk_drew ?_ | with_reducible refine Tr.blk_drewN ?_ | (refine Tr.blk_at ?_; focus (first | (simp; done) | (simp; omega))) | with_reducible refine Tr.blk_old ?_ | ((with_reducible refine Tr.blk_set_ne ?_ _ ?_); rotate_left; focus (first | (simp; done) | (simp; omega) | (simp; assumption))))), by (repeat (first | with_reducible assumption | (with_reducible exact Below.refl _ _) | ((with_reducible refine Tr.below_alloc ?_ ?_); rotate_left; focus (first | omega | exact Nat.le_refl _)) | (with_reducible refine Tr.below_drew ?_) | (with_reducible refine Tr.below_drewN ?_) | ((with_reducible refine Tr.below_set ?_ ?_); rotate_left; focus (first | omega | (simp; done) | (simp; omega))) | ((with_reducible refine Tr.below_trans ?_ (by assumption) ?_); rotate_left; focus (first | exact Nat.le_refl _ | omega))))⟩
end Go.Proofs.Ytjkfkgpdlflbhaa
