/- The reference's till: the same sum, by halves. -/
import Derived.Test.YtjkfkgpdlflbhaaDoorTrRef03
namespace Go.Proofs.YtjkfkgpdlflbhaaDoor
open Go.RowKit Go.Sort
set_option linter.unusedVariables false
set_option linter.unusedSimpArgs false

def QT (x : Int) : Int := x.tdiv 1000000000
def RT (x : Int) : Int := x.tmod 1000000000
theorem qr_facts (x : Int) (hx : I64 x) : x = 1000000000 * QT x + RT x ∧ (-9223372037 ≤ QT x ∧ QT x ≤ 9223372037) ∧ (-1000000000 < RT x ∧ RT x < 1000000000) := by
  obtain ⟨e, h1, h2⟩ := half_facts x
  unfold I64 at hx
  unfold QT RT
  omega
theorem C_HalfQ (a : Int) (ha : I64 a) (w : World) :
    Calls Tryd.prog 22 #[.int .i64 a] w fun e w' => e = .returned (.agg #[.int .i64 (QT a), .int .i64 (RT a)]) ∧ Below w.heap.size w w' := C_Half a ha w

/-- What came to so far, of j fields. -/
def TA (f : Int → Int) (s v r i o : Int) : Nat → Int
  | 0 => 0
  | 1 => f s
  | 2 => f s - f v
  | 3 => f s - f v - f r
  | 4 => f s - f v - f r + f i
  | _ => f s - f v - f r + f i - f o
def RTInv (n s v r i o : Int) (g1 g4 : Nat) (B : World) (s5 : Value) (wr : World) : Prop :=
  ∃ j : Nat, j ≤ 5 ∧ s5 = .int .i64 j ∧ wr.heap[g1]? = some (.cells #[.int .i64 n, .int .i64 s, .int .i64 v, .int .i64 r, .int .i64 i, .int .i64 o] 47 (0, 0)) ∧
    wr.heap[g4]? = some (.cells #[.int .i64 (TA QT s v r i o j), .int .i64 (TA RT s v r i o j)] 66 (0, 0)) ∧ Below B.heap.size B wr

set_option maxRecDepth 100000 in
set_option maxHeartbeats 8000000 in
theorem C_RTill (n s v r i o : Int) (hs : I64 s) (hv : I64 v) (hr : I64 r) (hi : I64 i) (ho : I64 o) (w : World) :
    Calls Tryd.prog 13 #[.agg #[.int .i64 n, .int .i64 s, .int .i64 v, .int .i64 r, .int .i64 i, .int .i64 o]] w fun e w' =>
      e = .returned (.tuple #[.int .i64 (amt (s - v - r + i - o)), .int .i64 (amtE (s - v - r + i - o))]) ∧ Below w.heap.size w w' := by
  have fs := qr_facts s hs
  have fv := qr_facts v hv
  have fr := qr_facts r hr
  have fi := qr_facts i hi
  have fo := qr_facts o ho
  have hsum : TA QT s v r i o 5 * 1000000000 + TA RT s v r i o 5 = s - v - r + i - o := by simp only [TA]; omega
  have HS := Lib.hid hs; have HV := Lib.hid hv; have HR := Lib.hid hr; have HI := Lib.hid hi; have HO := Lib.hid ho; have HSUM := Lib.hid hsum
  obtain ⟨-, ⟨s0, s1⟩, s2, s3⟩ := fs
  obtain ⟨-, ⟨v0, v1⟩, v2, v3⟩ := fv
  obtain ⟨-, ⟨r0, r1⟩, r2, r3⟩ := fr
  obtain ⟨-, ⟨i0, i1⟩, i2, i3⟩ := fi
  obtain ⟨-, ⟨o0, o1⟩, o2, o3⟩ := fo
  clear hs hv hr hi ho hsum
  rw [← HSUM.out]
  go_enter Tryd.func13, Tryd.ntmps13
  go_wp2_with fail
  go_loopw [5] (fun s5 wr => RTInv n s v r i o w.heap.size (w.heap.size + 1) w s5 wr) (fun s5 _ => 5 - (intOf s5).toNat)
  case atStart =>
    refine ⟨0, by omega, rfl, ?_, ?_, by (repeat (first | with_reducible assumption | (with_reducible exact Below.refl _ _) | ((with_reducible refine Tr.below_alloc ?_ ?_); rotate_left; focus (first | omega | exact Nat.le_refl _)) | (with_reducible refine Tr.below_drew ?_) | (with_reducible refine Tr.below_drewN ?_) | ((with_reducible refine Tr.below_set ?_ ?_); rotate_left; focus (first | omega | (simp; done) | (simp; omega))) | ((with_reducible refine Tr.below_trans ?_ (by assumption) ?_); rotate_left; focus (first | exact Nat.le_refl _ | omega))))⟩
    · (repeat (first | with_reducible assumption | with_reducible refine Tr.blk_drew ?_ | with_reducible refine Tr.blk_drewN ?_ | (refine Tr.blk_at ?_; focus (first | (simp; done) | (simp; omega))) | with_reducible refine Tr.blk_old ?_ | ((with_reducible refine Tr.blk_set_ne ?_ _ ?_); rotate_left; focus (first | (simp; done) | (simp; omega) | (simp; assumption)))))
    · (repeat (first | with_reducible assumption | with_reducible refine Tr.blk_drew ?_ | with_reducible refine Tr.blk_drewN ?_ | (refine Tr.blk_at ?_; focus (first | (simp; done) | (simp; omega))) | with_reducible refine Tr.blk_old ?_ | ((with_reducible refine Tr.blk_set_ne ?_ _ ?_); rotate_left; focus (first | (simp; done) | (simp; omega) | (simp; assumption)))))
  case round =>
    obtain ⟨j, hj, rfl, h1, h4, hB⟩ := hrel
    have l4 := Tr.blk_lt h4
    have c1 := fun o => Tr.cell_blk (o := o) h1
    have H1 := Lib.hid h1; have H4 := Lib.hid h4
    clear h1 h4
    by_cases hlt : j < 5
    · obtain ⟨j', hj'⟩ : ∃ j', j' = j + 1 := ⟨_, rfl⟩
      have HJ := Lib.hid hj'
      clear hj'
      have : j = 0 ∨ j = 1 ∨ j = 2 ∨ j = 3 ∨ j = 4 := by omega
      rcases this with rfl | rfl | rfl | rfl | rfl
      all_goals
        clear hlt hj
        go_wp2_with (go_at_call 22; refine (C_HalfQ _ (by first | exact HS.out | exact HV.out | exact HR.out | exact HI.out | exact HO.out) _).mono ?_; rintro e w2 ⟨rfl, hb2⟩; have b4 := Tr.blk_keep hb2 H4.out; simp only [TA] at b4; have c4 := fun o => Tr.cell_blk (o := o) b4; have f4 := fun o => Tr.frozen_blk (o := o) b4; have l42 := Tr.blk_lt b4; have hne : w2.heap.size ≠ w.heap.size + 1 := (by omega); have b1 := Tr.blk_keep hb2 H1.out; have hB2 := Tr.below_trans hB hb2; have hs2 := hB2.size; have B4 := Lib.hid b4; have B1 := Lib.hid b1; clear b1 b4 c1 hb2)
        go_roundw
        case rel =>
          refine ⟨j', by have := HJ.out; omega, by rw [HJ.out]; go_num, ?_, ?_, ?_⟩
          · have b1 := B1.out
            refine Tr.blk_old ?_
            simp only [Tr.heap_set_other _ ⟨w.heap.size + 1, _, none⟩ _ _ (show w.heap.size + 1 ≠ w.heap.size by omega)]
            exact b1
          · have b4 := B4.out
            refine Tr.blk_old ?_
            simp only [Tr.heap_set_same, b4, Option.map_some, Tr.setObj, HJ.out]
            simp [TA]
          · (repeat (first | with_reducible assumption | (with_reducible exact Below.refl _ _) | ((with_reducible refine Tr.below_alloc ?_ ?_); rotate_left; focus (first | omega | exact Nat.le_refl _)) | (with_reducible refine Tr.below_drew ?_) | (with_reducible refine Tr.below_drewN ?_) | ((with_reducible refine Tr.below_set ?_ ?_); rotate_left; focus (first | omega | (simp; done) | (simp; omega))) | ((with_reducible refine Tr.below_trans ?_ (by assumption) ?_); rotate_left; focus (first | exact Nat.le_refl _ | omega))))
        case measure => simp [intOf]
    · have : j = 5 := by omega
      subst this
      have b4 := H4.out
      have c4 := fun o => Tr.cell_blk (o := o) b4
      have hq : -1152921504606846976 ≤ TA QT s v r i o 5 ∧ TA QT s v r i o 5 ≤ 1152921504606846976 := by simp only [TA]; omega
      have hr : -1152921504606846976 ≤ TA RT s v r i o 5 ∧ TA RT s v r i o 5 ≤ 1152921504606846976 := by simp only [TA]; omega
      have HQ := Lib.hid hq; have HRR := Lib.hid hr
      clear hq hr b4
      go_wp2_with (go_at_call 23; refine (C_Back _ _ HQ.out.1 HQ.out.2 HRR.out.1 HRR.out.2 _).mono ?_; rintro e w3 ⟨rfl, hb3⟩)
      go_ret2
      exact ⟨rfl, Tr.below_trans hB hb3⟩
end Go.Proofs.YtjkfkgpdlflbhaaDoor
