/- Shifts' bytes. -/
import Derived.Test.YtjkfkgpdlflbhaaTrCur
import Derived.Test.YtjkfkgpdlflbhaaTrSame
namespace Go.Proofs.Ytjkfkgpdlflbhaa
open Go.RowKit Go.Sort
open Tr (Sl Chg)
set_option linter.unusedVariables false
set_option linter.unusedSimpArgs false

set_option maxRecDepth 100000 in
set_option maxHeartbeats 4000000 in
theorem C_Bytes (g : Nat) (bs : List UInt8) (w : World) (h : Wr w g bs) (hne : 0 < bs.length) :
    Calls Try.prog 36 #[.pointer (some ⟨g, 0, none⟩)] w fun e w' => e = .returned (.tuple #[.string ⟨bs.toArray⟩, .int .i64 0]) ∧ Below w.heap.size w w' := by
  obtain ⟨sv, hb, hown⟩ := h
  obtain ⟨a, cap, rfl, hcell⟩ := Tr.ownsRow_cells hown
  obtain ⟨b, rfl, hbl, hbb, hcc⟩ := hcell hne
  have hconv : (convert 42 9 (.slice (some ⟨b, 0, none⟩) bs.length cap)).run Try.prog w = .ok (.string ⟨bs.toArray⟩) w := by
    refine Go.run_convert_bytes_back (P := Try.prog) w 42 9 5 ⟨b, 0, none⟩ cap bs Try.underlying42 Try.underlying5 Try.underlying9 (fun j hj => ?_)
    rw [show (⟨b, 0, none⟩ : Addr).add j = ⟨b, j, none⟩ by (unfold Addr.add; split <;> simp_all), hcc j (by omega)]
    simp [bcells, hj]
  have hc := fun o => Tr.cell_blk (o := o) hb
  clear hb hown hcell hcc
  go_enter Try.func36, Try.ntmps36
  go_wp2_with fail
  go_ret2
  exact ⟨rfl, by (repeat (first | with_reducible assumption | (with_reducible exact Below.refl _ _) | ((with_reducible refine Tr.below_alloc ?_ ?_); rotate_left; focus (first | omega | exact Nat.le_refl _)) | (with_reducible refine Tr.below_drew ?_) | (with_reducible refine Tr.below_drewN ?_) | ((with_reducible refine Tr.below_set ?_ ?_); rotate_left; focus (first | omega | (simp; done) | (simp; omega))) | ((with_reducible refine Tr.below_trans ?_ (by assumption) ?_); rotate_left; focus (first | exact Nat.le_refl _ | omega))))⟩

def TW5 (t : Tot) (i : Nat) : List UInt8 := (([t.s, t.v, t.r, t.i, t.o].map Int.toNat).take i).flatMap fun n => BE n 8
/-- Totals' bytes. -/
def TW (t : Tot) : List UInt8 := BE t.n.toNat 4 ++ TW5 t 5
theorem TW_len (t : Tot) : (TW t).length = 44 := by
  unfold TW TW5
  simp [List.flatMap, BE_len]
def TWInv (g : Nat) (bs : List UInt8) (t : Tot) (B : World) (s22 : Value) (wr : World) : Prop :=
  ∃ i : Nat, i ≤ 5 ∧ s22 = .int .i64 i ∧ Wr wr g (bs ++ BE t.n.toNat 4 ++ TW5 t i) ∧ ChgW g B wr

set_option maxRecDepth 100000 in
set_option maxHeartbeats 8000000 in
theorem C_TWrite (g : Nat) (bs : List UInt8) (t : Tot) (w : World) (h : Wr w g bs) (ht : t.ok) (hlen : bs.length ≤ 1000000) :
    Calls Try.prog 56 #[t.val, .pointer (some ⟨g, 0, none⟩)] w fun e w' => e = .returned (.tuple #[]) ∧ Wr w' g (bs ++ TW t) ∧ ChgW g w w' := by
  obtain ⟨n, s, v, r, i, o⟩ := t
  obtain ⟨⟨n0, n1⟩, ⟨s0, s1⟩, ⟨v0, v1⟩, ⟨r0, r1⟩, ⟨i0, i1⟩, ⟨o0, o1⟩⟩ := ht
  dsimp only at *
  obtain ⟨n, rfl⟩ := Int.eq_ofNat_of_zero_le n0
  obtain ⟨s, rfl⟩ := Int.eq_ofNat_of_zero_le s0
  obtain ⟨v, rfl⟩ := Int.eq_ofNat_of_zero_le v0
  obtain ⟨r, rfl⟩ := Int.eq_ofNat_of_zero_le r0
  obtain ⟨i, rfl⟩ := Int.eq_ofNat_of_zero_le i0
  obtain ⟨o, rfl⟩ := Int.eq_ofNat_of_zero_le o0
  have hgl := h.lt
  have hN : ∀ W, Wr W g bs → _ := fun W hW => C_Number g bs n 4 W hW (by omega) (by omega) (by omega) (by omega)
  have HN := Lib.hid hN; have H := Lib.hid h
  clear h hN
  unfold Tot.val
  dsimp only
  go_enter Try.func56, Try.ntmps56
  go_wp2_with (go_at_call 55; refine (HN.out _ (Wr.keep H.out (Tr.below_alloc (Below.refl _ _) (Nat.le_refl _)))).mono ?_; rintro e w1 ⟨rfl, hw1, hc1⟩; have b2 := hc1.2 _ _ _ _ (Tr.blk_new _ _) (by omega) (by decide); have c2 := fun o => Tr.cell_blk (o := o) b2; have HC1 := Lib.hid hc1; clear b2 hc1)
  clear c2
  go_loopw [22] (fun s22 wr => TWInv g bs ⟨n, s, v, r, i, o⟩ w s22 wr) (fun s22 _ => 5 - (intOf s22).toNat)
  case atStart => exact ⟨0, by omega, rfl, by simpa [TW5] using hw1, (ChgW.of_below (Tr.below_alloc (Below.refl _ _) (Nat.le_refl _)) (by omega)).trans HC1.out⟩
  case round =>
    obtain ⟨j, hj, rfl, hw, hc⟩ := hrel
    by_cases hlt : j < 5
    · have hlen2 : (bs ++ BE n 4 ++ TW5 ⟨n, s, v, r, i, o⟩ j).length ≤ 1000000000 := by
        have : j = 0 ∨ j = 1 ∨ j = 2 ∨ j = 3 ∨ j = 4 := by omega
        rcases this with rfl | rfl | rfl | rfl | rfl <;> simp [TW5, BE_len] <;> omega
      have HW := Lib.hid hw; have HC := Lib.hid hc; have HLEN := Lib.hid hlen2
      clear hw hc hlen2 hw1
      have hx0 : ∀ W, (Instr.index 138 (.agg #[.int .i64 (s : Int), .int .i64 (v : Int), .int .i64 (r : Int), .int .i64 (i : Int), .int .i64 (o : Int)]) (.int .i64 0)).run Try.prog W = .ok (.int .i64 (s : Int)) W := fun W => by kernel_rfl
      have hx1 : ∀ W, (Instr.index 138 (.agg #[.int .i64 (s : Int), .int .i64 (v : Int), .int .i64 (r : Int), .int .i64 (i : Int), .int .i64 (o : Int)]) (.int .i64 1)).run Try.prog W = .ok (.int .i64 (v : Int)) W := fun W => by kernel_rfl
      have hx2 : ∀ W, (Instr.index 138 (.agg #[.int .i64 (s : Int), .int .i64 (v : Int), .int .i64 (r : Int), .int .i64 (i : Int), .int .i64 (o : Int)]) (.int .i64 2)).run Try.prog W = .ok (.int .i64 (r : Int)) W := fun W => by kernel_rfl
      have hx3 : ∀ W, (Instr.index 138 (.agg #[.int .i64 (s : Int), .int .i64 (v : Int), .int .i64 (r : Int), .int .i64 (i : Int), .int .i64 (o : Int)]) (.int .i64 3)).run Try.prog W = .ok (.int .i64 (i : Int)) W := fun W => by kernel_rfl
      have hx4 : ∀ W, (Instr.index 138 (.agg #[.int .i64 (s : Int), .int .i64 (v : Int), .int .i64 (r : Int), .int .i64 (i : Int), .int .i64 (o : Int)]) (.int .i64 4)).run Try.prog W = .ok (.int .i64 (o : Int)) W := fun W => by kernel_rfl
      have : j = 0 ∨ j = 1 ∨ j = 2 ∨ j = 3 ∨ j = 4 := by omega
      rcases this with rfl | rfl | rfl | rfl | rfl
      all_goals
        go_wp2_with (go_at_call 70; refine (C_Signed g _ _ _ HW.out (by omega) HLEN.out).mono ?_; rintro e w2 ⟨rfl, hw2, hc2⟩)
        go_roundw
        case rel =>
          refine ⟨_, (show (_ : Nat) ≤ 5 from by decide), rfl, ?_, HC.out.trans hc2⟩
          have h := hw2
          simpa [TW5] using h
        case measure => simp [intOf]
    · have h5 : j = 5 := by omega
      subst h5
      clear hw1
      go_wp2_with fail
      go_end0
      refine ⟨rfl, ?_, hc⟩
      have h := hw
      unfold TW
      rwa [List.append_assoc] at h
end Go.Proofs.Ytjkfkgpdlflbhaa
