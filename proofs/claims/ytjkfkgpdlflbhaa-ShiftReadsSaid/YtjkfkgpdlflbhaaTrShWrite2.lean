/- Shifts' bytes, all. -/
import Derived.Test.YtjkfkgpdlflbhaaTrShWrite
import Derived.Deep.RegionHeld3
namespace Go.Proofs.Ytjkfkgpdlflbhaa
open Go.RowKit Go.Sort
open Tr (Sl Chg)
set_option linter.unusedVariables false
set_option linter.unusedSimpArgs false

def SWh (x : Sh) : List UInt8 := BE x.next.toNat 5 ++ BE (if x.op then 1 else 0) 1 ++ BE x.cl.length 1
/-- Shifts' bytes. -/
def SW (x : Sh) : List UInt8 := SWh x ++ x.cl.flatMap TW ++ (if x.op then TW x.now else [])

theorem TWs_len (l : List Tot) : (l.flatMap TW).length = 44 * l.length := by
  induction l with
  | nil => rfl
  | cons t l ih => rw [List.flatMap_cons, List.length_append, TW_len, ih, List.length_cons]; omega
theorem sl_at6b {e : TypeId} {w : World} {a : Option Addr} {cap : Nat} {cl : List Tot} (h : Sl e 6 w (.slice a cl.length cap) cl.length (tots cl)) (i : Nat) (hi : i < cl.length) :
    ∃ g off cs fz, a = some ⟨g, off, none⟩ ∧ w.heap[g]? = some (.cells cs e fz) ∧ ∀ W : World, W.heap[g]? = some (.cells cs e fz) → ∀ j, j < 6 → W.cell? ⟨g, off + i * 6 + j, none⟩ = (Tot.cells (cl.getD i .zero))[j]? := by
  obtain ⟨a', cap', hv, hcap, hl, h1, hc⟩ := h
  simp only [Value.slice.injEq] at hv
  obtain ⟨rfl, -, rfl⟩ := hv
  obtain ⟨g, off, cs, fz, rfl, hg, hcs⟩ := hc (by omega)
  refine ⟨g, off, cs, fz, rfl, hg, fun W hW j hj => ?_⟩
  rw [Tr.cell_blk hW, Nat.add_assoc, hcs _ (by omega), tots_at _ _ hi _ hj]
def SWInv (g : Nat) (bs hd : List UInt8) (cl : List Tot) (B : World) (s34 : Value) (wr : World) : Prop :=
  ∃ i : Nat, i ≤ cl.length ∧ s34 = .int .i64 i ∧ Wr wr g (bs ++ hd ++ (cl.take i).flatMap TW) ∧ ChgW g B wr
set_option maxRecDepth 100000 in
set_option maxHeartbeats 8000000 in
theorem C_Write (b g : Nat) (bs : List UInt8) (x : Sh) (w : World) (hx : x.is w b) (ho : x.ok) (h : Wr w g bs) (hlen : bs.length ≤ 1000) :
    Calls Try.prog 35 #[.pointer (some ⟨b, 0, none⟩), .pointer (some ⟨g, 0, none⟩)] w fun e w' => e = .returned (.tuple #[]) ∧ Wr w' g (bs ++ SW x) ∧ ChgW g w w' := by
  obtain ⟨a, cap, hb, hsl⟩ := hx
  obtain ⟨keep, next, op, now, cl⟩ := x
  obtain ⟨⟨k0, k1⟩, ⟨n0, n1⟩, hnow, hall, hl, -⟩ := ho
  dsimp only at *
  obtain ⟨next, rfl⟩ := Int.eq_ofNat_of_zero_le (show 0 ≤ next by omega)
  have hcl : cl.length ≤ 64 := by omega
  have hbl := Tr.blk_lt hb
  have hgl := h.lt
  have hne : b ≠ g := by
    rintro rfl
    obtain ⟨_, h1, _⟩ := h
    rw [hb] at h1
    simp at h1
  have hc := fun o => Tr.cell_blk (o := o) hb
  unfold Sh.cells at hc
  dsimp only at hc
  have H := Lib.hid h; have HB := Lib.hid hb; have HSL := Lib.hid hsl; have HNOW := Lib.hid hnow; have HALL := Lib.hid hall
  clear h hb hsl hnow hall
  cases op with
  | true =>
    have k1 : ∀ W, Wr W g bs → Calls Try.prog 55 #[.pointer (some ⟨g, 0, none⟩), .int .u64 (IntKind.u64.wrap (next : Int)), .int .i64 5] W fun e w' => e = .returned (.pointer (some ⟨g, 0, none⟩)) ∧ Wr w' g (bs ++ BE next 5) ∧ ChgW g W w' := fun W hW => by rw [show IntKind.u64.wrap (next : Int) = next by rw [u64_eq]; omega]; exact C_Number g bs next 5 W hW (by omega) (by omega) (by omega) (by omega)
    have k2 : ∀ W, Wr W g (bs ++ BE next 5) → Calls Try.prog 55 #[.pointer (some ⟨g, 0, none⟩), .int .u64 1, .int .i64 1] W fun e w' => e = .returned (.pointer (some ⟨g, 0, none⟩)) ∧ Wr w' g (bs ++ BE next 5 ++ BE 1 1) ∧ ChgW g W w' := fun W hW => C_Number g _ 1 1 W hW (by decide) (by omega) (by omega) (by simp [BE_len]; omega)
    have k3 : ∀ W, Wr W g (bs ++ BE next 5 ++ BE 1 1) → Calls Try.prog 55 #[.pointer (some ⟨g, 0, none⟩), .int .u64 (IntKind.u64.wrap (cl.length : Int)), .int .i64 1] W fun e w' => e = .returned (.pointer (some ⟨g, 0, none⟩)) ∧ Wr w' g (bs ++ BE next 5 ++ BE 1 1 ++ BE cl.length 1) ∧ ChgW g W w' := fun W hW => by rw [show IntKind.u64.wrap (cl.length : Int) = cl.length by rw [u64_eq]; omega]; exact C_Number g _ cl.length 1 W hW (by omega) (by omega) (by omega) (by simp [BE_len]; omega)
    have K1 := Lib.hid k1; have K2 := Lib.hid k2; have K3 := Lib.hid k3
    clear k1 k2 k3
    go_enter Try.func35, Try.ntmps35
    go_upto_region 4 with fail
    go_cut [28] from 13 to 28 (fun _ wx => Wr wx g (bs ++ (BE next 5 ++ BE 1 1 ++ BE cl.length 1)) ∧ ChgW g w wx)
    case first =>
      have p1 : w.cell? ⟨b, 1, none⟩ = some (.int .i64 next) := hc 1
      have p9 : w.cell? ⟨b, 9, none⟩ = some (.slice a cl.length cap) := hc 9
      clear hc
      go_region_held3 (fun w' => w'.cell? ⟨b, 1, none⟩ = some (.int .i64 next) ∧ w'.cell? ⟨b, 9, none⟩ = some (.slice a cl.length cap)) (first | exact ⟨p1, p9⟩ | exact ⟨p1a, p9a⟩ | exact ⟨p1b, p9b⟩ | exact ⟨p1c, p9c⟩ | fail)
        (first
          | (go_at_call 55; have hk := K3.out w2 hw2; refine Calls.mono hk ?_; rintro e w3 ⟨rfl, hw3, hc3⟩; have b3 := hc3.2 _ _ _ _ B2.out hne (by decide); have p1c : w3.cell? ⟨b, 1, none⟩ = some (.int .i64 next) := Tr.cell_blk b3; have p9c : w3.cell? ⟨b, 9, none⟩ = some (.slice a cl.length cap) := Tr.cell_blk b3; have B3 := Lib.hid b3; clear b3)
          | (go_at_call 55; have hk := K2.out w1 hw1; refine Calls.mono hk ?_; rintro e w2 ⟨rfl, hw2, hc2⟩; have b2 := hc2.2 _ _ _ _ B1.out hne (by decide); have p1b : w2.cell? ⟨b, 1, none⟩ = some (.int .i64 next) := Tr.cell_blk b2; have p9b : w2.cell? ⟨b, 9, none⟩ = some (.slice a cl.length cap) := Tr.cell_blk b2; have B2 := Lib.hid b2; clear b2)
          | (go_at_call 55; have hk := K1.out w.drew (Wr.keep H.out (Tr.below_drew (Below.refl _ _))); refine Calls.mono hk ?_; rintro e w1 ⟨rfl, hw1, hc1⟩; have b1 := hc1.2 _ _ _ _ (Tr.blk_drew HB.out) hne (by decide); have p1a : w1.cell? ⟨b, 1, none⟩ = some (.int .i64 next) := Tr.cell_blk b1; have p9a : w1.cell? ⟨b, 9, none⟩ = some (.slice a cl.length cap) := Tr.cell_blk b1; have B1 := Lib.hid b1; clear b1)
          | fail)
      go_wp2_with fail
      go_meet
      exact ⟨by simpa [List.append_assoc] using hw3, (ChgW.of_below (g := g) (Tr.below_drew (Below.refl _ _)) (Nat.le_of_lt hgl)).trans (hc1.trans (hc2.trans hc3))⟩
    case rest =>
      obtain ⟨hw, hcw⟩ := hcut
      have bx := hcw.2 _ _ _ _ HB.out hne (by decide)
      have cx := fun o => Tr.cell_blk (o := o) bx
      unfold Sh.cells at cx
      dsimp only at cx
      have BX := Lib.hid bx; have HW := Lib.hid hw; have HCW := Lib.hid hcw
      clear bx hc hw hcw K1 K2 K3
      go_wp2_with fail
      go_loopw [34] (fun s34 wr => SWInv g bs (BE next 5 ++ BE 1 1 ++ BE cl.length 1) cl w s34 wr) (fun s34 _ => cl.length - (intOf s34).toNat)
      case atStart => exact ⟨0, Nat.zero_le _, rfl, by simpa using HW.out, HCW.out⟩
      case round =>
        obtain ⟨i, hi, rfl, hw, hcw⟩ := hrel
        have bx := hcw.2 _ _ _ _ HB.out hne (by decide)
        have HWR := Lib.hid hw; have HCR := Lib.hid hcw
        have hgw := hw.lt
        clear hw hcw cx
        by_cases hlt : i < cl.length
        · obtain ⟨sg, off, cs, fz, rfl, hsg, hcell⟩ := sl_at6b HSL.out i hlt
          have hsgne : sg ≠ g := by
            rintro rfl
            obtain ⟨_, h1, _⟩ := H.out
            rw [hsg] at h1
            simp at h1
          have hcw2 := hcell wr (HCR.out.2 _ _ _ _ hsg hsgne (by decide))
          obtain ⟨t, ht⟩ : ∃ t, t = cl.getD i .zero := ⟨_, rfl⟩
          rw [← ht] at hcw2
          have htok : t.ok := by rw [ht]; simp only [List.getD, List.getElem?_eq_getElem hlt, Option.getD_some]; exact HALL.out _ (List.getElem_mem _)
          have htk : (cl.take (i + 1)).flatMap TW = (cl.take i).flatMap TW ++ TW t := by
            rw [List.take_succ_eq_append_getElem hlt, List.flatMap_append, ht]; simp [List.getD, hlt]
          have HTOK := Lib.hid htok; have HTK := Lib.hid htk
          obtain ⟨tn, ts, tv, tr, ti, tq⟩ := t
          simp only [Tot.cells] at hcw2
          have q0 := hcw2 0 (by omega)
          have q1 := hcw2 1 (by omega)
          have q2 := hcw2 2 (by omega)
          have q3 := hcw2 3 (by omega)
          have q4 := hcw2 4 (by omega)
          have q5 := hcw2 5 (by omega)
          simp only [Nat.add_zero] at q0 q1 q2 q3 q4 q5
          clear hcw2 hcell ht htok htk bx
          have hC : ∀ W, Below wr.heap.size wr W → Calls Try.prog 56 #[.agg #[.int .i64 tn, .int .i64 ts, .int .i64 tv, .int .i64 tr, .int .i64 ti, .int .i64 tq], .pointer (some ⟨g, 0, none⟩)] W fun e w' => e = .returned (.tuple #[]) ∧ Wr w' g (bs ++ (BE next 5 ++ BE 1 1 ++ BE cl.length 1) ++ (cl.take i).flatMap TW ++ TW ⟨tn, ts, tv, tr, ti, tq⟩) ∧ ChgW g W w' :=
            fun W hW => C_TWrite g _ ⟨tn, ts, tv, tr, ti, tq⟩ W (HWR.out.keep hW) HTOK.out (by simp only [List.length_append, TWs_len, List.length_take, BE_len _ 5 (by omega), BE_len _ 1 (by omega)]; omega)
          have HC := Lib.hid hC
          clear hC
          go_wp2_with (go_at_call 56; refine (HC.out _ ?_).mono ?_; (focus ((repeat (first | with_reducible assumption | (with_reducible exact Below.refl _ _) | ((with_reducible refine Tr.below_alloc ?_ ?_); rotate_left; focus (first | omega | exact Nat.le_refl _)) | (with_reducible refine Tr.below_drew ?_) | (with_reducible refine Tr.below_drewN ?_) | ((with_reducible refine Tr.below_set ?_ ?_); rotate_left; focus (first | omega | (simp; done) | (simp; omega))) | ((with_reducible refine Tr.below_trans ?_ (by assumption) ?_); rotate_left; focus (first | exact Nat.le_refl _ | omega)))))); rintro e w2 ⟨rfl, hw2, hc2⟩)
          go_roundw
          case rel =>
            refine ⟨i + 1, by omega, by go_num, by rw [HTK.out, ← List.append_assoc]; exact hw2, HCR.out.trans ((ChgW.of_below (Tr.below_alloc (Below.refl _ _) (Nat.le_refl _)) (by omega)).trans hc2)⟩
          case measure => simp [intOf]; omega
        · have cx := fun o => Tr.cell_blk (o := o) bx
          unfold Sh.cells at cx
          dsimp only at cx
          have hie : i = cl.length := by omega
          subst hie
          have hC : ∀ W, Below wr.heap.size wr W → Calls Try.prog 56 #[now.val, .pointer (some ⟨g, 0, none⟩)] W fun e w' => e = .returned (.tuple #[]) ∧ Wr w' g (bs ++ (BE next 5 ++ BE 1 1 ++ BE cl.length 1) ++ (cl.take cl.length).flatMap TW ++ TW now) ∧ ChgW g W w' :=
            fun W hW => C_TWrite g _ now W (HWR.out.keep hW) HNOW.out (by simp only [List.length_append, TWs_len, List.length_take, BE_len _ 5 (by omega), BE_len _ 1 (by omega)]; omega)
          have HC := Lib.hid hC
          clear hC bx
          obtain ⟨n, s, v, r, io, o⟩ := now
          unfold Tot.val at HC
          dsimp only at HC cx
          go_wp2_with (go_at_call 56; refine (HC.out _ ?_).mono ?_; (focus ((repeat (first | with_reducible assumption | (with_reducible exact Below.refl _ _) | ((with_reducible refine Tr.below_alloc ?_ ?_); rotate_left; focus (first | omega | exact Nat.le_refl _)) | (with_reducible refine Tr.below_drew ?_) | (with_reducible refine Tr.below_drewN ?_) | ((with_reducible refine Tr.below_set ?_ ?_); rotate_left; focus (first | omega | (simp; done) | (simp; omega))) | ((with_reducible refine Tr.below_trans ?_ (by assumption) ?_); rotate_left; focus (first | exact Nat.le_refl _ | omega)))))); rintro e w2 ⟨rfl, hw2, hc2⟩)
          go_end0
          refine ⟨rfl, ?_, HCR.out.trans hc2⟩
          unfold SW SWh
          have h := hw2
          rw [List.take_length] at h
          simpa [List.append_assoc] using h
  | false =>
    have k1 : ∀ W, Wr W g bs → Calls Try.prog 55 #[.pointer (some ⟨g, 0, none⟩), .int .u64 (IntKind.u64.wrap (next : Int)), .int .i64 5] W fun e w' => e = .returned (.pointer (some ⟨g, 0, none⟩)) ∧ Wr w' g (bs ++ BE next 5) ∧ ChgW g W w' := fun W hW => by rw [show IntKind.u64.wrap (next : Int) = next by rw [u64_eq]; omega]; exact C_Number g bs next 5 W hW (by omega) (by omega) (by omega) (by omega)
    have k2 : ∀ W, Wr W g (bs ++ BE next 5) → Calls Try.prog 55 #[.pointer (some ⟨g, 0, none⟩), .int .u64 0, .int .i64 1] W fun e w' => e = .returned (.pointer (some ⟨g, 0, none⟩)) ∧ Wr w' g (bs ++ BE next 5 ++ BE 0 1) ∧ ChgW g W w' := fun W hW => C_Number g _ 0 1 W hW (by decide) (by omega) (by omega) (by simp [BE_len]; omega)
    have k3 : ∀ W, Wr W g (bs ++ BE next 5 ++ BE 0 1) → Calls Try.prog 55 #[.pointer (some ⟨g, 0, none⟩), .int .u64 (IntKind.u64.wrap (cl.length : Int)), .int .i64 1] W fun e w' => e = .returned (.pointer (some ⟨g, 0, none⟩)) ∧ Wr w' g (bs ++ BE next 5 ++ BE 0 1 ++ BE cl.length 1) ∧ ChgW g W w' := fun W hW => by rw [show IntKind.u64.wrap (cl.length : Int) = cl.length by rw [u64_eq]; omega]; exact C_Number g _ cl.length 1 W hW (by omega) (by omega) (by omega) (by simp [BE_len]; omega)
    have K1 := Lib.hid k1; have K2 := Lib.hid k2; have K3 := Lib.hid k3
    clear k1 k2 k3
    go_enter Try.func35, Try.ntmps35
    go_upto_region 4 with fail
    go_cut [28] from 13 to 28 (fun _ wx => Wr wx g (bs ++ (BE next 5 ++ BE 0 1 ++ BE cl.length 1)) ∧ ChgW g w wx)
    case first =>
      have p1 : w.cell? ⟨b, 1, none⟩ = some (.int .i64 next) := hc 1
      have p9 : w.cell? ⟨b, 9, none⟩ = some (.slice a cl.length cap) := hc 9
      clear hc
      go_region_held3 (fun w' => w'.cell? ⟨b, 1, none⟩ = some (.int .i64 next) ∧ w'.cell? ⟨b, 9, none⟩ = some (.slice a cl.length cap)) (first | exact ⟨p1, p9⟩ | exact ⟨p1a, p9a⟩ | exact ⟨p1b, p9b⟩ | exact ⟨p1c, p9c⟩ | fail)
        (first
          | (go_at_call 55; have hk := K3.out w2 hw2; refine Calls.mono hk ?_; rintro e w3 ⟨rfl, hw3, hc3⟩; have b3 := hc3.2 _ _ _ _ B2.out hne (by decide); have p1c : w3.cell? ⟨b, 1, none⟩ = some (.int .i64 next) := Tr.cell_blk b3; have p9c : w3.cell? ⟨b, 9, none⟩ = some (.slice a cl.length cap) := Tr.cell_blk b3; have B3 := Lib.hid b3; clear b3)
          | (go_at_call 55; have hk := K2.out w1 hw1; refine Calls.mono hk ?_; rintro e w2 ⟨rfl, hw2, hc2⟩; have b2 := hc2.2 _ _ _ _ B1.out hne (by decide); have p1b : w2.cell? ⟨b, 1, none⟩ = some (.int .i64 next) := Tr.cell_blk b2; have p9b : w2.cell? ⟨b, 9, none⟩ = some (.slice a cl.length cap) := Tr.cell_blk b2; have B2 := Lib.hid b2; clear b2)
          | (go_at_call 55; have hk := K1.out w.drew (Wr.keep H.out (Tr.below_drew (Below.refl _ _))); refine Calls.mono hk ?_; rintro e w1 ⟨rfl, hw1, hc1⟩; have b1 := hc1.2 _ _ _ _ (Tr.blk_drew HB.out) hne (by decide); have p1a : w1.cell? ⟨b, 1, none⟩ = some (.int .i64 next) := Tr.cell_blk b1; have p9a : w1.cell? ⟨b, 9, none⟩ = some (.slice a cl.length cap) := Tr.cell_blk b1; have B1 := Lib.hid b1; clear b1)
          | fail)
      go_wp2_with fail
      go_meet
      exact ⟨by simpa [List.append_assoc] using hw3, (ChgW.of_below (g := g) (Tr.below_drew (Below.refl _ _)) (Nat.le_of_lt hgl)).trans (hc1.trans (hc2.trans hc3))⟩
    case rest =>
      obtain ⟨hw, hcw⟩ := hcut
      have bx := hcw.2 _ _ _ _ HB.out hne (by decide)
      have cx := fun o => Tr.cell_blk (o := o) bx
      unfold Sh.cells at cx
      dsimp only at cx
      have BX := Lib.hid bx; have HW := Lib.hid hw; have HCW := Lib.hid hcw
      clear bx hc hw hcw K1 K2 K3
      go_wp2_with fail
      go_loopw [34] (fun s34 wr => SWInv g bs (BE next 5 ++ BE 0 1 ++ BE cl.length 1) cl w s34 wr) (fun s34 _ => cl.length - (intOf s34).toNat)
      case atStart => exact ⟨0, Nat.zero_le _, rfl, by simpa using HW.out, HCW.out⟩
      case round =>
        obtain ⟨i, hi, rfl, hw, hcw⟩ := hrel
        have bx := hcw.2 _ _ _ _ HB.out hne (by decide)
        have HWR := Lib.hid hw; have HCR := Lib.hid hcw
        have hgw := hw.lt
        clear hw hcw cx
        by_cases hlt : i < cl.length
        · obtain ⟨sg, off, cs, fz, rfl, hsg, hcell⟩ := sl_at6b HSL.out i hlt
          have hsgne : sg ≠ g := by
            rintro rfl
            obtain ⟨_, h1, _⟩ := H.out
            rw [hsg] at h1
            simp at h1
          have hcw2 := hcell wr (HCR.out.2 _ _ _ _ hsg hsgne (by decide))
          obtain ⟨t, ht⟩ : ∃ t, t = cl.getD i .zero := ⟨_, rfl⟩
          rw [← ht] at hcw2
          have htok : t.ok := by rw [ht]; simp only [List.getD, List.getElem?_eq_getElem hlt, Option.getD_some]; exact HALL.out _ (List.getElem_mem _)
          have htk : (cl.take (i + 1)).flatMap TW = (cl.take i).flatMap TW ++ TW t := by
            rw [List.take_succ_eq_append_getElem hlt, List.flatMap_append, ht]; simp [List.getD, hlt]
          have HTOK := Lib.hid htok; have HTK := Lib.hid htk
          obtain ⟨tn, ts, tv, tr, ti, tq⟩ := t
          simp only [Tot.cells] at hcw2
          have q0 := hcw2 0 (by omega)
          have q1 := hcw2 1 (by omega)
          have q2 := hcw2 2 (by omega)
          have q3 := hcw2 3 (by omega)
          have q4 := hcw2 4 (by omega)
          have q5 := hcw2 5 (by omega)
          simp only [Nat.add_zero] at q0 q1 q2 q3 q4 q5
          clear hcw2 hcell ht htok htk bx
          have hC : ∀ W, Below wr.heap.size wr W → Calls Try.prog 56 #[.agg #[.int .i64 tn, .int .i64 ts, .int .i64 tv, .int .i64 tr, .int .i64 ti, .int .i64 tq], .pointer (some ⟨g, 0, none⟩)] W fun e w' => e = .returned (.tuple #[]) ∧ Wr w' g (bs ++ (BE next 5 ++ BE 0 1 ++ BE cl.length 1) ++ (cl.take i).flatMap TW ++ TW ⟨tn, ts, tv, tr, ti, tq⟩) ∧ ChgW g W w' :=
            fun W hW => C_TWrite g _ ⟨tn, ts, tv, tr, ti, tq⟩ W (HWR.out.keep hW) HTOK.out (by simp only [List.length_append, TWs_len, List.length_take, BE_len _ 5 (by omega), BE_len _ 1 (by omega)]; omega)
          have HC := Lib.hid hC
          clear hC
          go_wp2_with (go_at_call 56; refine (HC.out _ ?_).mono ?_; (focus ((repeat (first | with_reducible assumption | (with_reducible exact Below.refl _ _) | ((with_reducible refine Tr.below_alloc ?_ ?_); rotate_left; focus (first | omega | exact Nat.le_refl _)) | (with_reducible refine Tr.below_drew ?_) | (with_reducible refine Tr.below_drewN ?_) | ((with_reducible refine Tr.below_set ?_ ?_); rotate_left; focus (first | omega | (simp; done) | (simp; omega))) | ((with_reducible refine Tr.below_trans ?_ (by assumption) ?_); rotate_left; focus (first | exact Nat.le_refl _ | omega)))))); rintro e w2 ⟨rfl, hw2, hc2⟩)
          go_roundw
          case rel =>
            refine ⟨i + 1, by omega, by go_num, by rw [HTK.out, ← List.append_assoc]; exact hw2, HCR.out.trans ((ChgW.of_below (Tr.below_alloc (Below.refl _ _) (Nat.le_refl _)) (by omega)).trans hc2)⟩
          case measure => simp [intOf]; omega
        · have cx := fun o => Tr.cell_blk (o := o) bx
          unfold Sh.cells at cx
          dsimp only at cx
          have hie : i = cl.length := by omega
          subst hie
          clear bx
          go_wp2_with fail
          go_end0
          refine ⟨rfl, ?_, HCR.out⟩
          unfold SW SWh
          have h := HWR.out
          rw [List.take_length] at h
          simpa [List.append_assoc] using h
end Go.Proofs.Ytjkfkgpdlflbhaa
