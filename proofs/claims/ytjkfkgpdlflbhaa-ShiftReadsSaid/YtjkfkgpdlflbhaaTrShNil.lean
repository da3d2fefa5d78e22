/- Shifts' bytes, to a nil writer. -/
import Derived.Test.YtjkfkgpdlflbhaaTrShWrite2
import Derived.Deep.RegionHeld3
namespace Go.Proofs.Ytjkfkgpdlflbhaa
open Go.RowKit Go.Sort
open Tr (Sl Chg)
set_option linter.unusedVariables false
set_option linter.unusedSimpArgs false

set_option maxRecDepth 100000 in
set_option maxHeartbeats 8000000 in
theorem C_TWrite_nil (t : Tot) (w : World) (ht : t.ok) :
    Calls Try.prog 56 #[t.val, .pointer none] w fun e w' => e = .returned (.tuple #[]) ∧ Below w.heap.size w w' := by
  obtain ⟨n, s, v, r, i, o⟩ := t
  obtain ⟨⟨n0, n1⟩, ⟨s0, s1⟩, ⟨v0, v1⟩, ⟨r0, r1⟩, ⟨i0, i1⟩, ⟨o0, o1⟩⟩ := ht
  dsimp only at *
  obtain ⟨n, rfl⟩ := Int.eq_ofNat_of_zero_le n0
  obtain ⟨s, rfl⟩ := Int.eq_ofNat_of_zero_le s0
  obtain ⟨v, rfl⟩ := Int.eq_ofNat_of_zero_le v0
  obtain ⟨r, rfl⟩ := Int.eq_ofNat_of_zero_le r0
  obtain ⟨i, rfl⟩ := Int.eq_ofNat_of_zero_le i0
  obtain ⟨o, rfl⟩ := Int.eq_ofNat_of_zero_le o0
  have hN : ∀ W, _ := fun W => C_Number_nil n 4 W (by omega) (by omega) (by omega)
  have HN := Lib.hid hN
  clear hN
  unfold Tot.val
  dsimp only
  go_enter Try.func56, Try.ntmps56
  go_wp2_with (go_at_call 55; refine (HN.out _).mono ?_; rintro e w1 ⟨rfl, hc1⟩; have b2 := Tr.blk_keep hc1 (Tr.blk_new _ _); have c2 := fun o => Tr.cell_blk (o := o) b2; have HC1 := Lib.hid hc1; clear b2 hc1)
  clear c2
  go_loopw [22] (fun s22 wr => ∃ i : Nat, i ≤ 5 ∧ s22 = .int .i64 i ∧ Below w.heap.size w wr) (fun s22 _ => 5 - (intOf s22).toNat)
  case atStart => exact ⟨0, by omega, rfl, Tr.below_trans (Tr.below_alloc (Below.refl _ _) (Nat.le_refl _)) HC1.out (by simp)⟩
  case round =>
    obtain ⟨j, hj, rfl, hc⟩ := hrel
    by_cases hlt : j < 5
    · have HC := Lib.hid hc
      clear hc
      have hx0 : ∀ W, (Instr.index 138 (.agg #[.int .i64 (s : Int), .int .i64 (v : Int), .int .i64 (r : Int), .int .i64 (i : Int), .int .i64 (o : Int)]) (.int .i64 0)).run Try.prog W = .ok (.int .i64 (s : Int)) W := fun W => by kernel_rfl
      have hx1 : ∀ W, (Instr.index 138 (.agg #[.int .i64 (s : Int), .int .i64 (v : Int), .int .i64 (r : Int), .int .i64 (i : Int), .int .i64 (o : Int)]) (.int .i64 1)).run Try.prog W = .ok (.int .i64 (v : Int)) W := fun W => by kernel_rfl
      have hx2 : ∀ W, (Instr.index 138 (.agg #[.int .i64 (s : Int), .int .i64 (v : Int), .int .i64 (r : Int), .int .i64 (i : Int), .int .i64 (o : Int)]) (.int .i64 2)).run Try.prog W = .ok (.int .i64 (r : Int)) W := fun W => by kernel_rfl
      have hx3 : ∀ W, (Instr.index 138 (.agg #[.int .i64 (s : Int), .int .i64 (v : Int), .int .i64 (r : Int), .int .i64 (i : Int), .int .i64 (o : Int)]) (.int .i64 3)).run Try.prog W = .ok (.int .i64 (i : Int)) W := fun W => by kernel_rfl
      have hx4 : ∀ W, (Instr.index 138 (.agg #[.int .i64 (s : Int), .int .i64 (v : Int), .int .i64 (r : Int), .int .i64 (i : Int), .int .i64 (o : Int)]) (.int .i64 4)).run Try.prog W = .ok (.int .i64 (o : Int)) W := fun W => by kernel_rfl
      have : j = 0 ∨ j = 1 ∨ j = 2 ∨ j = 3 ∨ j = 4 := by omega
      rcases this with rfl | rfl | rfl | rfl | rfl
      all_goals
        go_wp2_with (go_at_call 70; refine (C_Signed_nil _ _ (by omega)).mono ?_; rintro e w2 ⟨rfl, hc2⟩)
        go_roundw
        case rel => exact ⟨_, (show (_ : Nat) ≤ 5 from by decide), rfl, Tr.below_trans HC.out hc2⟩
        case measure => simp [intOf]
    · go_wp2_with fail
      go_end0
      exact ⟨rfl, hc⟩

set_option maxRecDepth 100000 in
set_option maxHeartbeats 8000000 in
theorem C_Write_nil (b : Nat) (x : Sh) (w : World) (hx : x.is w b) (ho : x.ok) :
    Calls Try.prog 35 #[.pointer (some ⟨b, 0, none⟩), .pointer none] w fun e w' => e = .returned (.tuple #[]) ∧ Below w.heap.size w w' := by
  obtain ⟨a, cap, hb, hsl⟩ := hx
  obtain ⟨keep, next, op, now, cl⟩ := x
  obtain ⟨⟨k0, k1⟩, ⟨n0, n1⟩, hnow, hall, hl, -⟩ := ho
  dsimp only at *
  obtain ⟨next, rfl⟩ := Int.eq_ofNat_of_zero_le (show 0 ≤ next by omega)
  have hcl : cl.length ≤ 64 := by omega
  have hbl := Tr.blk_lt hb
  have hc := fun o => Tr.cell_blk (o := o) hb
  unfold Sh.cells at hc
  dsimp only at hc
  have HB := Lib.hid hb; have HSL := Lib.hid hsl; have HNOW := Lib.hid hnow; have HALL := Lib.hid hall
  clear hb hsl hnow hall
  cases op with
  | true =>
    have k1 : ∀ W, Calls Try.prog 55 #[.pointer none, .int .u64 (IntKind.u64.wrap (next : Int)), .int .i64 5] W fun e w' => e = .returned (.pointer none) ∧ Below W.heap.size W w' := fun W => by rw [show IntKind.u64.wrap (next : Int) = next by rw [u64_eq]; omega]; exact C_Number_nil next 5 W (by omega) (by omega) (by omega)
    have k2 : ∀ W, Calls Try.prog 55 #[.pointer none, .int .u64 1, .int .i64 1] W fun e w' => e = .returned (.pointer none) ∧ Below W.heap.size W w' := fun W => C_Number_nil 1 1 W (by decide) (by omega) (by omega)
    have k3 : ∀ W, Calls Try.prog 55 #[.pointer none, .int .u64 (IntKind.u64.wrap (cl.length : Int)), .int .i64 1] W fun e w' => e = .returned (.pointer none) ∧ Below W.heap.size W w' := fun W => by rw [show IntKind.u64.wrap (cl.length : Int) = cl.length by rw [u64_eq]; omega]; exact C_Number_nil cl.length 1 W (by omega) (by omega) (by omega)
    have K1 := Lib.hid k1; have K2 := Lib.hid k2; have K3 := Lib.hid k3
    clear k1 k2 k3
    go_enter Try.func35, Try.ntmps35
    go_upto_region 4 with fail
    go_cut [28] from 13 to 28 (fun _ wx => Below w.heap.size w wx)
    case first =>
      have p1 : w.cell? ⟨b, 1, none⟩ = some (.int .i64 next) := hc 1
      have p9 : w.cell? ⟨b, 9, none⟩ = some (.slice a cl.length cap) := hc 9
      clear hc
      go_region_held3 (fun w' => w'.cell? ⟨b, 1, none⟩ = some (.int .i64 next) ∧ w'.cell? ⟨b, 9, none⟩ = some (.slice a cl.length cap)) (first | exact ⟨p1, p9⟩ | exact ⟨p1a, p9a⟩ | exact ⟨p1b, p9b⟩ | exact ⟨p1c, p9c⟩ | fail)
        (first
          | (go_at_call 55; have hk := K3.out w2; refine Calls.mono hk ?_; rintro e w3 ⟨rfl, hc3⟩; have b3 := Tr.blk_keep hc3 B2.out; have p1c : w3.cell? ⟨b, 1, none⟩ = some (.int .i64 next) := Tr.cell_blk b3; have p9c : w3.cell? ⟨b, 9, none⟩ = some (.slice a cl.length cap) := Tr.cell_blk b3; have B3 := Lib.hid b3; clear b3)
          | (go_at_call 55; have hk := K2.out w1; refine Calls.mono hk ?_; rintro e w2 ⟨rfl, hc2⟩; have b2 := Tr.blk_keep hc2 B1.out; have p1b : w2.cell? ⟨b, 1, none⟩ = some (.int .i64 next) := Tr.cell_blk b2; have p9b : w2.cell? ⟨b, 9, none⟩ = some (.slice a cl.length cap) := Tr.cell_blk b2; have B2 := Lib.hid b2; clear b2)
          | (go_at_call 55; have hk := K1.out w.drew; refine Calls.mono hk ?_; rintro e w1 ⟨rfl, hc1⟩; have b1 := Tr.blk_keep hc1 (Tr.blk_drew HB.out); have p1a : w1.cell? ⟨b, 1, none⟩ = some (.int .i64 next) := Tr.cell_blk b1; have p9a : w1.cell? ⟨b, 9, none⟩ = some (.slice a cl.length cap) := Tr.cell_blk b1; have B1 := Lib.hid b1; clear b1)
          | fail)
      go_wp2_with fail
      go_meet
      exact Tr.below_trans (Tr.below_trans (Tr.below_trans (Tr.below_drew (Below.refl _ _)) hc1) hc2) hc3
    case rest =>
      have bx := Tr.blk_keep hcut HB.out
      have cx := fun o => Tr.cell_blk (o := o) bx
      unfold Sh.cells at cx
      dsimp only at cx
      have BX := Lib.hid bx; have HCW := Lib.hid hcut
      clear bx hc hcut K1 K2 K3
      go_wp2_with fail
      go_loopw [34] (fun s34 wr => ∃ i : Nat, i ≤ cl.length ∧ s34 = .int .i64 i ∧ Below w.heap.size w wr) (fun s34 _ => cl.length - (intOf s34).toNat)
      case atStart => exact ⟨0, Nat.zero_le _, rfl, HCW.out⟩
      case round =>
        obtain ⟨i, hi, rfl, hcw⟩ := hrel
        have bx := Tr.blk_keep hcw HB.out
        have HCR := Lib.hid hcw
        clear hcw cx
        by_cases hlt : i < cl.length
        · obtain ⟨sg, off, cs, fz, rfl, hsg, hcell⟩ := sl_at6b HSL.out i hlt
          have hcw2 := hcell wr (Tr.blk_keep HCR.out hsg)
          obtain ⟨t, ht⟩ : ∃ t, t = cl.getD i .zero := ⟨_, rfl⟩
          rw [← ht] at hcw2
          have htok : t.ok := by rw [ht]; simp only [List.getD, List.getElem?_eq_getElem hlt, Option.getD_some]; exact HALL.out _ (List.getElem_mem _)
          have HTOK := Lib.hid htok
          obtain ⟨tn, ts, tv, tr, ti, tq⟩ := t
          simp only [Tot.cells] at hcw2
          have q0 := hcw2 0 (by omega)
          have q1 := hcw2 1 (by omega)
          have q2 := hcw2 2 (by omega)
          have q3 := hcw2 3 (by omega)
          have q4 := hcw2 4 (by omega)
          have q5 := hcw2 5 (by omega)
          simp only [Nat.add_zero] at q0 q1 q2 q3 q4 q5
          clear hcw2 hcell ht htok bx
          have hC : ∀ W, Calls Try.prog 56 #[.agg #[.int .i64 tn, .int .i64 ts, .int .i64 tv, .int .i64 tr, .int .i64 ti, .int .i64 tq], .pointer none] W fun e w' => e = .returned (.tuple #[]) ∧ Below W.heap.size W w' :=
            fun W => C_TWrite_nil ⟨tn, ts, tv, tr, ti, tq⟩ W HTOK.out
          have HC := Lib.hid hC
          clear hC
          go_wp2_with (go_at_call 56; refine (HC.out _).mono ?_; rintro e w2 ⟨rfl, hc2⟩)
          go_roundw
          case rel =>
            refine ⟨i + 1, by omega, by go_num, Tr.below_trans (Tr.below_alloc HCR.out (Nat.le_refl _)) hc2⟩
          case measure => simp [intOf]; omega
        · have cx := fun o => Tr.cell_blk (o := o) bx
          unfold Sh.cells at cx
          dsimp only at cx
          clear bx
          have hC : ∀ W, Calls Try.prog 56 #[now.val, .pointer none] W fun e w' => e = .returned (.tuple #[]) ∧ Below W.heap.size W w' :=
            fun W => C_TWrite_nil now W HNOW.out
          have HC := Lib.hid hC
          clear hC
          obtain ⟨n, s, v, r, io, o⟩ := now
          unfold Tot.val at HC
          dsimp only at HC cx
          go_wp2_with (go_at_call 56; refine (HC.out _).mono ?_; rintro e w2 ⟨rfl, hc2⟩)
          go_end0
          exact ⟨rfl, Tr.below_trans HCR.out hc2⟩
  | false =>
    have k1 : ∀ W, Calls Try.prog 55 #[.pointer none, .int .u64 (IntKind.u64.wrap (next : Int)), .int .i64 5] W fun e w' => e = .returned (.pointer none) ∧ Below W.heap.size W w' := fun W => by rw [show IntKind.u64.wrap (next : Int) = next by rw [u64_eq]; omega]; exact C_Number_nil next 5 W (by omega) (by omega) (by omega)
    have k2 : ∀ W, Calls Try.prog 55 #[.pointer none, .int .u64 0, .int .i64 1] W fun e w' => e = .returned (.pointer none) ∧ Below W.heap.size W w' := fun W => C_Number_nil 0 1 W (by decide) (by omega) (by omega)
    have k3 : ∀ W, Calls Try.prog 55 #[.pointer none, .int .u64 (IntKind.u64.wrap (cl.length : Int)), .int .i64 1] W fun e w' => e = .returned (.pointer none) ∧ Below W.heap.size W w' := fun W => by rw [show IntKind.u64.wrap (cl.length : Int) = cl.length by rw [u64_eq]; omega]; exact C_Number_nil cl.length 1 W (by omega) (by omega) (by omega)
    have K1 := Lib.hid k1; have K2 := Lib.hid k2; have K3 := Lib.hid k3
    clear k1 k2 k3
    go_enter Try.func35, Try.ntmps35
    go_upto_region 4 with fail
    go_cut [28] from 13 to 28 (fun _ wx => Below w.heap.size w wx)
    case first =>
      have p1 : w.cell? ⟨b, 1, none⟩ = some (.int .i64 next) := hc 1
      have p9 : w.cell? ⟨b, 9, none⟩ = some (.slice a cl.length cap) := hc 9
      clear hc
      go_region_held3 (fun w' => w'.cell? ⟨b, 1, none⟩ = some (.int .i64 next) ∧ w'.cell? ⟨b, 9, none⟩ = some (.slice a cl.length cap)) (first | exact ⟨p1, p9⟩ | exact ⟨p1a, p9a⟩ | exact ⟨p1b, p9b⟩ | exact ⟨p1c, p9c⟩ | fail)
        (first
          | (go_at_call 55; have hk := K3.out w2; refine Calls.mono hk ?_; rintro e w3 ⟨rfl, hc3⟩; have b3 := Tr.blk_keep hc3 B2.out; have p1c : w3.cell? ⟨b, 1, none⟩ = some (.int .i64 next) := Tr.cell_blk b3; have p9c : w3.cell? ⟨b, 9, none⟩ = some (.slice a cl.length cap) := Tr.cell_blk b3; have B3 := Lib.hid b3; clear b3)
          | (go_at_call 55; have hk := K2.out w1; refine Calls.mono hk ?_; rintro e w2 ⟨rfl, hc2⟩; have b2 := Tr.blk_keep hc2 B1.out; have p1b : w2.cell? ⟨b, 1, none⟩ = some (.int .i64 next) := Tr.cell_blk b2; have p9b : w2.cell? ⟨b, 9, none⟩ = some (.slice a cl.length cap) := Tr.cell_blk b2; have B2 := Lib.hid b2; clear b2)
          | (go_at_call 55; have hk := K1.out w.drew; refine Calls.mono hk ?_; rintro e w1 ⟨rfl, hc1⟩; have b1 := Tr.blk_keep hc1 (Tr.blk_drew HB.out); have p1a : w1.cell? ⟨b, 1, none⟩ = some (.int .i64 next) := Tr.cell_blk b1; have p9a : w1.cell? ⟨b, 9, none⟩ = some (.slice a cl.length cap) := Tr.cell_blk b1; have B1 := Lib.hid b1; clear b1)
          | fail)
      go_wp2_with fail
      go_meet
      exact Tr.below_trans (Tr.below_trans (Tr.below_trans (Tr.below_drew (Below.refl _ _)) hc1) hc2) hc3
    case rest =>
      have bx := Tr.blk_keep hcut HB.out
      have cx := fun o => Tr.cell_blk (o := o) bx
      unfold Sh.cells at cx
      dsimp only at cx
      have BX := Lib.hid bx; have HCW := Lib.hid hcut
      clear bx hc hcut K1 K2 K3
      go_wp2_with fail
      go_loopw [34] (fun s34 wr => ∃ i : Nat, i ≤ cl.length ∧ s34 = .int .i64 i ∧ Below w.heap.size w wr) (fun s34 _ => cl.length - (intOf s34).toNat)
      case atStart => exact ⟨0, Nat.zero_le _, rfl, HCW.out⟩
      case round =>
        obtain ⟨i, hi, rfl, hcw⟩ := hrel
        have bx := Tr.blk_keep hcw HB.out
        have HCR := Lib.hid hcw
        clear hcw cx
        by_cases hlt : i < cl.length
        · obtain ⟨sg, off, cs, fz, rfl, hsg, hcell⟩ := sl_at6b HSL.out i hlt
          have hcw2 := hcell wr (Tr.blk_keep HCR.out hsg)
          obtain ⟨t, ht⟩ : ∃ t, t = cl.getD i .zero := ⟨_, rfl⟩
          rw [← ht] at hcw2
          have htok : t.ok := by rw [ht]; simp only [List.getD, List.getElem?_eq_getElem hlt, Option.getD_some]; exact HALL.out _ (List.getElem_mem _)
          have HTOK := Lib.hid htok
          obtain ⟨tn, ts, tv, tr, ti, tq⟩ := t
          simp only [Tot.cells] at hcw2
          have q0 := hcw2 0 (by omega)
          have q1 := hcw2 1 (by omega)
          have q2 := hcw2 2 (by omega)
          have q3 := hcw2 3 (by omega)
          have q4 := hcw2 4 (by omega)
          have q5 := hcw2 5 (by omega)
          simp only [Nat.add_zero] at q0 q1 q2 q3 q4 q5
          clear hcw2 hcell ht htok bx
          have hC : ∀ W, Calls Try.prog 56 #[.agg #[.int .i64 tn, .int .i64 ts, .int .i64 tv, .int .i64 tr, .int .i64 ti, .int .i64 tq], .pointer none] W fun e w' => e = .returned (.tuple #[]) ∧ Below W.heap.size W w' :=
            fun W => C_TWrite_nil ⟨tn, ts, tv, tr, ti, tq⟩ W HTOK.out
          have HC := Lib.hid hC
          clear hC
          go_wp2_with (go_at_call 56; refine (HC.out _).mono ?_; rintro e w2 ⟨rfl, hc2⟩)
          go_roundw
          case rel =>
            refine ⟨i + 1, by omega, by go_num, Tr.below_trans (Tr.below_alloc HCR.out (Nat.le_refl _)) hc2⟩
          case measure => simp [intOf]; omega
        · have cx := fun o => Tr.cell_blk (o := o) bx
          unfold Sh.cells at cx
          dsimp only at cx
          clear bx
          go_wp2_with fail
          go_end0
          exact ⟨rfl, HCR.out⟩
end Go.Proofs.Ytjkfkgpdlflbhaa
