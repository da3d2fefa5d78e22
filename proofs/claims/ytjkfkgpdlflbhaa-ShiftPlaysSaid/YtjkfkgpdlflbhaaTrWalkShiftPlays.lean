/- ShiftPlays, the walk. -/
import Derived.Test.YtjkfkgpdlflbhaaTrPlaysPure
import Derived.Laws.StructEq
import Derived.WideLaws
import Derived.Deep.CutBlock
import Derived.Deep.CutRange
import Derived.Deep.RegionHeld3
namespace Go.Proofs.Ytjkfkgpdlflbhaa
open Go.RowKit Go.Sort
open Tr (Sl Chg)
set_option linter.unusedVariables false
set_option linter.unusedSimpArgs false
attribute [local go_sem] Tr.go_max2 Tr.go_min2 Tr.go_max_two Tr.go_min_two

/-- Between two acts. -/
def PAt (w : World) (b m T : Nat) (s92 : Value) (wx : World) : Prop :=
  ∃ (i : Nat) (x : Sh), s92 = .int .i64 i ∧ i ≤ T ∧ x.ok ∧ x.is wx b ∧ RIs wx m x ∧ Below w.heap.size w wx
set_option maxRecDepth 100000 in
set_option maxHeartbeats 8000000 in
theorem walk_ShiftPlays : SayShiftPlays := by
  intro keep a rows cap num w hkeep hrows hnum
  have hacts := acts_of hrows
  have hcapl := hrows.1
  have hcapm := hrows.2.1
  unfold maxLen at hcapm
  have HA := Lib.hid hacts
  clear hacts hrows
  obtain ⟨T, hT⟩ : ∃ T : Nat, T = min rows.length 50 := ⟨_, rfl⟩
  have hTi : min (rows.length : Int) 50 = T := by omega
  have hT1 : T ≤ rows.length := by omega
  have hT2 : T ≤ 50 := by omega
  clear hT
  have hk64 := bounds_i64 hkeep
  have hn64 := bounds_i64 hnum
  unfold I64 at hk64
  obtain ⟨hk0, hk1⟩ := hk64
  clear hkeep hnum
  obtain ⟨K, hK⟩ : ∃ K, K = 1 + max 0 keep % 5 := ⟨_, rfl⟩
  have hK1 : 1 ≤ K := by omega
  have hK2 : K ≤ 64 := by omega
  go_enter Try.func9, Try.ntmps9
  go_upto_region 2 with (go_at_call 21; refine (C_New_any keep _).mono ?_; rintro e w1 ⟨p, e8, rfl, hp, hB1⟩)
  go_cut [64] from 44 to 63 (fun s64 wx => s64 = .bool false ∧ wx = w1)
  case first =>
    rcases hp with ⟨⟨h1, h2⟩, rfl, b0, rfl⟩ | ⟨h1 | h1, rfl, rfl⟩
    all_goals
      first
        | have hx64 : keep ≤ 64 := by omega
        | have hx64 : decide (keep ≤ 64) = false := decide_eq_false (by omega)
      go_wp2_with fail
      go_meet
      exact ⟨rfl, rfl⟩
  case rest =>
    obtain ⟨rfl, rfl⟩ := hcut
    clear hp
    go_wp2_with fail
    rw [← hK]
    refine (C_New_yes K hK1 hK2 _).mono ?_
    rintro e w2 ⟨rfl, hs2, hB2⟩
    have hBB := Tr.below_trans hB1 hB2
    have hbl : w.heap.size ≤ wc.heap.size := hB1.size
    generalize hbs : wc.heap.size = b at *
    clear hK hB1
    go_wp2_with (go_at_call 22; refine (C_wakes26 _).mono ?_; rintro e w3 ⟨rfl, hb3⟩)
    generalize hms : w2.heap.size = m at *
    have hbm : b < m := by rw [← hms]; exact Sh.is_lt hs2
    have hs2a := Sh.is_keep hs2 (Tr.below_alloc (Below.refl _ _) (Nat.le_refl _) (o := .cells #[.int .i64 K, .int .i64 1, .bool false, .int .i64 0, .int .i64 0, .int .i64 0, .int .i64 0, .int .i64 0, .int .i64 0, .slice none 0 0] 74))
    have hs3 := Sh.is_keep hs2a hb3
    have hr3 : RIs w3 m ⟨K, 1, false, .zero, []⟩ := RIs.keep ⟨none, 0, by rw [← hms]; exact Tr.blk_new _ _, none, 0, rfl, Nat.le_refl _, rfl, by simp [tots], fun h => by simp at h⟩ hb3
    have hB3 := Tr.below_trans (Tr.below_alloc hBB (Nat.le_refl _)) hb3
    have hok0 : (Sh.mk K 1 false .zero []).ok := ⟨⟨hK1, hK2⟩, by simp, Tot.zero_ok, by simp, by simp; omega, by simp⟩
    have HBS := Lib.hid hbs; have HMS := Lib.hid hms; have HR3 := Lib.hid hr3
    clear hs2 hs2a hb3 hBB hB2 hbs hms hr3
    go_loopw [92] (fun s92 wr => PAt w b m T s92 wr) (fun s92 _ => T - (intOf s92).toNat)
    case atStart => exact ⟨0, _, rfl, Nat.zero_le _, hok0, hs3, HR3.out, hB3⟩
    case round =>
      clear hs3 hB3 HR3
      obtain ⟨i, x, rfl, hi, hxo, hs, hr, hB⟩ := hrel
      by_cases hlt : i < T
      · obtain ⟨bb, off, rfl, d, k, am, ⟨hd, hk, ham⟩, q0, q1, q2⟩ := HA.out i (by omega)
        have hq : bb < w.heap.size := block_lt_of_cell q0
        have p0 : wr.cell? ⟨bb, off + i * 3, none⟩ = some (.int .i64 d) := by rw [hB.cell (p := ⟨bb, off + i * 3, none⟩) hq, q0]
        have p1 : wr.cell? ⟨bb, off + i * 3 + 1, none⟩ = some (.int .u8 k) := by rw [hB.cell (p := ⟨bb, off + i * 3 + 1, none⟩) hq, q1]
        have p2 : wr.cell? ⟨bb, off + i * 3 + 2, none⟩ = some (.int .i64 am) := by rw [hB.cell (p := ⟨bb, off + i * 3 + 2, none⟩) hq, q2]
        clear q0 q1 q2
        obtain ⟨hd0, hd1⟩ := hd
        have hsm := hr.lt
        have hq2 := hB.size
        obtain ⟨W, hW⟩ : ∃ W, W = wr.alloc (.cells #[.int .i64 d, .int .u8 k, .int .i64 am] 50) := ⟨_, rfl⟩
        have hact := Tr.blk_new wr (.cells #[.int .i64 d, .int .u8 k, .int .i64 am] 50)
        have hbel := Tr.below_alloc (Below.refl wr.heap.size wr) (Nat.le_refl _) (o := .cells #[.int .i64 d, .int .u8 k, .int .i64 am] 50)
        rw [← hW] at hact hbel
        have hs1 := Sh.is_keep hs hbel
        have hr1 := RIs.keep hr hbel
        have hB1 := Tr.below_trans hB hbel
        have hsW : W.heap.size = wr.heap.size + 1 := by rw [hW]; simp
        have hC := C_Copy b x W hs1 hxo
        rw [hW] at hC
        obtain ⟨ra, rcap, hrb, hrsl⟩ := hr1
        have HC := Lib.hid hC; have HW := Lib.hid hW; have HACT := Lib.hid hact; have HRB := Lib.hid hrb; have HRSL := Lib.hid hrsl; have HS1 := Lib.hid hs1
        clear hC hW hact hs hr hB hrb hrsl hbel hs1
        go_upto_block 2 with (go_at_call 30; refine HC.out.mono ?_; rintro e w4 ⟨rfl, hc4, hb4⟩; rw [← HW.out] at hc4 hb4; have b4 := Tr.blk_keep hb4 HRB.out; have c4 := fun o => Tr.cell_blk (o := o) b4; have a4 := Tr.blk_keep hb4 HACT.out; have ca4 := fun o => Tr.cell_blk (o := o) a4; have l4 := Tr.blk_lt a4; have lc4 := Sh.is_lt hc4; have A4 := Lib.hid a4; have HC4 := Lib.hid hc4; have B4 := Lib.hid b4; clear hc4 b4 a4)
        have hsW' := HW.out
        have hs5 : x.is (w4.alloc (.cells #[.int .i64 x.keep, .int .i64 x.next, .bool x.op, .int .i64 x.now.n, .int .i64 x.now.s, .int .i64 x.now.v, .int .i64 x.now.r, .int .i64 x.now.i, .int .i64 x.now.o, .slice ra x.cl.length rcap] 74)) b := Sh.is_keep (Sh.is_keep HS1.out hb4) (Tr.below_alloc (Below.refl _ _) (Nat.le_refl _))
        have hcc5 : x.is (w4.alloc (.cells #[.int .i64 x.keep, .int .i64 x.next, .bool x.op, .int .i64 x.now.n, .int .i64 x.now.s, .int .i64 x.now.v, .int .i64 x.now.r, .int .i64 x.now.i, .int .i64 x.now.o, .slice ra x.cl.length rcap] 74)) (wr.heap.size + 1) := Sh.is_keep (by have h := HC4.out; rw [hsW] at h; exact h) (Tr.below_alloc (Below.refl _ _) (Nat.le_refl _))
        have b5 := Tr.blk_old (x := .cells #[.int .i64 x.keep, .int .i64 x.next, .bool x.op, .int .i64 x.now.n, .int .i64 x.now.s, .int .i64 x.now.v, .int .i64 x.now.r, .int .i64 x.now.i, .int .i64 x.now.o, .slice ra x.cl.length rcap] 74) B4.out
        have a5 := Tr.blk_old (x := .cells #[.int .i64 x.keep, .int .i64 x.next, .bool x.op, .int .i64 x.now.n, .int .i64 x.now.s, .int .i64 x.now.v, .int .i64 x.now.r, .int .i64 x.now.i, .int .i64 x.now.o, .slice ra x.cl.length rcap] 74) A4.out
        have g5 := Tr.blk_new w4 (.cells #[.int .i64 x.keep, .int .i64 x.next, .bool x.op, .int .i64 x.now.n, .int .i64 x.now.s, .int .i64 x.now.v, .int .i64 x.now.r, .int .i64 x.now.i, .int .i64 x.now.o, .slice ra x.cl.length rcap] 74)
        have hl5 := Sl.keep hb4 HRSL.out
        have hl5 := Sl.keep (Tr.below_alloc (Below.refl _ _) (Nat.le_refl _) (o := .cells #[.int .i64 x.keep, .int .i64 x.next, .bool x.op, .int .i64 x.now.n, .int .i64 x.now.s, .int .i64 x.now.v, .int .i64 x.now.r, .int .i64 x.now.i, .int .i64 x.now.o, .slice ra x.cl.length rcap] 74)) hl5
        have hB5 := Tr.below_alloc (Tr.below_trans hB1 hb4) (Nat.le_refl _) (o := .cells #[.int .i64 x.keep, .int .i64 x.next, .bool x.op, .int .i64 x.now.n, .int .i64 x.now.s, .int .i64 x.now.v, .int .i64 x.now.r, .int .i64 x.now.i, .int .i64 x.now.o, .slice ra x.cl.length rcap] 74)
        have lt5 := Tr.blk_lt g5
        generalize w4.alloc (.cells #[.int .i64 x.keep, .int .i64 x.next, .bool x.op, .int .i64 x.now.n, .int .i64 x.now.s, .int .i64 x.now.v, .int .i64 x.now.r, .int .i64 x.now.i, .int .i64 x.now.o, .slice ra x.cl.length rcap] 74) = W5 at *
        generalize w4.heap.size = g at *
        rw [hsW] at lc4
        clear HC HW HACT HRB HRSL HS1 c4 ca4 A4 HC4 B4 hsW' hB1 hsW hb4 p0 p1 p2
        generalize wr.heap.size = q at *
        obtain ⟨D, hD⟩ : ∃ D, D = max 0 d % 5 := ⟨_, rfl⟩
        rw [← hD]
        have hD0 : 0 ≤ D ∧ D < 5 := by omega
        obtain ⟨hD0, hD1⟩ := hD0
        clear hD
        have hxn := hxo.2.1
        have hmb : m ≠ b := by omega
        have hgb : g ≠ b := by omega
        have hcb : q + 1 ≠ b := by omega
        go_cut [17] from 99 to 172 (fun s17 wx => PMid w b m (q + 1) g x s17 wx)
        case first =>
          by_cases h3 : D = 3
          · subst h3
            have hST := C_Start b x W5 hs5 hxo
            have hRST := fun W => C_RStart x ra x.cl.length rcap W hxn
            obtain ⟨x', n', e', he⟩ : ∃ x' n' e', x.start = (x', n', e') := ⟨_, _, _, rfl⟩
            have hxo' : x'.ok := by have h := Sh.start_ok hxo; rw [he] at h; exact h
            have hcl' : x'.cl = x.cl := by have h := Sh.start_cl x; rw [he] at h; exact h
            simp only [he] at hST hRST
            obtain ⟨keep', next', op', ⟨n, s, v, r, io, o⟩, cl'⟩ := x'
            dsimp only at hcl'
            subst hcl'
            unfold RV at hRST
            dsimp only at hRST hST
            have hblk := Sh.blk hs5
            have HST := Lib.hid hST; have HRST := Lib.hid hRST; have HE := Lib.hid he; have B5 := Lib.hid b5; have G5 := Lib.hid g5; have HB5 := Lib.hid hB5; have HL5 := Lib.hid hl5; have HC5 := Lib.hid hcc5; have HXO' := Lib.hid hxo'; have HBLK := Lib.hid hblk
            clear hST hRST he b5 g5 hB5 hl5 hcc5 hxo' a5 hs5 hblk
            go_wp2_with (first
              | (go_at_call 23; refine HST.out.mono ?_; rintro e w6 ⟨rfl, hs6, hc6⟩; have b6 := hc6.keep B5.out hmb; have g6 := hc6.keep G5.out hgb; have c6 := fun o => Tr.cell_blk (o := o) b6; have B6 := Lib.hid b6; have G6 := Lib.hid g6; have HS6 := Lib.hid hs6; have HC6 := Lib.hid hc6; clear b6 g6 hs6 hc6)
              | (go_at_call 31; refine (HRST.out _).mono ?_; rintro e w7 ⟨rfl, hb7⟩; have g7 := Tr.blk_keep hb7 G6.out; have lg7 := Tr.blk_lt g7; have cg7 := fun o => Tr.cell_blk (o := o) g7; have fg7 := fun o => Tr.frozen_blk (o := o) g7; have G7 := Lib.hid g7; have HB7 := Lib.hid hb7; clear g7 hb7)
              | fail)
            go_meet
            obtain ⟨cb, hblk⟩ := HBLK.out
            have h6 := HC6.out
            have hbel6 := h6.below HB5.out hbl (Nat.le_refl _)
            refine PMid.fin (x' := ⟨keep', next', op', ⟨n, s, v, r, io, o⟩, x.cl⟩) (a := ra) (cap := rcap) rfl ?_ G7.out HXO'.out (Sh.is_keep HS6.out HB7.out) (Sh.is_keep (Sh.is_chgT HC5.out h6 hcb hblk (by decide)) HB7.out) (RIs.keep (RIs.chg ⟨ra, rcap, B5.out, HL5.out⟩ h6 hmb hblk (by decide)) HB7.out) ?_ (Sl.keep HB7.out (Sl.chg HL5.out h6 hblk (by decide))) (by omega) (by omega) (by omega) (Tr.below_trans hbel6 HB7.out) (by omega)
            · (repeat (first | with_reducible assumption | (with_reducible exact Tr.Chg.refl _ _) | (with_reducible refine Tr.Chg.set ?_ _ _) | (with_reducible refine Tr.Chg.alloc ?_ _) | (with_reducible refine Tr.Chg.drew ?_) | (with_reducible refine Tr.Chg.drewN ?_) | ((with_reducible refine Tr.Chg.set_new ?_ _ ?_); rotate_left; focus (first | omega | (simp; done) | (simp; omega))) | (with_reducible refine Tr.Chg.grown ?_ (by assumption)) | (with_reducible refine Tr.Chg.trans ?_ (by assumption))))
            · refine Tr.blk_old ?_
              have g7 := G7.out
              (simp only [Tr.heap_set_same, g7, Option.map_some, Tr.setObj]; simp [])
          · have h3b : (D == 3) = false := by simpa using h3
            by_cases h4 : D = 4
            · subst h4
              have hEN := C_End_any b x W5 hs5 hxo
              have hREN := fun W h => C_REnd_any x ra rcap W h hxo
              obtain ⟨x', n', t', e', he⟩ : ∃ x' n' t' e', x.end_ = (x', n', t', e') := ⟨_, _, _, _, rfl⟩
              have hxo' : x'.ok := by have h := Sh.end_ok hxo; rw [he] at h; exact h
              simp only [he] at hEN hREN
              obtain ⟨keep', next', op', ⟨n, s, v, r, io, o⟩, cl'⟩ := x'
              obtain ⟨tn, ts, tv, tr, ti, tq⟩ := t'
              unfold RV Tot.val at hREN
              unfold Tot.val at hEN
              dsimp only at hREN hEN
              have hblk := Sh.blk hs5
              have HEN := Lib.hid hEN; have HREN := Lib.hid hREN; have HE := Lib.hid he; have B5 := Lib.hid b5; have G5 := Lib.hid g5; have HB5 := Lib.hid hB5; have HL5 := Lib.hid hl5; have HC5 := Lib.hid hcc5; have HXO' := Lib.hid hxo'; have HBLK := Lib.hid hblk
              clear hEN hREN he b5 g5 hB5 hl5 hcc5 hxo' a5 hs5 hblk
              go_upto_region 24 with (first
                | (go_at_call 24; refine HEN.out.mono ?_; rintro e w6 ⟨rfl, hs6, hc6⟩; have b6 := hc6.keep B5.out hmb; have g6 := hc6.keep G5.out hgb; have lb6 := Tr.blk_lt b6; have lg6 := Tr.blk_lt g6; have hl6 : Sl 69 6 w6 _ _ _ := (by obtain ⟨cb, hblk⟩ := HBLK.out; exact Sl.chg HL5.out hc6 hblk (by decide)); have c6 := fun o => Tr.cell_blk (o := o) b6; have B6 := Lib.hid b6; have G6 := Lib.hid g6; have HS6 := Lib.hid hs6; have HC6 := Lib.hid hc6; have HL6 := Lib.hid hl6; clear b6 g6 hs6 hc6 hl6)
                | (go_at_call 32; refine (HREN.out _ (Sl.keep (Tr.below_alloc (Below.refl _ _) (Nat.le_refl _)) HL6.out)).mono ?_; rintro e w7 ⟨⟨a', cap', rfl, hl7⟩, hb7⟩; have g7 := Tr.blk_keep hb7 (Tr.blk_old G6.out); have b7 := Tr.blk_keep hb7 (Tr.blk_old B6.out); have t7 := Tr.blk_keep hb7 (Tr.blk_new _ _); have lg7 := Tr.blk_lt g7; have lt7 := Tr.blk_lt t7; have G7 := Lib.hid g7; have B7 := Lib.hid b7; have T7 := Lib.hid t7; have HB7 := Lib.hid hb7; have HL7 := Lib.hid hl7; clear g7 b7 t7 hb7 hl7)
                | fail)
              have h69 : ∀ W, (Op.equalIn 10000 69 (.agg #[.int .i64 tn, .int .i64 ts, .int .i64 tv, .int .i64 tr, .int .i64 ti, .int .i64 tq]) (.agg #[.int .i64 tn, .int .i64 ts, .int .i64 tv, .int .i64 tr, .int .i64 ti, .int .i64 tq])).run Try.prog W = .ok true W := fun W => eq69 tn ts tv tr ti tq W
              have hof : ∀ W : World, Calls Try.prog 29 #[.agg #[.int .i64 tn, .int .i64 ts, .int .i64 tv, .int .i64 tr, .int .i64 ti, .int .i64 tq]] W fun e w' => e = .returned (.agg #[.int .i64 tn, .int .i64 ts, .int .i64 tv, .int .i64 tr, .int .i64 ti, .int .i64 tq]) ∧ Below W.heap.size W w' := fun W => C_of26 ⟨tn, ts, tv, tr, ti, tq⟩ W
              have t8 := Tr.blk_old (x := .cells #[.int .i64 tn, .int .i64 ts, .int .i64 tv, .int .i64 tr, .int .i64 ti, .int .i64 tq] 69) (Tr.blk_old (x := .cells #[.int .i64 keep', .int .i64 next', .bool op', .int .i64 n, .int .i64 s, .int .i64 v, .int .i64 r, .int .i64 io, .int .i64 o, .slice a' cl'.length cap'] 74) T7.out)
              have g8 := Tr.blk_old (x := .cells #[.int .i64 tn, .int .i64 ts, .int .i64 tv, .int .i64 tr, .int .i64 ti, .int .i64 tq] 69) (Tr.blk_old (x := .cells #[.int .i64 keep', .int .i64 next', .bool op', .int .i64 n, .int .i64 s, .int .i64 v, .int .i64 r, .int .i64 io, .int .i64 o, .slice a' cl'.length cap'] 74) G7.out)
              have b8 := Tr.blk_old (x := .cells #[.int .i64 tn, .int .i64 ts, .int .i64 tv, .int .i64 tr, .int .i64 ti, .int .i64 tq] 69) (Tr.blk_old (x := .cells #[.int .i64 keep', .int .i64 next', .bool op', .int .i64 n, .int .i64 s, .int .i64 v, .int .i64 r, .int .i64 io, .int .i64 o, .slice a' cl'.length cap'] 74) B7.out)
              have r8 := Tr.blk_old (x := .cells #[.int .i64 tn, .int .i64 ts, .int .i64 tv, .int .i64 tr, .int .i64 ti, .int .i64 tq] 69) (Tr.blk_new w7 (.cells #[.int .i64 keep', .int .i64 next', .bool op', .int .i64 n, .int .i64 s, .int .i64 v, .int .i64 r, .int .i64 io, .int .i64 o, .slice a' cl'.length cap'] 74))
              have n8 : ((w7.alloc (.cells #[.int .i64 keep', .int .i64 next', .bool op', .int .i64 n, .int .i64 s, .int .i64 v, .int .i64 r, .int .i64 io, .int .i64 o, .slice a' cl'.length cap'] 74)).alloc (.cells #[.int .i64 tn, .int .i64 ts, .int .i64 tv, .int .i64 tr, .int .i64 ti, .int .i64 tq] 69)).heap[w7.heap.size + 1]? = some (.cells #[.int .i64 tn, .int .i64 ts, .int .i64 tv, .int .i64 tr, .int .i64 ti, .int .i64 tq] 69) := Tr.blk_at (by simp)
              have hb8 : Below w7.heap.size w7 ((w7.alloc (.cells #[.int .i64 keep', .int .i64 next', .bool op', .int .i64 n, .int .i64 s, .int .i64 v, .int .i64 r, .int .i64 io, .int .i64 o, .slice a' cl'.length cap'] 74)).alloc (.cells #[.int .i64 tn, .int .i64 ts, .int .i64 tv, .int .i64 tr, .int .i64 ti, .int .i64 tq] 69)) := by (repeat (first | with_reducible assumption | (with_reducible exact Below.refl _ _) | ((with_reducible refine Tr.below_alloc ?_ ?_); rotate_left; focus (first | omega | exact Nat.le_refl _)) | (with_reducible refine Tr.below_drew ?_) | (with_reducible refine Tr.below_drewN ?_) | ((with_reducible refine Tr.below_set ?_ ?_); rotate_left; focus (first | omega | (simp; done) | (simp; omega))) | ((with_reducible refine Tr.below_trans ?_ (by assumption) ?_); rotate_left; focus (first | exact Nat.le_refl _ | omega))))
              generalize (w7.alloc (.cells #[.int .i64 keep', .int .i64 next', .bool op', .int .i64 n, .int .i64 s, .int .i64 v, .int .i64 r, .int .i64 io, .int .i64 o, .slice a' cl'.length cap'] 74)).alloc (.cells #[.int .i64 tn, .int .i64 ts, .int .i64 tv, .int .i64 tr, .int .i64 ti, .int .i64 tq] 69) = W8 at *
              have hgp : g ≠ w6.heap.size := by omega
              have hgr : g ≠ w7.heap.size := by omega
              have hgn : g ≠ w7.heap.size + 1 := by omega
              have hS8 : (∀ z : Nat, W8.drew.cell? ⟨w6.heap.size, z, none⟩ = (#[.int .i64 tn, .int .i64 ts, .int .i64 tv, .int .i64 tr, .int .i64 ti, .int .i64 tq] : Array Value)[z]?) ∧ (∀ z : Nat, W8.drew.cell? ⟨w7.heap.size, z, none⟩ = (#[.int .i64 keep', .int .i64 next', .bool op', .int .i64 n, .int .i64 s, .int .i64 v, .int .i64 r, .int .i64 io, .int .i64 o, .slice a' cl'.length cap'] : Array Value)[z]?) ∧ (∀ z : Nat, W8.drew.cell? ⟨w7.heap.size + 1, z, none⟩ = (#[.int .i64 tn, .int .i64 ts, .int .i64 tv, .int .i64 tr, .int .i64 ti, .int .i64 tq] : Array Value)[z]?) :=
                ⟨fun o => Tr.cell_blk (Tr.blk_drew t8), fun o => Tr.cell_blk (Tr.blk_drew r8), fun o => Tr.cell_blk (Tr.blk_drew n8)⟩
              obtain ⟨cb, hblk⟩ := HBLK.out
              have hbel6 := HC6.out.below HB5.out hbl (Nat.le_refl _)
              have h68 := Tr.below_trans (Tr.below_trans (Tr.below_alloc (Below.refl w6.heap.size w6) (Nat.le_refl _)) HB7.out) hb8
              have hss8 := Sh.is_keep HS6.out h68
              have hcc8 := Sh.is_keep (Sh.is_chgT HC5.out HC6.out hcb hblk (by decide)) h68
              have hrr8 : RIs W8 m x := RIs.keep (RIs.chg ⟨ra, rcap, B5.out, HL5.out⟩ HC6.out hmb hblk (by decide)) h68
              have hll8 := Sl.keep hb8 HL7.out
              have hbb8 := Tr.below_trans hbel6 h68
              have HSS8 := Lib.hid hss8; have HCC8 := Lib.hid hcc8; have HRR8 := Lib.hid hrr8; have HLL8 := Lib.hid hll8; have HBB8 := Lib.hid hbb8
              clear hss8 hcc8 hrr8 hll8 hbb8 hbel6 h68 hblk
              have HS8 := Lib.hid hS8; have HOF := Lib.hid hof; have T8 := Lib.hid t8; have R8 := Lib.hid r8; have N8 := Lib.hid n8; have G8 := Lib.hid g8; have B8 := Lib.hid b8; have HB8 := Lib.hid hb8
              clear hS8 hof t8 r8 n8 g8 b8 hb8 c6
              generalize w6.heap.size = pb at *
              generalize w7.heap.size = rb at *
              go_region_held3 (fun w' => (∀ z : Nat, w'.cell? ⟨pb, z, none⟩ = (#[.int .i64 tn, .int .i64 ts, .int .i64 tv, .int .i64 tr, .int .i64 ti, .int .i64 tq] : Array Value)[z]?) ∧ (∀ z : Nat, w'.cell? ⟨rb, z, none⟩ = (#[.int .i64 keep', .int .i64 next', .bool op', .int .i64 n, .int .i64 s, .int .i64 v, .int .i64 r, .int .i64 io, .int .i64 o, .slice a' cl'.length cap'] : Array Value)[z]?) ∧ (∀ z : Nat, w'.cell? ⟨rb + 1, z, none⟩ = (#[.int .i64 tn, .int .i64 ts, .int .i64 tv, .int .i64 tr, .int .i64 ti, .int .i64 tq] : Array Value)[z]?))
                (first
                  | with_reducible exact HS8.out
                  | with_reducible exact HS9.out
                  | (refine ⟨fun o => Tr.cell_blk (t := 55) (fr := (0, 0)) ?_, fun o => Tr.cell_blk (t := 74) (fr := (0, 0)) ?_, fun o => Tr.cell_blk (t := 69) (fr := (0, 0)) ?_⟩
                     · (repeat (refine Tr.blk_set_ne ?_ _ hgp)); with_reducible exact T9.out
                     · (repeat (refine Tr.blk_set_ne ?_ _ hgr)); with_reducible exact R9.out
                     · (repeat (refine Tr.blk_set_ne ?_ _ hgn)); with_reducible exact N9.out)
                  | fail)
                (first
                  | (go_at_call 29; have hk := HOF.out W8.drew; refine Calls.mono hk ?_; rintro e w9 ⟨rfl, hb9⟩; have t9 := Tr.blk_keep hb9 (Tr.blk_drew T8.out); have r9 := Tr.blk_keep hb9 (Tr.blk_drew R8.out); have n9 := Tr.blk_keep hb9 (Tr.blk_drew N8.out); have g9 := Tr.blk_keep hb9 (Tr.blk_drew G8.out); have cg9 := fun o => Tr.cell_blk (o := o) g9; have fg9 := fun o => Tr.frozen_blk (o := o) g9; have hS9 : (∀ z : Nat, w9.cell? ⟨pb, z, none⟩ = (#[.int .i64 tn, .int .i64 ts, .int .i64 tv, .int .i64 tr, .int .i64 ti, .int .i64 tq] : Array Value)[z]?) ∧ (∀ z : Nat, w9.cell? ⟨rb, z, none⟩ = (#[.int .i64 keep', .int .i64 next', .bool op', .int .i64 n, .int .i64 s, .int .i64 v, .int .i64 r, .int .i64 io, .int .i64 o, .slice a' cl'.length cap'] : Array Value)[z]?) ∧ (∀ z : Nat, w9.cell? ⟨rb + 1, z, none⟩ = (#[.int .i64 tn, .int .i64 ts, .int .i64 tv, .int .i64 tr, .int .i64 ti, .int .i64 tq] : Array Value)[z]?) := ⟨fun o => Tr.cell_blk t9, fun o => Tr.cell_blk r9, fun o => Tr.cell_blk n9⟩; have HS9 := Lib.hid hS9; have T9 := Lib.hid t9; have R9 := Lib.hid r9; have N9 := Lib.hid n9; have G9 := Lib.hid g9; have HB9 := Lib.hid hb9; clear hS9 t9 r9 n9 g9 hb9)
                  | fail)
              go_wp2_with fail
              go_meet
              have hd9 := Tr.below_trans (Tr.below_drew (Below.refl W8.heap.size W8)) HB9.out
              refine PMid.fin (x' := ⟨keep', next', op', ⟨n, s, v, r, io, o⟩, cl'⟩) (a := a') (cap := cap') rfl ?_ G9.out HXO'.out (Sh.is_keep HSS8.out hd9) (Sh.is_keep HCC8.out hd9) (RIs.keep HRR8.out hd9) ?_ (Sl.keep hd9 HLL8.out) (by omega) (by omega) (by omega) (Tr.below_trans HBB8.out hd9) (by omega)
              · (repeat (first | with_reducible assumption | (with_reducible exact Tr.Chg.refl _ _) | (with_reducible refine Tr.Chg.set ?_ _ _) | (with_reducible refine Tr.Chg.alloc ?_ _) | (with_reducible refine Tr.Chg.drew ?_) | (with_reducible refine Tr.Chg.drewN ?_) | ((with_reducible refine Tr.Chg.set_new ?_ _ ?_); rotate_left; focus (first | omega | (simp; done) | (simp; omega))) | (with_reducible refine Tr.Chg.grown ?_ (by assumption)) | (with_reducible refine Tr.Chg.trans ?_ (by assumption))))
              · have g9 := G9.out
                (simp only [Tr.heap_set_same, g9, Option.map_some, Tr.setObj]; simp [])
            · have h4b : (D == 4) = false := by simpa using h4
              obtain ⟨kk, rfl⟩ := Int.eq_ofNat_of_zero_le hk.1
              have hADD := fun W h => C_ShAdd b kk am x W (by omega) ham h hxo
              have hRADD := fun W => C_RAdd x kk am ra x.cl.length rcap W (by omega) ham hxo
              obtain ⟨x', e', he⟩ : ∃ x' e', x.add kk am = (x', e') := ⟨_, _, rfl⟩
              have hxo' : x'.ok := by have h := Sh.add_ok hxo kk am; rw [he] at h; exact h
              have hcl' : x'.cl = x.cl := by have h := Sh.add_cl x kk am; rw [he] at h; exact h
              simp only [he] at hADD hRADD
              obtain ⟨keep', next', op', ⟨n, s, v, r, io, o⟩, cl'⟩ := x'
              dsimp only at hcl'
              subst hcl'
              unfold RV at hRADD
              dsimp only at hRADD hADD
              have c5 := fun o => Tr.cell_blk (o := o) b5
              have ca5 := fun o => Tr.cell_blk (o := o) a5
              have lb5 := Tr.blk_lt b5
              have la5 := Tr.blk_lt a5
              have HADD := Lib.hid hADD; have HRADD := Lib.hid hRADD; have HE := Lib.hid he; have A5 := Lib.hid a5; have B5 := Lib.hid b5; have G5 := Lib.hid g5; have HB5 := Lib.hid hB5; have HL5 := Lib.hid hl5; have HC5 := Lib.hid hcc5; have HXO' := Lib.hid hxo'; have HS5 := Lib.hid hs5
              clear hADD hRADD he b5 g5 hB5 hl5 hcc5 hxo' a5 hs5
              go_upto_region 16 with (go_at_call 33; refine (HRADD.out _).mono ?_; rintro e w7 ⟨rfl, hb7⟩; have HB7 := Lib.hid hb7; have lw7 := hb7.size; clear hb7)
              have hb8 : Below W5.heap.size W5 (w7.alloc (.cells #[.int .i64 keep', .int .i64 next', .bool op', .int .i64 n, .int .i64 s, .int .i64 v, .int .i64 r, .int .i64 io, .int .i64 o, .slice ra x.cl.length rcap] 74)) := Tr.below_alloc HB7.out (Nat.le_refl _)
              have r8 := Tr.blk_new w7 (.cells #[.int .i64 keep', .int .i64 next', .bool op', .int .i64 n, .int .i64 s, .int .i64 v, .int .i64 r, .int .i64 io, .int .i64 o, .slice ra x.cl.length rcap] 74)
              generalize w7.alloc (.cells #[.int .i64 keep', .int .i64 next', .bool op', .int .i64 n, .int .i64 s, .int .i64 v, .int .i64 r, .int .i64 io, .int .i64 o, .slice ra x.cl.length rcap] 74) = W8 at *
              generalize w7.heap.size = rb at *
              have g8 := Tr.blk_keep hb8 G5.out
              have a8 := Tr.blk_keep hb8 A5.out
              have hs8 := Sh.is_keep HS5.out hb8
              have hcc8 := Sh.is_keep HC5.out hb8
              have hr8 : RIs W8 m x := RIs.keep ⟨ra, rcap, B5.out, HL5.out⟩ hb8
              have hl8 := Sl.keep hb8 HL5.out
              have hB8 := Tr.below_trans HB5.out hb8
              have hs8d : x.is W8.drew b := Sh.is_keep hs8 (Tr.below_drew (Below.refl _ _))
              have hC := HADD.out W8.drew hs8d
              have hgr : g ≠ rb := by omega
              have hgq : g ≠ q := by omega
              have hrbb : rb ≠ b := by omega
              have hqb : q ≠ b := by omega
              have hS8 : (∀ z : Nat, W8.drew.cell? ⟨rb, z, none⟩ = (#[.int .i64 keep', .int .i64 next', .bool op', .int .i64 n, .int .i64 s, .int .i64 v, .int .i64 r, .int .i64 io, .int .i64 o, .slice ra x.cl.length rcap] : Array Value)[z]?) ∧ (∀ z : Nat, W8.drew.cell? ⟨q, z, none⟩ = (#[.int .i64 d, .int .u8 kk, .int .i64 am] : Array Value)[z]?) :=
                ⟨fun z => Tr.cell_blk (Tr.blk_drew r8), fun z => Tr.cell_blk (Tr.blk_drew a8)⟩
              have HS8 := Lib.hid hS8; have HC := Lib.hid hC; have R8 := Lib.hid r8; have A8 := Lib.hid a8; have G8 := Lib.hid g8; have HSS8 := Lib.hid hs8; have HCC8 := Lib.hid hcc8; have HRR8 := Lib.hid hr8; have HLL8 := Lib.hid hl8; have HBB8 := Lib.hid hB8
              clear hS8 hC r8 a8 g8 hs8 hcc8 hr8 hl8 hB8 hs8d hb8 c5 ca5
              go_region_held3 (fun w' => (∀ z : Nat, w'.cell? ⟨rb, z, none⟩ = (#[.int .i64 keep', .int .i64 next', .bool op', .int .i64 n, .int .i64 s, .int .i64 v, .int .i64 r, .int .i64 io, .int .i64 o, .slice ra x.cl.length rcap] : Array Value)[z]?) ∧ (∀ z : Nat, w'.cell? ⟨q, z, none⟩ = (#[.int .i64 d, .int .u8 kk, .int .i64 am] : Array Value)[z]?))
                (first
                  | with_reducible exact HS8.out
                  | with_reducible exact HS9.out
                  | (refine ⟨fun o => Tr.cell_blk (t := 74) (fr := (0, 0)) ?_, fun o => Tr.cell_blk (t := 50) (fr := (0, 0)) ?_⟩
                     · (repeat (refine Tr.blk_set_ne ?_ _ hgr)); with_reducible exact R9.out
                     · (repeat (refine Tr.blk_set_ne ?_ _ hgq)); with_reducible exact A9.out)
                  | fail)
                (first
                  | (go_at_call 25; have hk := HC.out; refine Calls.mono hk ?_; rintro e w9 ⟨rfl, hs9, hc9⟩; have r9 := hc9.keep (Tr.blk_drew R8.out) hrbb; have a9 := hc9.keep (Tr.blk_drew A8.out) hqb; have g9 := hc9.keep (Tr.blk_drew G8.out) hgb; have cg9 := fun o => Tr.cell_blk (o := o) g9; have fg9 := fun o => Tr.frozen_blk (o := o) g9; have hS9 : (∀ z : Nat, w9.cell? ⟨rb, z, none⟩ = (#[.int .i64 keep', .int .i64 next', .bool op', .int .i64 n, .int .i64 s, .int .i64 v, .int .i64 r, .int .i64 io, .int .i64 o, .slice ra x.cl.length rcap] : Array Value)[z]?) ∧ (∀ z : Nat, w9.cell? ⟨q, z, none⟩ = (#[.int .i64 d, .int .u8 kk, .int .i64 am] : Array Value)[z]?) := ⟨fun z => Tr.cell_blk r9, fun z => Tr.cell_blk a9⟩; have HS9 := Lib.hid hS9; have R9 := Lib.hid r9; have A9 := Lib.hid a9; have G9 := Lib.hid g9; have HSS9 := Lib.hid hs9; have HC9 := Lib.hid hc9; clear hS9 r9 a9 g9 hs9 hc9)
                  | fail)
              go_wp2_with fail
              go_meet
              obtain ⟨cb, hblk⟩ := Sh.blk HSS8.out
              have hblkd := Tr.blk_drew hblk
              have h9 := HC9.out
              have hdd := Tr.below_drew (Below.refl W8.heap.size W8)
              refine PMid.fin (x' := ⟨keep', next', op', ⟨n, s, v, r, io, o⟩, x.cl⟩) (a := ra) (cap := rcap) rfl ?_ G9.out HXO'.out HSS9.out (Sh.is_chgT (Sh.is_keep HCC8.out hdd) h9 hcb hblkd (by decide)) (RIs.chg (RIs.keep HRR8.out hdd) h9 hmb hblkd (by decide)) ?_ (Sl.chg (Sl.keep hdd HLL8.out) h9 hblkd (by decide)) (by omega) (by omega) (by omega) (h9.below (Tr.below_trans HBB8.out hdd) hbl (Nat.le_refl _)) (by omega)
              · (repeat (first | with_reducible assumption | (with_reducible exact Tr.Chg.refl _ _) | (with_reducible refine Tr.Chg.set ?_ _ _) | (with_reducible refine Tr.Chg.alloc ?_ _) | (with_reducible refine Tr.Chg.drew ?_) | (with_reducible refine Tr.Chg.drewN ?_) | ((with_reducible refine Tr.Chg.set_new ?_ _ ?_); rotate_left; focus (first | omega | (simp; done) | (simp; omega))) | (with_reducible refine Tr.Chg.grown ?_ (by assumption)) | (with_reducible refine Tr.Chg.trans ?_ (by assumption))))
              · have g9 := G9.out
                (simp only [Tr.heap_set_same, g9, Option.map_some, Tr.setObj]; simp [])
        case rest =>
          obtain ⟨rfl, hcc, hr, ⟨x', hxo', hs', hg'⟩, hB⟩ := hcut
          clear hcc5 hl5 b5 a5 g5 hB5 hs5
          obtain ⟨ma, mcap, hmb, hml⟩ := hr
          obtain ⟨ga, gcap, hgb2, hgl⟩ := hg'
          have hmlt := Tr.blk_lt hmb
          have hglt := Tr.blk_lt hgb2
          have hS1 : ∀ W, Below wc.heap.size wc W → _ := fun W hW => C_same (q + 1) x ma mcap W (Sh.is_keep hcc hW) hxo (Sl.keep hW hml)
          have hS2 : ∀ W, Below wc.heap.size wc W → _ := fun W hW => C_same b x' ga gcap W (Sh.is_keep hs' hW) hxo' (Sl.keep hW hgl)
          unfold RV at hS1 hS2
          have cm := fun o => Tr.cell_blk (o := o) hmb
          have HS1 := Lib.hid hS1; have HS2 := Lib.hid hS2; have HM := Lib.hid hmb; have HG := Lib.hid hgb2; have HML := Lib.hid hml; have HGL := Lib.hid hgl; have HS' := Lib.hid hs'; have HB := Lib.hid hB; have HXO' := Lib.hid hxo'
          clear hS1 hS2 hmb hgb2 hml hgl hs' hB hcc hxo'
          go_wp2_with (first
            | (go_at_call 34; have hk := HS2.out w5 HB5.out; refine Calls.mono hk ?_; rintro e w6 ⟨rfl, hb6⟩; have hb6 := Tr.below_trans HB5.out hb6; have m6 := Tr.blk_keep hb6 HM.out; have g6 := Tr.blk_keep hb6 HG.out; have lm6 := Tr.blk_lt m6; have lg6 := Tr.blk_lt g6; have cm6 := fun o => Tr.cell_blk (o := o) m6; have fm6 := fun o => Tr.frozen_blk (o := o) m6; have cg6 := fun o => Tr.cell_blk (o := o) g6; have M6 := Lib.hid m6; have G6 := Lib.hid g6; have HB6 := Lib.hid hb6; clear m6 g6 hb6 cg5)
            | (go_at_call 34; have hk := HS1.out wc (Below.refl _ _); refine Calls.mono hk ?_; rintro e w5 ⟨rfl, hb5⟩; have g5 := Tr.blk_keep hb5 HG.out; have cg5 := fun o => Tr.cell_blk (o := o) g5; have HB5 := Lib.hid hb5; clear g5 hb5 cm)
            | fail)
          go_roundw
          case rel =>
            obtain ⟨xk, xn, xop, ⟨n, s, v, r, io, o⟩, xcl⟩ := x'
            have hs6 := Sh.is_keep HS'.out HB6.out
            have m6 := M6.out
            dsimp only at *
            have hgl6 := Sl.keep HB6.out HGL.out
            have hB6 := Tr.below_trans HB.out HB6.out
            refine ⟨i + 1, ⟨xk, xn, xop, ⟨n, s, v, r, io, o⟩, xcl⟩, by go_num, by omega, HXO'.out, Sh.is_chgT (w := w6) (b' := m) hs6 ?_ (by omega) m6 (by decide), ⟨ga, gcap, ?_, Sl.chg (w := w6) (b := m) hgl6 ?_ m6 (by decide)⟩, Tr.Chg.below (b := m) (w := w6) ?_ hB6 (by omega) (Nat.le_refl _)⟩
            · (repeat (first | with_reducible assumption | (with_reducible exact Tr.Chg.refl _ _) | (with_reducible refine Tr.Chg.set ?_ _ _) | (with_reducible refine Tr.Chg.alloc ?_ _) | (with_reducible refine Tr.Chg.drew ?_) | (with_reducible refine Tr.Chg.drewN ?_) | ((with_reducible refine Tr.Chg.set_new ?_ _ ?_); rotate_left; focus (first | omega | (simp; done) | (simp; omega))) | (with_reducible refine Tr.Chg.grown ?_ (by assumption)) | (with_reducible refine Tr.Chg.trans ?_ (by assumption))))
            · (simp only [Tr.heap_set_same, m6, Option.map_some, Tr.setObj]; simp [])
            · (repeat (first | with_reducible assumption | (with_reducible exact Tr.Chg.refl _ _) | (with_reducible refine Tr.Chg.set ?_ _ _) | (with_reducible refine Tr.Chg.alloc ?_ _) | (with_reducible refine Tr.Chg.drew ?_) | (with_reducible refine Tr.Chg.drewN ?_) | ((with_reducible refine Tr.Chg.set_new ?_ _ ?_); rotate_left; focus (first | omega | (simp; done) | (simp; omega))) | (with_reducible refine Tr.Chg.grown ?_ (by assumption)) | (with_reducible refine Tr.Chg.trans ?_ (by assumption))))
            · (repeat (first | with_reducible assumption | (with_reducible exact Tr.Chg.refl _ _) | (with_reducible refine Tr.Chg.set ?_ _ _) | (with_reducible refine Tr.Chg.alloc ?_ _) | (with_reducible refine Tr.Chg.drew ?_) | (with_reducible refine Tr.Chg.drewN ?_) | ((with_reducible refine Tr.Chg.set_new ?_ _ ?_); rotate_left; focus (first | omega | (simp; done) | (simp; omega))) | (with_reducible refine Tr.Chg.grown ?_ (by assumption)) | (with_reducible refine Tr.Chg.trans ?_ (by assumption))))
          case measure => simp [intOf]; omega
      · have hie : i = T := by omega
        subst hie
        obtain ⟨ma, mcap, hmb, hml⟩ := hr
        have hblt := Sh.is_lt hs
        have hmlt := Tr.blk_lt hmb
        obtain ⟨R, hR⟩ : ∃ R, R = x.totals num := ⟨_, rfl⟩
        have hTot : ∀ W, Below wr.heap.size wr W → Calls Try.prog 26 #[.pointer (some ⟨b, 0, none⟩), .int .i64 num] W fun e w' => e = .returned (.tuple #[R.1.val, .bool R.2]) ∧ Below W.heap.size W w' := fun W hW => by rw [hR]; exact C_Totals b x num (by unfold I64; omega) W (Sh.is_keep hs hW) hxo
        have hOf : ∀ W, Below wr.heap.size wr W → Calls Try.prog 37 #[RV x (.slice ma x.cl.length mcap), .int .i64 num] W fun e w' => e = .returned (.tuple #[R.1.val, .bool R.2]) ∧ Below W.heap.size W w' := fun W hW => by rw [hR, ← Sh.of_totals x hxo num]; exact C_ROf x num ma mcap W (Sl.keep hW hml) hxo (by unfold I64; omega)
        have hText : ∀ W, Below wr.heap.size wr W → Calls Try.prog 38 #[RV x (.slice ma x.cl.length mcap)] W fun e w' => e = .returned (.string ⟨(SW x).toArray⟩) ∧ Below W.heap.size W w' := fun W hW => C_RText x ma mcap W (Sl.keep hW hml) hxo
        have hWrite : ∀ W g, Below wr.heap.size wr W → Wr W g [] → Calls Try.prog 35 #[.pointer (some ⟨b, 0, none⟩), .pointer (some ⟨g, 0, none⟩)] W fun e w' => e = .returned (.tuple #[]) ∧ Wr w' g ([] ++ SW x) ∧ ChgW g W w' := fun W g hW hg => C_Write b g [] x W (Sh.is_keep hs hW) hxo hg (by decide)
        have hWnil : ∀ W, Below wr.heap.size wr W → Calls Try.prog 35 #[.pointer (some ⟨b, 0, none⟩), .pointer none] W fun e w' => e = .returned (.tuple #[]) ∧ Below W.heap.size W w' := fun W hW => C_Write_nil b x W (Sh.is_keep hs hW) hxo
        have hBytes : ∀ W g, Wr W g ([] ++ SW x) → Calls Try.prog 36 #[.pointer (some ⟨g, 0, none⟩)] W fun e w' => e = .returned (.tuple #[.string ⟨(SW x).toArray⟩, .int .i64 0]) ∧ Below W.heap.size W w' := fun W g hg => C_Bytes g _ W hg (by unfold SW SWh; simp [BE_len]; omega)
        obtain ⟨S, hS⟩ : ∃ S, S = SW x := ⟨_, rfl⟩
        rw [← hS] at hText hWrite hBytes
        obtain ⟨⟨tn, ts, tv, tr, ti, tq⟩, ok⟩ := R
        unfold Tot.val at hTot hOf
        unfold RV at hOf hText
        dsimp only at hTot hOf
        have HTOT := Lib.hid hTot; have HOF := Lib.hid hOf; have HTEXT := Lib.hid hText; have HWRITE := Lib.hid hWrite; have HWNIL := Lib.hid hWnil; have HBYTES := Lib.hid hBytes; have HM := Lib.hid hmb; have HB := Lib.hid hB
        clear hTot hOf hText hWrite hWnil hBytes hR hS hs hmb hml hB
        go_upto_region 35 with (first
          | (go_at_call 37; have hk := HOF.out _ HB8.out; refine Calls.mono hk ?_; rintro e w9 ⟨rfl, hb9⟩; have p9 := Tr.blk_keep hb9 P8.out; have m9 := Tr.blk_keep hb9 M8.out; have hb9 := Tr.below_trans HB8.out hb9; have P9 := Lib.hid p9; have M9 := Lib.hid m9; have HB9 := Lib.hid hb9; clear p9 m9 hb9 cm8)
          | (go_at_call 26; have hk := HTOT.out w7 HB7.out; refine Calls.mono hk ?_; rintro e w8 ⟨rfl, hb8⟩; have p8 := Tr.blk_new w8 (.cells #[.int .i64 tn, .int .i64 ts, .int .i64 tv, .int .i64 tr, .int .i64 ti, .int .i64 tq] 55); have hb8 := Tr.below_alloc (Tr.below_trans HB7.out hb8) (Nat.le_refl _) (o := .cells #[.int .i64 tn, .int .i64 ts, .int .i64 tv, .int .i64 tr, .int .i64 ti, .int .i64 tq] 55); have m8 := Tr.blk_keep hb8 HM.out; have cm8 := fun o => Tr.cell_blk (o := o) m8; have P8 := Lib.hid p8; have M8 := Lib.hid m8; have HB8 := Lib.hid hb8; clear p8 m8 hb8)
          | (go_at_call 36; have hk := HBYTES.out w6 wr.heap.size HW6.out; refine Calls.mono hk ?_; rintro e w7 ⟨rfl, hb7⟩; have hb7 := Tr.below_trans HB6.out hb7; have HB7 := Lib.hid hb7; clear hb7)
          | (go_at_call 35; have hk := HWNIL.out w5 HB5.out; refine Calls.mono hk ?_; rintro e w6 ⟨rfl, hb6⟩; have hw6 := Wr.keep HW5.out hb6; have hb6 := Tr.below_trans HB5.out hb6; have HW6 := Lib.hid hw6; have HB6 := Lib.hid hb6; clear hw6 hb6)
          | (go_at_call 35; have hk := HWRITE.out _ wr.heap.size (Tr.below_alloc (Below.refl _ _) (Nat.le_refl _)) ⟨.slice none 0 0, Tr.blk_new _ _, rfl, .inl ⟨rfl, rfl⟩⟩; refine Calls.mono hk ?_; rintro e w5 ⟨rfl, hw5, hc5⟩; have hb5 := below_tr (Tr.below_alloc (Below.refl wr.heap.size wr) (Nat.le_refl _)) hc5.1; have HW5 := Lib.hid hw5; have HB5 := Lib.hid hb5; clear hw5 hc5 hb5)
          | fail)
        have p10 := Tr.blk_old (x := .cells #[.int .i64 tn, .int .i64 ts, .int .i64 tv, .int .i64 tr, .int .i64 ti, .int .i64 tq] 69) P9.out
        have m10 := Tr.blk_old (x := .cells #[.int .i64 tn, .int .i64 ts, .int .i64 tv, .int .i64 tr, .int .i64 ti, .int .i64 tq] 69) M9.out
        have n10 := Tr.blk_new w9 (.cells #[.int .i64 tn, .int .i64 ts, .int .i64 tv, .int .i64 tr, .int .i64 ti, .int .i64 tq] 69)
        have hb10 := Tr.below_alloc HB9.out (Nat.le_refl _) (o := .cells #[.int .i64 tn, .int .i64 ts, .int .i64 tv, .int .i64 tr, .int .i64 ti, .int .i64 tq] 69)
        generalize w9.alloc (.cells #[.int .i64 tn, .int .i64 ts, .int .i64 tv, .int .i64 tr, .int .i64 ti, .int .i64 tq] 69) = W at *
        generalize w8.heap.size = pb at *
        generalize w9.heap.size = nb at *
        have hof : ∀ W : World, Calls Try.prog 29 #[.agg #[.int .i64 tn, .int .i64 ts, .int .i64 tv, .int .i64 tr, .int .i64 ti, .int .i64 tq]] W fun e w' => e = .returned (.agg #[.int .i64 tn, .int .i64 ts, .int .i64 tv, .int .i64 tr, .int .i64 ti, .int .i64 tq]) ∧ Below W.heap.size W w' := fun W => C_of26 ⟨tn, ts, tv, tr, ti, tq⟩ W
        have h63 : ∀ W, (Op.equalIn 9999 63 (.agg #[.int .i64 ts, .int .i64 tv, .int .i64 tr, .int .i64 ti, .int .i64 tq]) (.agg #[.int .i64 ts, .int .i64 tv, .int .i64 tr, .int .i64 ti, .int .i64 tq])).run Try.prog W = .ok true W := fun W => eq63 ts tv tr ti tq 9997 W
        have h69 : ∀ W, (Op.equalIn 10000 69 (.agg #[.int .i64 tn, .int .i64 ts, .int .i64 tv, .int .i64 tr, .int .i64 ti, .int .i64 tq]) (.agg #[.int .i64 tn, .int .i64 ts, .int .i64 tv, .int .i64 tr, .int .i64 ti, .int .i64 tq])).run Try.prog W = .ok true W := fun W => eq69 tn ts tv tr ti tq W
        have cp : ∀ d os (z : Nat), (grow (redrawn W d) os).cell? ⟨pb, z, none⟩ = _ := fun d os z => Tr.cell_blk (Tr.blk_grown p10 d os)
        have cm : ∀ d os (z : Nat), (grow (redrawn W d) os).cell? ⟨m, z, none⟩ = _ := fun d os z => Tr.cell_blk (Tr.blk_grown m10 d os)
        have cn : ∀ d os (z : Nat), (grow (redrawn W d) os).cell? ⟨nb, z, none⟩ = _ := fun d os z => Tr.cell_blk (Tr.blk_grown n10 d os)
        have htext : ∀ d os, Calls Try.prog 38 #[.agg #[.int .i64 x.keep, .int .i64 x.next, .bool x.op, .int .i64 x.now.n, .int .i64 x.now.s, .int .i64 x.now.v, .int .i64 x.now.r, .int .i64 x.now.i, .int .i64 x.now.o, .slice ma x.cl.length mcap]] (grow (redrawn W d) os) _ := fun d os => HTEXT.out _ (below_tr hb10 ((below_regrown W d os).mono hb10.size))
        have HOFF := Lib.hid hof; have HTX := Lib.hid htext; have HB10 := Lib.hid hb10
        clear hof htext hb10 p10 m10 n10 hb6 hb7 hb8 hb9 hk
        refine wp_region_quiet_below (by kernel_rfl) (by kernel_rfl) ?_
        repeat (any_goals (go_big_quiet_step ((first | (go_at_call 29; exact Calls.regrown_of (HOFF.out _)) | (go_at_call 38; exact Calls.regrown_of (HTX.out _ _)) | fail))))
        refine wpQuiet_nil ?_
        intro w11 hw11
        have hb11 := Tr.below_grown hw11
        clear hw11 cp cm cn
        go_wp2_with fail
        go_ret
        exact ⟨rfl, Tr.below_trans (below_tr HB.out ((HB10.out).mono HB.out.size)) hb11⟩
end Go.Proofs.Ytjkfkgpdlflbhaa
