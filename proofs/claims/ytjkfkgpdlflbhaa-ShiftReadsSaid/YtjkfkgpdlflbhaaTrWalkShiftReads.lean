/- ShiftReads, the walk. -/
import Derived.Test.YtjkfkgpdlflbhaaTrReadsPure
import Derived.Laws.StructEq
import Derived.WideLaws
import Derived.Deep.CutBlock
import Derived.Deep.CutRange
import Derived.Deep.RegionHeld3
import Derived.Lib.ConvBytes
namespace Go.Proofs.Ytjkfkgpdlflbhaa
open Go.RowKit Go.Sort
open Tr (Sl Chg)
set_option linter.unusedVariables false
set_option linter.unusedSimpArgs false
attribute [local go_sem] Tr.go_max2 Tr.go_min2 Tr.go_max_two Tr.go_min_two

/-- Between two acts. -/
def QAt (w : World) (m T : Nat) (p q : Int) (s47 : Value) (wx : World) : Prop :=
  ∃ (i : Nat) (x : Sh), s47 = .int .i64 i ∧ i ≤ T ∧ x.ok ∧ RIs wx m x ∧ wx.heap[w.heap.size]? = some (.cells #[.int .u16 p, .int .u16 q] 94 (0, 0)) ∧ Below w.heap.size w wx
theorem QAt.step {w w7 W8 : World} {m T i : Nat} {p q : Int} {x' : Sh} {a : Option Addr} {cap : Nat} {cs : Array Value} {f : Nat × Nat} (hi : i + 1 ≤ T) (hc : Chg m w7 W8) (hm7 : w7.heap[m]? = some (.cells cs 74 f)) (hok : x'.ok)
    (hm8 : W8.heap[m]? = some (.cells #[.int .i64 x'.keep, .int .i64 x'.next, .bool x'.op, .int .i64 x'.now.n, .int .i64 x'.now.s, .int .i64 x'.now.v, .int .i64 x'.now.r, .int .i64 x'.now.i, .int .i64 x'.now.o, .slice a x'.cl.length cap] 74 (0, 0)))
    (hsl : Sl 69 6 w7 (.slice a x'.cl.length cap) x'.cl.length (tots x'.cl)) (hx : w7.heap[w.heap.size]? = some (.cells #[.int .u16 p, .int .u16 q] 94 (0, 0))) (hne : w.heap.size ≠ m) (hB : Below w.heap.size w w7) (hle : w.heap.size ≤ m) :
    QAt w m T p q (.int .i64 ((i : Int) + 1)) W8 :=
  ⟨i + 1, x', by simp, hi, hok, ⟨a, cap, hm8, Sl.chg hsl hc hm7 (by decide)⟩, hc.keep hx hne, hc.below hB hle (Nat.le_refl _)⟩
set_option maxRecDepth 100000 in
set_option maxHeartbeats 8000000 in
theorem walk_ShiftReads : SayShiftReads := by
  intro s0 a rows cap c2 w hs0 hrows hc2
  obtain ⟨_, _, rfl, ⟨p, rfl, hp⟩, _, _, rfl, ⟨q, rfl, hq⟩, rfl⟩ := hc2
  obtain ⟨sl, rfl⟩ : ∃ sl : List UInt8, s0 = ⟨sl.toArray⟩ := ⟨s0.data.toList, by simp⟩
  have hacts := acts_of hrows
  have hcapl := hrows.1
  have hcapm := hrows.2.1
  unfold maxLen at hcapm
  have HA := Lib.hid hacts
  clear hacts hrows
  have hp01 : 0 ≤ p ∧ p ≤ 65535 := by simp [Lit.wf] at hp; have e1 : IntKind.u16.min = 0 := rfl; have e2 : IntKind.u16.max = 65535 := rfl; omega
  have hq01 : 0 ≤ q ∧ q ≤ 65535 := by simp [Lit.wf] at hq; have e1 : IntKind.u16.min = 0 := rfl; have e2 : IntKind.u16.max = 65535 := rfl; omega
  clear hp hq
  obtain ⟨hp0, hp1⟩ := hp01
  obtain ⟨hq0, hq1⟩ := hq01
  have hsz : (ByteArray.mk sl.toArray).size = sl.length := by simp [ByteArray.size]
  obtain ⟨M, hM⟩ : ∃ M : Nat, M = min sl.length 200 := ⟨_, rfl⟩
  have hMi : min (sl.length : Int) 200 = M := by omega
  have hM1 : M ≤ sl.length := by omega
  have hM2 : M ≤ 200 := by omega
  clear hM
  obtain ⟨T, hT⟩ : ∃ T : Nat, T = min rows.length 20 := ⟨_, rfl⟩
  have hTi : min (rows.length : Int) 20 = T := by omega
  have hT1 : T ≤ rows.length := by omega
  have hT2 : T ≤ 20 := by omega
  clear hT
  go_enter Try.func10, Try.ntmps10
  go_wp2_with fail
  rw [str_take]
  obtain ⟨s, hs⟩ : ∃ s, s = sl.take M := ⟨_, rfl⟩
  have hsl : s.length ≤ 200 := by rw [hs]; simp; omega
  rw [← hs]
  have hok0 : (Sh.mk 4 1 false .zero []).ok := ⟨⟨by simp, by simp⟩, by simp, Tot.zero_ok, by simp, by simp, by simp⟩
  go_loopw [47] (fun s47 wr => QAt w (w.heap.size + 1) T p q s47 wr) (fun s47 _ => T - (intOf s47).toNat)
  case atStart =>
    refine ⟨0, _, rfl, Nat.zero_le _, hok0, ⟨none, 0, ?_, none, 0, rfl, Nat.le_refl _, rfl, by simp [tots], fun h => by simp at h⟩, ?_, ?_⟩
    · exact Tr.blk_at (by simp)
    · (repeat (first | with_reducible assumption | with_reducible refine Tr.blk_drew ?_ | with_reducible refine Tr.blk_drewN ?_ | (refine Tr.blk_at ?_; focus (first | (simp; done) | (simp; omega))) | with_reducible refine Tr.blk_old ?_ | ((with_reducible refine Tr.blk_set_ne ?_ _ ?_); rotate_left; focus (first | (simp; done) | (simp; omega) | (simp; assumption)))))
    · (repeat (first | with_reducible assumption | (with_reducible exact Below.refl _ _) | ((with_reducible refine Tr.below_alloc ?_ ?_); rotate_left; focus (first | omega | exact Nat.le_refl _)) | (with_reducible refine Tr.below_drew ?_) | (with_reducible refine Tr.below_drewN ?_) | ((with_reducible refine Tr.below_set ?_ ?_); rotate_left; focus (first | omega | (simp; done) | (simp; omega))) | ((with_reducible refine Tr.below_trans ?_ (by assumption) ?_); rotate_left; focus (first | exact Nat.le_refl _ | omega))))
  case round =>
    clear hs
    obtain ⟨i, x, rfl, hi, hxo, ⟨ra, rcap, hrb, hrl⟩, hbx, hB⟩ := hrel
    have hmlt := Tr.blk_lt hrb
    by_cases hlt : i < T
    · obtain ⟨bb, off, rfl, d, k, am, ⟨hd, hk, ham⟩, q0, q1, q2⟩ := HA.out i (by omega)
      have hqq : bb < w.heap.size := block_lt_of_cell q0
      have p0 : wr.cell? ⟨bb, off + i * 3, none⟩ = some (.int .i64 d) := by rw [hB.cell (p := ⟨bb, off + i * 3, none⟩) hqq, q0]
      have p1 : wr.cell? ⟨bb, off + i * 3 + 1, none⟩ = some (.int .u8 k) := by rw [hB.cell (p := ⟨bb, off + i * 3 + 1, none⟩) hqq, q1]
      have p2 : wr.cell? ⟨bb, off + i * 3 + 2, none⟩ = some (.int .i64 am) := by rw [hB.cell (p := ⟨bb, off + i * 3 + 2, none⟩) hqq, q2]
      clear q0 q1 q2
      obtain ⟨hd0, hd1⟩ := hd
      have m5 := Tr.blk_old (x := (.cells #[.int .i64 d, .int .u8 k, .int .i64 am] 50)) hrb
      have x5 := Tr.blk_old (x := (.cells #[.int .i64 d, .int .u8 k, .int .i64 am] 50)) hbx
      have a5 := Tr.blk_new wr (.cells #[.int .i64 d, .int .u8 k, .int .i64 am] 50)
      have l5 := Sl.keep (Tr.below_alloc (Below.refl wr.heap.size wr) (Nat.le_refl _) (o := (.cells #[.int .i64 d, .int .u8 k, .int .i64 am] 50))) hrl
      have hB5 := Tr.below_alloc hB (Nat.le_refl _) (o := (.cells #[.int .i64 d, .int .u8 k, .int .i64 am] 50))
      clear hrb hbx hrl hB
      go_upto_block 2 with fail
      generalize wr.alloc (.cells #[.int .i64 d, .int .u8 k, .int .i64 am] 50) = W5 at *
      generalize wr.heap.size = g at *
      obtain ⟨D, hD⟩ : ∃ D, D = max 0 d % 5 := ⟨_, rfl⟩
      rw [← hD]
      have hD0 : 0 ≤ D ∧ D < 5 := by omega
      obtain ⟨hD0, hD1⟩ := hD0
      clear hD p0 p1 p2
      have cm5 := fun o => Tr.cell_blk (o := o) m5
      have ca5 := fun o => Tr.cell_blk (o := o) a5
      have lm5 := Tr.blk_lt m5
      have la5 := Tr.blk_lt a5
      have M5 := Lib.hid m5; have X5 := Lib.hid x5; have L5 := Lib.hid l5; have HB5 := Lib.hid hB5
      clear m5 x5 a5 l5 hB5
      by_cases h3 : D = 3
      · subst h3
        have hR := fun W => C_RStart x ra x.cl.length rcap W hxo.2.1
        obtain ⟨x', n', e', he⟩ : ∃ x' n' e', x.start = (x', n', e') := ⟨_, _, _, rfl⟩
        have hxo' : x'.ok := by have h := Sh.start_ok hxo; rw [he] at h; exact h
        have hcl' : x'.cl = x.cl := by have h := Sh.start_cl x; rw [he] at h; exact h
        simp only [he] at hR
        obtain ⟨keep', next', op', ⟨n, s', v, r, io, o⟩, cl'⟩ := x'
        dsimp only at hcl'
        subst hcl'
        unfold RV at hR
        dsimp only at hR
        have HR := Lib.hid hR; have HE := Lib.hid he
        clear hR he
        go_wp2_with (go_at_call 31; refine Calls.mono (HR.out W5) ?_; rintro e w7 ⟨rfl, hb7⟩; have m7 := Tr.blk_keep hb7 M5.out; have lm7 := Tr.blk_lt m7; have cm7 := fun o => Tr.cell_blk (o := o) m7; have fm7 := fun o => Tr.frozen_blk (o := o) m7; have M7 := Lib.hid m7; have HB7 := Lib.hid hb7; clear m7 hb7)
        go_roundw
        case rel =>
          have m7 := M7.out
          refine QAt.step (x' := ⟨keep', next', op', ⟨n, s', v, r, io, o⟩, x.cl⟩) (a := ra) (cap := rcap) (by omega) ?_ m7 hxo' ?_ (Sl.keep HB7.out L5.out) (Tr.blk_keep HB7.out X5.out) (by omega) (Tr.below_trans HB5.out HB7.out) (by omega)
          · (repeat (first | with_reducible assumption | (with_reducible exact Tr.Chg.refl _ _) | (with_reducible refine Tr.Chg.set ?_ _ _) | (with_reducible refine Tr.Chg.alloc ?_ _) | (with_reducible refine Tr.Chg.drew ?_) | (with_reducible refine Tr.Chg.drewN ?_) | ((with_reducible refine Tr.Chg.set_new ?_ _ ?_); rotate_left; focus (first | omega | (simp; done) | (simp; omega))) | (with_reducible refine Tr.Chg.grown ?_ (by assumption)) | (with_reducible refine Tr.Chg.trans ?_ (by assumption))))
          · (simp only [Tr.heap_set_same, m7, Option.map_some, Tr.setObj]; simp [])
        case measure => simp [intOf]; omega
      · have h3b : (D == 3) = false := by simpa using h3
        by_cases h4 : D = 4
        · subst h4
          have hR := fun W h => C_REnd_any x ra rcap W h hxo
          obtain ⟨x', n', t', e', he⟩ : ∃ x' n' t' e', x.end_ = (x', n', t', e') := ⟨_, _, _, _, rfl⟩
          have hxo' : x'.ok := by have h := Sh.end_ok hxo; rw [he] at h; exact h
          simp only [he] at hR
          obtain ⟨keep', next', op', ⟨n, s', v, r, io, o⟩, cl'⟩ := x'
          unfold RV Tot.val at hR
          dsimp only at hR
          have HR := Lib.hid hR; have HE := Lib.hid he
          clear hR he
          go_wp2_with (go_at_call 32; refine Calls.mono (HR.out W5 L5.out) ?_; rintro e w7 ⟨⟨a', cap', rfl, hl7⟩, hb7⟩; have m7 := Tr.blk_keep hb7 M5.out; have lm7 := Tr.blk_lt m7; have cm7 := fun o => Tr.cell_blk (o := o) m7; have fm7 := fun o => Tr.frozen_blk (o := o) m7; have M7 := Lib.hid m7; have HB7 := Lib.hid hb7; have HL7 := Lib.hid hl7; clear m7 hb7 hl7)
          go_roundw
          case rel =>
            have m7 := M7.out
            refine QAt.step (x' := ⟨keep', next', op', ⟨n, s', v, r, io, o⟩, cl'⟩) (a := a') (cap := cap') (by omega) ?_ m7 hxo' ?_ HL7.out (Tr.blk_keep HB7.out X5.out) (by omega) (Tr.below_trans HB5.out HB7.out) (by omega)
            · (repeat (first | with_reducible assumption | (with_reducible exact Tr.Chg.refl _ _) | (with_reducible refine Tr.Chg.set ?_ _ _) | (with_reducible refine Tr.Chg.alloc ?_ _) | (with_reducible refine Tr.Chg.drew ?_) | (with_reducible refine Tr.Chg.drewN ?_) | ((with_reducible refine Tr.Chg.set_new ?_ _ ?_); rotate_left; focus (first | omega | (simp; done) | (simp; omega))) | (with_reducible refine Tr.Chg.grown ?_ (by assumption)) | (with_reducible refine Tr.Chg.trans ?_ (by assumption))))
            · (simp only [Tr.heap_set_same, m7, Option.map_some, Tr.setObj]; simp [])
          case measure => simp [intOf]; omega
        · have h4b : (D == 4) = false := by simpa using h4
          obtain ⟨kk, rfl⟩ := Int.eq_ofNat_of_zero_le hk.1
          have hR := fun W => C_RAdd x kk am ra x.cl.length rcap W (by omega) ham hxo
          obtain ⟨x', e', he⟩ : ∃ x' e', x.add kk am = (x', e') := ⟨_, _, rfl⟩
          have hxo' : x'.ok := by have h := Sh.add_ok hxo kk am; rw [he] at h; exact h
          have hcl' : x'.cl = x.cl := by have h := Sh.add_cl x kk am; rw [he] at h; exact h
          simp only [he] at hR
          obtain ⟨keep', next', op', ⟨n, s', v, r, io, o⟩, cl'⟩ := x'
          dsimp only at hcl'
          subst hcl'
          unfold RV at hR
          dsimp only at hR
          have HR := Lib.hid hR; have HE := Lib.hid he
          clear hR he
          go_wp2_with (go_at_call 33; refine Calls.mono (HR.out W5) ?_; rintro e w7 ⟨rfl, hb7⟩; have m7 := Tr.blk_keep hb7 M5.out; have lm7 := Tr.blk_lt m7; have cm7 := fun o => Tr.cell_blk (o := o) m7; have fm7 := fun o => Tr.frozen_blk (o := o) m7; have M7 := Lib.hid m7; have HB7 := Lib.hid hb7; clear m7 hb7)
          go_roundw
          case rel =>
            have m7 := M7.out
            refine QAt.step (x' := ⟨keep', next', op', ⟨n, s', v, r, io, o⟩, x.cl⟩) (a := ra) (cap := rcap) (by omega) ?_ m7 hxo' ?_ (Sl.keep HB7.out L5.out) (Tr.blk_keep HB7.out X5.out) (by omega) (Tr.below_trans HB5.out HB7.out) (by omega)
            · (repeat (first | with_reducible assumption | (with_reducible exact Tr.Chg.refl _ _) | (with_reducible refine Tr.Chg.set ?_ _ _) | (with_reducible refine Tr.Chg.alloc ?_ _) | (with_reducible refine Tr.Chg.drew ?_) | (with_reducible refine Tr.Chg.drewN ?_) | ((with_reducible refine Tr.Chg.set_new ?_ _ ?_); rotate_left; focus (first | omega | (simp; done) | (simp; omega))) | (with_reducible refine Tr.Chg.grown ?_ (by assumption)) | (with_reducible refine Tr.Chg.trans ?_ (by assumption))))
            · (simp only [Tr.heap_set_same, m7, Option.map_some, Tr.setObj]; simp [])
          case measure => simp [intOf]; omega
    · have hie : i = T := by omega
      obtain ⟨L, hL⟩ : ∃ L, L = SW x := ⟨_, rfl⟩
      have hLl := SW_len x hxo
      rw [← hL] at hLl
      obtain ⟨hL0, hL1⟩ := hLl
      have hText : Calls Try.prog 38 #[RV x (.slice ra x.cl.length rcap)] wr fun e w' => e = .returned (.string ⟨L.toArray⟩) ∧ Below wr.heap.size wr w' := by rw [hL]; exact C_RText x ra rcap wr hrl hxo
      unfold RV at hText
      obtain ⟨N, hN⟩ : ∃ N, N = L.length := ⟨_, rfl⟩
      rw [← hN] at hL0 hL1
      have hN0 : ¬ N = 0 := by omega
      have hszL : (ByteArray.mk L.toArray).size = N := by rw [hN]; simp [ByteArray.size]
      have HNN := Lib.hid hN
      clear hN
      have hconv : ∀ W : World, (convert 9 42 (.string ⟨L.toArray⟩)).run Try.prog W = .ok (.slice (some ⟨W.heap.size, 0, none⟩) N (grownCap W N 0 5)) (Lib.bytesWorld W 5 ⟨L.toArray⟩) := fun W => by
        have h := Lib.run_convert_string_bytes (P := Try.prog) W 9 42 5 ⟨L.toArray⟩ Try.underlying9 Try.underlying42 Try.underlying5
        rw [hszL] at h
        exact h
      have cm := fun o => Tr.cell_blk (o := o) hrb
      have HTEXT := Lib.hid hText; have HBX := Lib.hid hbx; have HB := Lib.hid hB
      clear hText hbx hB hrb hrl hL
      go_upto_region 15 with (go_at_call 38; refine Calls.mono HTEXT.out ?_; rintro e w7 ⟨rfl, hb7⟩)
      obtain ⟨p, rfl⟩ := Int.eq_ofNat_of_zero_le hp0
      obtain ⟨kx, hkx⟩ : ∃ kx, kx = p % N := ⟨_, rfl⟩
      have hkx1 : (p : Int) % (N : Int) = kx := by rw [hkx]; exact (Int.natCast_emod p N).symm
      have hkx2 : Int.tmod (p : Int) (N : Int) = kx := by rw [hkx]; rfl
      have hkl : kx < N := by rw [hkx]; exact Nat.mod_lt _ (by omega)
      have hbw : Below w7.heap.size w7 (Lib.bytesWorld w7 5 ⟨L.toArray⟩) := ⟨rfl, rfl, rfl, by rw [Lib.bytesWorld_size]; omega, fun j hj => Lib.bytesWorld_at_old _ _ _ j hj⟩
      have hrow : ∀ j, j < N → (Lib.bytesWorld w7 5 ⟨L.toArray⟩).cell? ⟨w7.heap.size, j, none⟩ = some (.int .u8 (L.getD j 0).toNat) := fun j hj => by
        rw [Lib.bytesWorld_cell w7 _ _ j (by rw [hszL]; exact hj)]
      have hnew := Lib.bytesWorld_at_new w7 5 ⟨L.toArray⟩
      have hcs : N ≤ (Lib.bytesCells w7 5 ⟨L.toArray⟩).size := by
        unfold Lib.bytesCells
        simp [HNN.out]
      have x8 := Tr.blk_keep hbw (Tr.blk_keep hb7 HBX.out)
      have hB8 := Tr.below_trans (Tr.below_trans HB.out hb7) hbw
      generalize Lib.bytesCells w7 5 ⟨L.toArray⟩ = BC at *
      generalize Lib.bytesWorld w7 5 ⟨L.toArray⟩ = W8 at *
      have hfr : ∀ j, j < N → W8.frozen? ⟨w7.heap.size, j, none⟩ = false := fun j hj => by
        simp [World.frozen?, hnew]
        omega
      have lw8 := Tr.blk_lt hnew
      have lx8 := Tr.blk_lt x8
      have hlx : w.heap.size < w7.heap.size := by have := HB.out.size; have := hb7.size; omega
      clear hb7 hbw
      generalize w7.heap.size = tb at *
      have ck := hrow kx hkl
      have fk := hfr kx hkl
      have cx := fun o => Tr.cell_blk (o := o) x8
      have hS8 : ∀ z : Nat, W8.drew.cell? ⟨w.heap.size, z, none⟩ = (#[.int .u16 (p : Int), .int .u16 q] : Array Value)[z]? := fun z => Tr.cell_blk (Tr.blk_drew x8)
      have X8 := Lib.hid x8; have HB8 := Lib.hid hB8; have HROW := Lib.hid hrow; have HNEW := Lib.hid hnew; have HS8 := Lib.hid hS8; have HFR := Lib.hid hfr
      clear x8 hB8 hrow hnew hconv hS8 hfr cm
      clear hkx
      have hrem : ∀ W : World, (binOp .rem 3 (.int .i64 (p : Int)) (.int .i64 (N : Int))).run Try.prog W = .ok (.int .i64 (kx : Int)) W := fun W => by
        go_simp
      have hNi : ¬ (N : Int) = 0 := by omega
      have hki0 : (0 : Int) ≤ kx := by omega
      have hki1 : (kx : Int) < N := by omega
      go_region
      go_wp2_with fail
      obtain ⟨q, rfl⟩ := Int.eq_ofNat_of_zero_le hq0
      have hxor : bits BinOp.xor IntKind.u8 (((L[kx]?.getD 0).toNat : Nat) : Int) ((q : Int) % 256) = (((UInt8.ofNat ((L[kx]?.getD 0).toNat ^^^ (q % 256))).toNat : Nat) : Int) := by
        have h1 : (L[kx]?.getD 0).toNat < 256 := UInt8.toNat_lt _
        have h2 : q % 256 < 256 := Nat.mod_lt _ (by omega)
        have h3 : (L[kx]?.getD 0).toNat ^^^ (q % 256) < 2 ^ 8 := Nat.xor_lt_two_pow h1 h2
        rw [show (q : Int) % 256 = ((q % 256 : Nat) : Int) by omega, u8_xor_nat _ _ h1 h2, UInt8.toNat_ofNat_of_lt' (by simpa using h3)]
      rw [hxor]
      obtain ⟨v8, hv8⟩ : ∃ v8, v8 = UInt8.ofNat ((L[kx]?.getD 0).toNat ^^^ (q % 256)) := ⟨_, rfl⟩
      rw [← hv8]
      obtain ⟨L2, hL2⟩ : ∃ L2, L2 = L.set kx v8 := ⟨_, rfl⟩
      have hL2l : L2.length = N := by rw [hL2, List.length_set, HNN.out]
      have hBC : ∀ j, j < N → (BC.setIfInBounds kx (.int .u8 (v8.toNat : Nat)))[j]? = some (.int .u8 (L2.getD j 0).toNat) := fun j hj => by
        have h1 := HROW.out j hj
        rw [Tr.cell_blk HNEW.out] at h1
        have hjL : j < L.length := by rw [← HNN.out]; exact hj
        by_cases hjk : j = kx
        · subst hjk
          rw [hL2]
          simp [Array.getElem?_setIfInBounds, List.getD, hjL, show j < BC.size by omega]
        · rw [Array.getElem?_setIfInBounds_ne (Ne.symm hjk), h1, hL2]
          simp [List.getD, List.getElem?_set, Ne.symm hjk]
      have kL : ((W8.setCell ⟨tb, kx, none⟩ (.int .u8 (v8.toNat : Nat))).alloc (.cells #[.int .i64 4, .int .i64 2, .int .i64 65] 3)).drew.heap[W8.heap.size]? = some (.cells #[.int .i64 4, .int .i64 2, .int .i64 65] 3 (0, 0)) := Tr.blk_drew (Tr.blk_at (by simp))
      have xL : ((W8.setCell ⟨tb, kx, none⟩ (.int .u8 (v8.toNat : Nat))).alloc (.cells #[.int .i64 4, .int .i64 2, .int .i64 65] 3)).drew.heap[w.heap.size]? = some (.cells #[.int .u16 (p : Nat), .int .u16 (q : Nat)] 94 (0, 0)) := Tr.blk_drew (Tr.blk_old (Tr.blk_set_ne X8.out _ (show tb ≠ w.heap.size by omega)))
      have tL : ((W8.setCell ⟨tb, kx, none⟩ (.int .u8 (v8.toNat : Nat))).alloc (.cells #[.int .i64 4, .int .i64 2, .int .i64 65] 3)).drew.heap[tb]? = some (.cells (BC.setIfInBounds kx (.int .u8 (v8.toNat : Nat))) 5 (BC.size, BC.size + 1)) := Tr.blk_drew (Tr.blk_old (Tr.blk_set HNEW.out _))
      have bL : Below w.heap.size w ((W8.setCell ⟨tb, kx, none⟩ (.int .u8 (v8.toNat : Nat))).alloc (.cells #[.int .i64 4, .int .i64 2, .int .i64 65] 3)).drew := Tr.below_drew ((Tr.below_set HB8.out (show w.heap.size ≤ tb by omega)).alloc (by have := HB8.out.size; simpa [World.setCell] using this) _)
      generalize ((W8.setCell ⟨tb, kx, none⟩ (.int .u8 (v8.toNat : Nat))).alloc (.cells #[.int .i64 4, .int .i64 2, .int .i64 65] 3)).drew = WL at *
      generalize BC.setIfInBounds kx (.int .u8 (v8.toNat : Nat)) = BC2 at *
      generalize W8.heap.size = kb at *
      have KL := Lib.hid kL; have XL := Lib.hid xL; have TL := Lib.hid tL; have BL := Lib.hid bL; have HBC := Lib.hid hBC; have HL2 := Lib.hid hL2l
      clear kL xL tL bL hBC hL2 hL2l hv8 hxor ck fk cx X8 HB8 HROW HNEW HS8 HFR
      go_loopw [102] (fun s102 wr => ∃ i : Nat, i ≤ 3 ∧ s102 = .int .i64 i ∧ Below WL.heap.size WL wr) (fun s102 _ => 3 - (intOf s102).toNat)
      case atStart => exact ⟨0, by omega, rfl, Below.refl _ _⟩
      case round =>
        obtain ⟨i2, hi2, rfl, hBr⟩ := hrel
        by_cases hlt2 : i2 < 3
        · have kR := Tr.blk_keep hBr KL.out
          have xR := Tr.blk_keep hBr XL.out
          have tR := Tr.blk_keep hBr TL.out
          obtain ⟨kp, hkp, hkc⟩ : ∃ kp : Int, ((1 ≤ kp ∧ kp ≤ 64) ∨ 64 < kp) ∧ (#[.int .i64 4, .int .i64 2, .int .i64 65] : Array Value)[i2]? = some (.int .i64 kp) := by
            have : i2 = 0 ∨ i2 = 1 ∨ i2 = 2 := by omega
            rcases this with rfl | rfl | rfl
            · exact ⟨4, by omega, rfl⟩
            · exact ⟨2, by omega, rfl⟩
            · exact ⟨65, by omega, rfl⟩
          have qk : wr.cell? ⟨kb, i2, none⟩ = some (.int .i64 kp) := by rw [Tr.cell_blk kR]; exact hkc
          have cx := fun o => Tr.cell_blk (o := o) xR
          have lx := Tr.blk_lt xR
          have hconv2 : (convert 42 9 (.slice (some ⟨tb, 0, none⟩) N (grownCap w7 N 0 5))).run Try.prog wr.drew = .ok (.string ⟨L2.toArray⟩) wr.drew := by
            have h := Go.run_convert_bytes_back (P := Try.prog) wr.drew 42 9 5 ⟨tb, 0, none⟩ (grownCap w7 N 0 5) L2 Try.underlying42 Try.underlying5 Try.underlying9 (fun j hj => by
              rw [show (⟨tb, 0, none⟩ : Addr).add j = ⟨tb, j, none⟩ by (unfold Addr.add; split <;> simp_all), Tr.cell_blk (Tr.blk_drew tR), HBC.out j (by rw [← HL2.out]; exact hj)]
              simp [List.getD, hj])
            rw [HL2.out] at h
            exact h
          have hszs : (ByteArray.mk s.toArray).size ≤ 200 := by simp only [ByteArray.size, List.size_toArray]; exact hsl
          have hsz1 : ¬ 9223372036854775807 < (ByteArray.mk L.toArray).size + (ByteArray.mk s.toArray).size := by rw [hszL]; omega
          have hadd : ∀ W, (Op.stringOp .add ⟨L.toArray⟩ ⟨s.toArray⟩).run Try.prog W = .ok (.string (⟨L.toArray⟩ ++ ⟨s.toArray⟩)) W := fun W => by rw [run_string_add_if, if_neg hsz1]
          have hki2 : (kx : Int) ≤ N := by omega
          have HBR := Lib.hid hBr; have KR := Lib.hid kR; have XR := Lib.hid xR; have TR := Lib.hid tR; have HKP := Lib.hid hkp
          clear hBr kR xR tR hkp hkc
          go_upto_region 19 with fail
          go_region
          go_wp2_with fail
          have sI : ((wr.alloc (.cells #[.string ⟨s.toArray⟩, .string (⟨L.toArray⟩ ++ ⟨s.toArray⟩), .string ⟨L2.toArray⟩, .string ((ByteArray.mk L.toArray).extract 0 kx)] 9)).drew).heap[wr.heap.size]? = some (.cells #[.string ⟨s.toArray⟩, .string (⟨L.toArray⟩ ++ ⟨s.toArray⟩), .string ⟨L2.toArray⟩, .string ((ByteArray.mk L.toArray).extract 0 kx)] 9 (0, 0)) := Tr.blk_drew (Tr.blk_new _ _)
          have bI : Below wr.heap.size wr ((wr.alloc (.cells #[.string ⟨s.toArray⟩, .string (⟨L.toArray⟩ ++ ⟨s.toArray⟩), .string ⟨L2.toArray⟩, .string ((ByteArray.mk L.toArray).extract 0 kx)] 9)).drew) := Tr.below_drew (Tr.below_alloc (Below.refl _ _) (Nat.le_refl _))
          have bWL := Tr.below_trans HBR.out bI
          have BWL := Lib.hid bWL
          clear bWL
          generalize (wr.alloc (.cells #[.string ⟨s.toArray⟩, .string (⟨L.toArray⟩ ++ ⟨s.toArray⟩), .string ⟨L2.toArray⟩, .string ((ByteArray.mk L.toArray).extract 0 kx)] 9)).drew = WI at *
          generalize wr.heap.size = sb at *
          have hTs : ∀ j, j < 4 → ∃ Tl : List UInt8, Tl.length ≤ 5000 ∧ (#[.string ⟨s.toArray⟩, .string (⟨L.toArray⟩ ++ ⟨s.toArray⟩), .string ⟨L2.toArray⟩, .string ((ByteArray.mk L.toArray).extract 0 kx)] : Array Value)[j]? = some (.string ⟨Tl.toArray⟩) := fun j hj => by
            have hLl : L.length ≤ 3000 := by rw [← HNN.out]; exact hL1
            have : j = 0 ∨ j = 1 ∨ j = 2 ∨ j = 3 := by omega
            rcases this with rfl | rfl | rfl | rfl
            · exact ⟨s, by omega, rfl⟩
            · refine ⟨L ++ s, by simp; omega, ?_⟩
              show some (Value.string (⟨L.toArray⟩ ++ ⟨s.toArray⟩)) = some (Value.string ⟨(L ++ s).toArray⟩)
              congr 1
            · exact ⟨L2, by rw [HL2.out]; omega, rfl⟩
            · refine ⟨L.take kx, by simp; omega, ?_⟩
              rw [← str_take]
              rfl
          have HTS := Lib.hid hTs; have SI := Lib.hid sI; have BI := Lib.hid bI
          clear hTs sI bI hconv2 hadd qk cx
          simp only [show decide ((i2 : Int) < 3) = true from decide_eq_true (by omega)]
          go_loopw [122] (fun s122 wx => ∃ j : Nat, j ≤ 4 ∧ s122 = .int .i64 j ∧ Below WI.heap.size WI wx) (fun s122 _ => 4 - (intOf s122).toNat)
          case atStart => exact ⟨0, by omega, rfl, Below.refl _ _⟩
          case round =>
            obtain ⟨j, hj, rfl, hBj⟩ := hrel
            by_cases hlt3 : j < 4
            · obtain ⟨Tl, hTl, hTc⟩ := HTS.out j hlt3
              have qs : wr.cell? ⟨sb, j, none⟩ = some (.string ⟨Tl.toArray⟩) := by rw [Tr.cell_blk (Tr.blk_keep hBj SI.out)]; exact hTc
              obtain ⟨NT, hNT⟩ : ∃ NT, NT = Tl.length := ⟨_, rfl⟩
              have hszT : (ByteArray.mk Tl.toArray).size = NT := by rw [hNT]; simp [ByteArray.size]
              have HNT := Lib.hid hNT; have HBJ := Lib.hid hBj
              have hlej := hBj.size
              clear hTc hBj hNT
              by_cases hkbad : 64 < kp
              · go_wp2_with (first
                  | (go_at_call 41; have hk := C_R26Read_keep Tl kp (.inr hkbad) w2; refine Calls.mono hk ?_; rintro e w3 ⟨rfl, hb3⟩)
                  | (go_at_call 40; have hk := C_ShRead_keep (some ⟨wr.heap.size, 0, none⟩) kp (.inr hkbad) w1; refine Calls.mono hk ?_; rintro e w2 ⟨rfl, hb2⟩)
                  | (go_at_call 39; have hk := C_CurRead Tl wr; refine Calls.mono hk ?_; rintro e w1 ⟨rfl, hr1, hb1⟩)
                  | fail)
                go_roundw
                case rel => exact ⟨j + 1, by omega, by go_num, Tr.below_alloc (Tr.below_trans (Tr.below_trans (Tr.below_trans HBJ.out hb1) hb2) hb3) (Nat.le_refl _)⟩
                case measure => simp [intOf]; omega
              · have hkk : 1 ≤ kp ∧ kp ≤ 64 := by have := HKP.out; omega
                obtain ⟨hk0', hk1'⟩ := hkk
                by_cases hgood : goodL kp Tl
                · have hyo := shL_ok kp Tl hk0' hk1' hgood
                  have hg2 := hgood.2.2.1
                  obtain ⟨u, hu⟩ : ∃ u : Int, u = 7 + 44 * ((bL Tl 6 : Int) + bL Tl 5) := ⟨_, rfl⟩
                  have hu0 : 0 ≤ u ∧ u ≤ 5000 := by omega
                  obtain ⟨hu0, hu1⟩ := hu0
                  obtain ⟨d9, hd9⟩ : ∃ d9 : Int, (NT : Int) - u = d9 := ⟨_, rfl⟩
                  have hNT5 : (NT : Int) ≤ 5000 := by rw [HNT.out]; omega
                  have hd0 : -9223372036854775808 ≤ d9 := by omega
                  have hd1 : d9 ≤ 9223372036854775807 := by omega
                  have hSh := fun W => C_Sh_good wr.heap.size Tl kp hk0' hk1' hgood W
                  have hRf := fun W => C_R26_good Tl kp hk0' hk1' (by omega) hgood W
                  rw [← hu] at hRf
                  have hLf : ∀ W, Rd W wr.heap.size (Tl.drop (7 + 44 * (bL Tl 6 + bL Tl 5)), false) → Calls Try.prog 42 #[.pointer (some ⟨wr.heap.size, 0, none⟩)] W fun e w' => e = .returned (.int .i64 d9) ∧ Below W.heap.size W w' := fun W hW => by
                    have h := C_RdLeft wr.heap.size _ W hW
                    rw [show (((Tl.drop (7 + 44 * (bL Tl 6 + bL Tl 5)), false) : List UInt8 × Bool).1.length : Int) = d9 by rw [← hd9, HNT.out, hu]; simp; omega] at h
                    exact h
                  obtain ⟨y, hy⟩ : ∃ y, y = shL kp Tl := ⟨_, rfl⟩
                  rw [← hy] at hSh hRf hyo
                  unfold RV at hRf
                  have HSH := Lib.hid hSh; have HRF := Lib.hid hRf; have HLF := Lib.hid hLf; have HYO := Lib.hid hyo
                  clear hSh hRf hLf hy hyo hu hg2 hgood
                  go_wp2_with (first
                    | (go_at_call 42; have hk := HLF.out w5 (Rd.keep HR4.out hb5); refine Calls.mono hk ?_; clear hk; rintro e w6 ⟨rfl, hb6⟩)
                    | (go_at_call 34; refine Calls.mono (C_same b8 y a8 cp8 (w3.alloc (.cells #[.int .i64 y.keep, .int .i64 y.next, .bool y.op, .int .i64 y.now.n, .int .i64 y.now.s, .int .i64 y.now.v, .int .i64 y.now.r, .int .i64 y.now.i, .int .i64 y.now.o, .slice a8 y.cl.length cp8] 74)) (Sh.is_keep HY2.out (Tr.below_alloc hb3 (Nat.le_refl _))) HYO.out (Sl.keep (Tr.below_alloc (Below.refl _ _) (Nat.le_refl _)) HL3.out)) ?_; rintro e w5 ⟨rfl, hb5⟩; have HR4 := Lib.hid (Rd.keep HR2.out (Tr.below_alloc hb3 (Nat.le_refl _) (o := .cells #[.int .i64 y.keep, .int .i64 y.next, .bool y.op, .int .i64 y.now.n, .int .i64 y.now.s, .int .i64 y.now.v, .int .i64 y.now.r, .int .i64 y.now.i, .int .i64 y.now.o, .slice a8 y.cl.length cp8] 74))))
                    | (go_at_call 41; have hk := HRF.out w2; refine Calls.mono hk ?_; clear hk; rintro e w3 ⟨⟨a8, cp8, rfl, hl3⟩, hb3⟩; have HL3 := Lib.hid hl3; clear hl3)
                    | (go_at_call 40; have hk := HSH.out w1 hr1; refine Calls.mono hk ?_; clear hk; rintro e w2 ⟨⟨b8, rfl, hy2, hr2⟩, hc2⟩; have HY2 := Lib.hid hy2; have HR2 := Lib.hid hr2; have HC2 := Lib.hid hc2; clear hy2 hr2 hc2)
                    | (go_at_call 39; have hk := C_CurRead Tl wr; refine Calls.mono hk ?_; clear hk; rintro e w1 ⟨rfl, hr1, hb1⟩)
                    | fail)
                  go_roundw
                  case rel =>
                    have hB2 := HC2.out.below (Tr.below_trans HBJ.out hb1) hlej (Nat.le_refl _)
                    exact ⟨j + 1, by omega, by go_num, Tr.below_trans (Tr.below_trans (Tr.below_alloc (Tr.below_trans hB2 hb3) (Nat.le_refl _)) hb5) hb6⟩
                  case measure => simp [intOf]; omega
                · have hSh := fun W => C_Sh_bad wr.heap.size Tl kp hk0' hk1' hgood W
                  have hRf := fun W => C_R26_bad Tl kp hk0' hk1' (by omega) hgood W
                  have HSH := Lib.hid hSh; have HRF := Lib.hid hRf
                  clear hSh hRf
                  go_wp2_with (first
                    | (go_at_call 41; have hk := HRF.out w2; refine Calls.mono hk ?_; rintro e w3 ⟨rfl, hb3⟩)
                    | (go_at_call 40; have hk := HSH.out w1 hr1; refine Calls.mono hk ?_; rintro e w2 ⟨rfl, hc2⟩)
                    | (go_at_call 39; have hk := C_CurRead Tl wr; refine Calls.mono hk ?_; rintro e w1 ⟨rfl, hr1, hb1⟩)
                    | fail)
                  go_roundw
                  case rel => exact ⟨j + 1, by omega, by go_num, Tr.below_alloc (Tr.below_trans (hc2.below (Tr.below_trans HBJ.out hb1) hlej (Nat.le_refl _)) hb3) (Nat.le_refl _)⟩
                  case measure => simp [intOf]; omega
            · go_wp2_with fail
              go_roundw
              case rel => exact ⟨i2 + 1, by omega, by go_num, Tr.below_trans BWL.out hBj⟩
              case measure => simp [intOf]; omega
        · have hB3 := Tr.below_trans BL.out hBr
          have HB3 := Lib.hid hB3
          clear hB3 hBr HTEXT HBX HB XL KL TL BL HBC HL2
          go_upto_region 37 with (first
            | (go_at_call 40; refine Calls.mono (C_ShRead_nil _) ?_; rintro e w13 ⟨rfl, hb13⟩)
            | (go_at_call 26; refine Calls.mono (C_Totals_nil 1 _) ?_; unfold Tot.val Tot.zero; dsimp only; rintro e w12 ⟨rfl, hb12⟩)
            | (go_at_call 24; refine Calls.mono (C_End_nil _) ?_; unfold Tot.val Tot.zero; dsimp only; rintro e w11 ⟨rfl, hb11⟩)
            | (go_at_call 23; refine Calls.mono (C_Start_nil _) ?_; rintro e w10 ⟨rfl, hb10⟩)
            | (go_at_call 36; have hk := C_Bytes_empty wr.heap.size w8 (Tr.blk_keep hb8 (Tr.blk_new _ _)); refine Calls.mono hk ?_; clear hk; rintro e w9 ⟨rfl, hb9⟩)
            | (go_at_call 35; refine Calls.mono (C_Write_none wr.heap.size _) ?_; rintro e w8 ⟨rfl, hb8⟩)
            | fail)
          go_wp2_with (first
            | (go_at_call 22; refine Calls.mono (C_wakes26 _) ?_; rintro e w14 ⟨rfl, hb14⟩)
            | (go_at_call 25; refine Calls.mono (C_Add_nil _) ?_; rintro e w15 ⟨rfl, hb15⟩)
            | (go_at_call 43; refine Calls.mono (C_Open_nil _) ?_; rintro e w16 ⟨rfl, hb16⟩)
            | (go_at_call 30; refine Calls.mono (C_Copy_nil _) ?_; rintro e w17 ⟨rfl, hb17⟩)
            | fail)
          go_ret
          refine ⟨rfl, ?_⟩
          have hA := Tr.below_trans (Tr.below_alloc HB3.out (Nat.le_refl _)) hb8
          have hB := Tr.below_trans (Tr.below_trans (Tr.below_trans hA hb9) hb10) hb11
          have hC := Tr.below_trans (Tr.below_alloc hB (Nat.le_refl _)) hb12
          have hD := Tr.below_trans (Tr.below_alloc hC (Nat.le_refl _)) hb13
          exact Tr.below_trans (Tr.below_trans (Tr.below_trans (Tr.below_trans hD hb14) hb15) hb16) hb17
end Go.Proofs.Ytjkfkgpdlflbhaa
