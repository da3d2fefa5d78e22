/- ShiftKeeps, the walk. -/
import Derived.Test.YtjkfkgpdlflbhaaTrKeeps
import Derived.Test.YtjkfkgpdlflbhaaTrSayShiftKeeps
import Derived.Laws.StructEq
import Derived.WideLaws
import Derived.Deep.CutBlock
import Derived.Deep.CutRange
namespace Go.Proofs.Ytjkfkgpdlflbhaa
open Go.RowKit Go.Sort
open Tr (IMap IIter IL Chg)
set_option linter.unusedVariables false
set_option linter.unusedSimpArgs false
attribute [local go_sem] Tr.go_max2 Tr.go_min2 Tr.go_max_two Tr.go_min_two

/-- Between two acts. -/
def KAt (w : World) (b m T : Nat) (s6 s7 s41 : Value) (wx : World) : Prop :=
  ∃ (i : Nat) (x : Sh) (sm ct : Int) (Ts : List Tot), s6 = .int .i64 sm ∧ s7 = .int .i64 ct ∧ s41 = .int .i64 i ∧ i ≤ T ∧ KInv i x sm ct Ts ∧ x.is wx b ∧ IMap wx m (closed Ts) ∧ Below w.heap.size w wx
theorem acts_of {w : World} {a : Option Addr} {rows : List (List Value)} {cap : Nat} (h : Tr.Rows [.int .i64, .int .u8, .int .i64] w a rows cap) (i : Nat) (hi : i < rows.length) :
    ∃ bb off, a = some ⟨bb, off, none⟩ ∧ ∃ d k am : Int, (I64 d ∧ (0 ≤ k ∧ k ≤ 255) ∧ I64 am) ∧ w.cell? ⟨bb, off + i * 3, none⟩ = some (.int .i64 d) ∧ w.cell? ⟨bb, off + i * 3 + 1, none⟩ = some (.int .u8 k) ∧ w.cell? ⟨bb, off + i * 3 + 2, none⟩ = some (.int .i64 am) := by
  obtain ⟨_, _, _, hc, hcell⟩ := h
  obtain ⟨bb, off, rfl, hx⟩ := hcell i _ (List.getElem?_eq_getElem hi)
  obtain ⟨v1, r1, e1, ⟨d, rfl, hd⟩, v2, r2, rfl, ⟨k, rfl, hk⟩, v3, r3, rfl, ⟨am, rfl, ham⟩, rfl⟩ := hc i _ (List.getElem?_eq_getElem hi)
  rw [e1] at hx
  refine ⟨bb, off, rfl, d, k, am, ⟨bounds_i64 hd, by simp [Lit.wf] at hk; have e1 : IntKind.u8.min = 0 := rfl; have e2 : IntKind.u8.max = 255 := rfl; omega, bounds_i64 ham⟩, ?_, ?_, ?_⟩
  · exact hx 0 _ rfl
  · exact hx 1 _ rfl
  · exact hx 2 _ rfl

/-- A change of a map leaves shifts as they are. -/
theorem Sh.is_chg_map {w w' : World} {b m : Nat} {x : Sh} (h : x.is w b) (hc : Chg m w w') {E : Array MapEntry} {c : Nat} (hm : w.heap[m]? = some (.map E c)) : x.is w' b := by
  have hne : ∀ k cs t f, w.heap[k]? = some (.cells cs t f) → k ≠ m := by rintro k cs t f h1 rfl; rw [hm] at h1; simp at h1
  obtain ⟨a, cap, h1, a', cap', hv, hcap, hl, ho, h2⟩ := h
  refine ⟨a, cap, hc.keep h1 (hne _ _ _ _ h1), a', cap', hv, hcap, hl, ho, fun h0 => ?_⟩
  obtain ⟨g, off, cs, fz, ha, hg, hcc⟩ := h2 h0
  exact ⟨g, off, cs, fz, ha, hc.keep hg (hne _ _ _ _ hg), hcc⟩
theorem Sh.is_chg_it {w w' : World} {b m it : Nat} {x : Sh} {left : IL} (h : x.is w b) (hc : Chg it w w') (hi : IIter w m it left) : x.is w' b := by
  obtain ⟨_, _, _, _, hm, _⟩ := hi
  have hne : ∀ k cs t f, w.heap[k]? = some (.cells cs t f) → k ≠ it := by rintro k cs t f h1 rfl; rw [hm] at h1; simp at h1
  obtain ⟨a, cap, h1, a', cap', hv, hcap, hl, ho, h2⟩ := h
  refine ⟨a, cap, hc.keep h1 (hne _ _ _ _ h1), a', cap', hv, hcap, hl, ho, fun h0 => ?_⟩
  obtain ⟨g, off, cs, fz, ha, hg, hcc⟩ := h2 h0
  exact ⟨g, off, cs, fz, ha, hc.keep hg (hne _ _ _ _ hg), hcc⟩
/-- Behind the act, ahead of the looking. -/
def KMid (w : World) (b m i : Nat) (s6 s7 : Value) (wx : World) : Prop :=
  ∃ (x : Sh) (sm ct : Int) (Ts : List Tot), s6 = .int .i64 sm ∧ s7 = .int .i64 ct ∧ KInv (i + 1) x sm ct Ts ∧ x.is wx b ∧ IMap wx m (closed Ts) ∧ Below w.heap.size w wx
/-- Going through the map. -/
def KIt (w : World) (b m it : Nat) (x : Sh) (Ts : List Tot) (s16 : Value) (wx : World) : Prop :=
  ∃ left, IIter wx m it left ∧ (∀ p ∈ left, p ∈ closed Ts) ∧ x.is wx b ∧ IMap wx m (closed Ts) ∧ Below w.heap.size w wx
theorem run_len_imap {T K e ty : TypeId} {P : Program} {w : World} {m : Nat} {l : IL} (ht : P.underlying T = some (.map K e)) (h : IMap w m l) : (Builtin.len_ #[T] ty #[.map (some m)]).run P w = .ok (.int .i64 l.length) w := by
  obtain ⟨E, c, hE, hEs⟩ := h.size
  have := @Go.run_len_map P w T ty m E c (by simp [Program.mapKeyOf, Program.mapElemOf, ht]) hE
  rw [this, ← hEs]
  rfl
set_option maxRecDepth 100000 in
set_option maxHeartbeats 8000000 in
theorem walk_ShiftKeeps : SayShiftKeeps := by
  intro a rows cap w hrows
  have hacts := acts_of hrows
  have hcapl := hrows.1
  have hcapm := hrows.2.1
  unfold maxLen at hcapm
  have HA := Lib.hid hacts
  clear hacts hrows
  obtain ⟨T, hT⟩ : ∃ T : Nat, T = min rows.length 60 := ⟨_, rfl⟩
  have hTi : min (rows.length : Int) 60 = T := by omega
  have hT1 : T ≤ rows.length := by omega
  have hT2 : T ≤ 60 := by omega
  clear hT
  have hmm := @run_makeMap Try.prog
  go_enter Try.func7, Try.ntmps7
  go_wp2_with fail
  refine (C_New_yes 6 (by omega) (by omega) _).mono ?_
  rintro e w1 ⟨rfl, hs1, hB1⟩
  go_wp2_with (go_at_call 22; refine (C_wakes26 _).mono ?_; rintro e w2 ⟨rfl, hb2⟩)
  have hs2 := Sh.is_keep hs1 hb2
  have hB2 := Tr.below_trans hB1 hb2
  have hb3 := Below.refl w2.heap.size w2
  generalize hbs : w.heap.size = b at *
  generalize hms : w2.heap.size = m at *
  have hbm : b < m := by obtain ⟨_, _, hbk, _⟩ := hs2; have := Tr.blk_lt hbk; omega
  clear hb2 hs1 hB1 hb3
  go_loopw [6, 7, 41] (fun s6 s7 s41 wr => KAt w b m T s6 s7 s41 wr) (fun _ _ s41 _ => T - (intOf s41).toNat)
  case atStart =>
    refine ⟨0, _, 0, 0, [], rfl, rfl, rfl, Nat.zero_le _, KInv.start0, ?_, IMap.made (by rw [← hms]; exact Tr.blk_new _ _), ?_⟩
    · exact Sh.is_keep hs2 (Tr.below_alloc (Below.refl _ _) (Nat.le_refl _))
    · rw [hbs]; exact Tr.below_alloc hB2 (by omega)
  case round =>
    obtain ⟨i, x, sm, ct, Ts, rfl, rfl, rfl, hi, hK, hs, hm, hB⟩ := hrel
    by_cases hlt : i < T
    · obtain ⟨bb, off, rfl, d, k, am, ⟨hd, hk, ham⟩, q0, q1, q2⟩ := HA.out i (by omega)
      have hq : bb < w.heap.size := block_lt_of_cell q0
      have p0 : wr.cell? ⟨bb, off + i * 3, none⟩ = some (.int .i64 d) := by rw [hB.cell (p := ⟨bb, off + i * 3, none⟩) hq, q0]
      have p1 : wr.cell? ⟨bb, off + i * 3 + 1, none⟩ = some (.int .u8 k) := by rw [hB.cell (p := ⟨bb, off + i * 3 + 1, none⟩) hq, q1]
      have p2 : wr.cell? ⟨bb, off + i * 3 + 2, none⟩ = some (.int .i64 am) := by rw [hB.cell (p := ⟨bb, off + i * 3 + 2, none⟩) hq, q2]
      clear q0 q1 q2
      obtain ⟨hd0, hd1⟩ := hd
      obtain ⟨hk0, hk1⟩ := hk
      obtain ⟨ha0, ha1⟩ := ham
      have HBS := Lib.hid hbs; have HMS := Lib.hid hms
      clear hbs hms hs2 hB2
      have hi60 : i < 60 := by omega
      have hsl : wr.heap.size > m := hm.lt
      have hr := Tr.blk_new wr (.cells #[.int .i64 d, .int .u8 k, .int .i64 am] 50)
      have hs1 := Sh.is_keep hs (Tr.below_alloc (Below.refl wr.heap.size wr) (Nat.le_refl _) (o := .cells #[.int .i64 d, .int .u8 k, .int .i64 am] 50))
      have hm1 := IMap.keep (Tr.below_alloc (Below.refl wr.heap.size wr) (Nat.le_refl _) (o := .cells #[.int .i64 d, .int .u8 k, .int .i64 am] 50)) hm
      have hB1 := Tr.below_alloc hB (by omega) (o := .cells #[.int .i64 d, .int .u8 k, .int .i64 am] 50)
      have cr := fun o => Tr.cell_blk (o := o) hr
      have fr := fun o => Tr.frozen_blk (o := o) hr
      have HR := Lib.hid hr
      clear hr
      go_upto_block 2 with fail
      generalize hW : wr.alloc (.cells #[.int .i64 d, .int .u8 k, .int .i64 am] 50) = W at *
      have hz1 : W.heap.size = wr.heap.size + 1 := by rw [← hW]; simp
      have HW := Lib.hid hW
      generalize hg : wr.heap.size = g at *
      have HG := Lib.hid hg
      clear hW hg hs hm p0 p1 p2 hB
      obtain ⟨D, hD⟩ : ∃ D, D = max 0 d % 5 := ⟨_, rfl⟩
      rw [← hD]
      have hD0 : 0 ≤ D ∧ D < 5 := by omega
      obtain ⟨hD0, hD1⟩ := hD0
      clear hD
      go_cut [6, 7, 10, 11, 12, 13, 14, 15] from 49 to 109 (fun s6 s7 _ _ _ _ _ _ wx => KMid w b m i s6 s7 wx)
      case first =>
        obtain ⟨keep, next, op, now, cl⟩ := x
        obtain ⟨n, s, v, r, io, o⟩ := now
        have hbne : m ≠ b := by omega
        by_cases h3 : D = 3
        · subst h3
          have key : ∃ e sm' ct', (Sh.start ⟨keep, next, op, ⟨n, s, v, r, io, o⟩, cl⟩).2.2 = e ∧ ((e = 0 ∧ sm' = 0 ∧ ct' = 0) ∨ (e = 20 ∧ sm' = sm ∧ ct' = ct)) ∧ KInv (i + 1) (Sh.start ⟨keep, next, op, ⟨n, s, v, r, io, o⟩, cl⟩).1 sm' ct' Ts := by
            rcases hK.start hi60 with ⟨he, hk'⟩ | ⟨he, hk'⟩
            · exact ⟨0, 0, 0, he, .inl ⟨rfl, rfl, rfl⟩, hk'⟩
            · exact ⟨20, sm, ct, he, .inr ⟨rfl, rfl, rfl⟩, hk'⟩
          obtain ⟨e, sm', ct', he, hor, hK'⟩ := key
          have hC := C_Start b _ _ hs1 hK.1
          rw [he] at hC
          have HC := Lib.hid hC; have HK' := Lib.hid hK'
          clear hC he hK' hK
          rcases hor with ⟨rfl, rfl, rfl⟩ | ⟨rfl, rfl, rfl⟩
          all_goals
            go_wp2_with (go_at_call 23; refine HC.out.mono ?_; rintro e w3 ⟨rfl, hs3, hc3⟩)
            go_meet
            exact ⟨_, _, _, _, rfl, rfl, HK'.out, hs3, hm1.chg hc3 hbne, hc3.below hB1 (by have := HBS.out; omega) (Nat.le_refl _)⟩
        · have h3b : (D == 3) = false := by simpa using h3
          by_cases h4 : D = 4
          · subst h4
            cases op with
            | true =>
              have hC := C_End_yes b keep next ⟨n, s, v, r, io, o⟩ cl _ hs1 hK.1
              obtain ⟨hn, hK'⟩ := hK.stop hi60
              have hput := closed_put Ts ⟨n, s, v, r, io, o⟩
              rw [← hn] at hput
              obtain ⟨⟨-, ⟨hn1, hn2⟩, ⟨⟨h30, h31⟩, h32, h33, h34, h35, h36⟩, -⟩, -, -, -, -, ⟨hsm0, hsm1⟩, ⟨hct0, hct1⟩, hop, -⟩ := hK
              obtain ⟨hsum, hcnt⟩ := hop rfl
              dsimp only at *
              unfold Amt at *
              subst hsum hcnt
              obtain ⟨h32, -⟩ := h32
              obtain ⟨h33, -⟩ := h33
              obtain ⟨h34, -⟩ := h34
              obtain ⟨h35, -⟩ := h35
              obtain ⟨h36, -⟩ := h36
              unfold B40 at hsm1
              have hsm2 : s + v + r + io + o ≤ 65970697666560 := by omega
              unfold Tot.val at hput hC
              dsimp only at hput hC
              have HC := Lib.hid hC; have HK' := Lib.hid hK'; have HPUT := Lib.hid hput
              clear hC hK' hput hn hsm1
              go_wp2_with (first
                | (go_at_call 24; refine HC.out.mono ?_; rintro e w3 ⟨rfl, hs3, hc3⟩; have hm3 := hm1.chg hc3 hbne; have hB3 := hc3.below hB1 (by have := HBS.out; omega) (Nat.le_refl _); have hz3 := hm3.lt)
                | (at_mapUpdate; have hm4 := IMap.keep (Tr.below_alloc (Below.refl w3.heap.size w3) (Nat.le_refl _) (o := .cells #[.int .i64 n, .int .i64 s, .int .i64 v, .int .i64 r, .int .i64 io, .int .i64 o] 55)) hm3; refine Tr.wpl_update _ rfl _ _ _ 48 rfl 3 55 Try.underlying48 Try.underlying3 m (closed Ts) (next - 1) (.agg #[.int .i64 n, .int .i64 s, .int .i64 v, .int .i64 r, .int .i64 io, .int .i64 o]) hm4 rfl rfl rfl ?_; intro w5 hm5 hc5))
              go_meet
              rw [HPUT.out] at hm5
              have hB4 := Tr.below_alloc hB3 (Nat.le_refl _) (o := .cells #[.int .i64 n, .int .i64 s, .int .i64 v, .int .i64 r, .int .i64 io, .int .i64 o] 55)
              obtain ⟨-, E, c, hE, -⟩ := hm4
              exact ⟨_, _, _, _, rfl, rfl, HK'.out, Sh.is_chg_map (Sh.is_keep hs3 (Tr.below_alloc (Below.refl _ _) (Nat.le_refl _))) hc5 hE, hm5, hc5.below hB4 (by have := HBS.out; omega) (Nat.le_refl _)⟩
            | false =>
              have hC := C_End_no b keep next ⟨n, s, v, r, io, o⟩ cl _ hs1
              unfold Tot.val Tot.zero at hC
              dsimp only at hC
              have HC := Lib.hid hC; have HK := Lib.hid hK
              clear hC hK
              go_wp2_with (go_at_call 24; refine HC.out.mono ?_; rintro e w3 ⟨rfl, hb3⟩; have hm3 := hm1.keep hb3; have hs3 := Sh.is_keep hs1 hb3; have hB3 := Tr.below_trans hB1 hb3)
              go_meet
              obtain ⟨k1, k2, k3, k4, k5, k6, k7, k8, k9⟩ := HK.out
              exact ⟨_, sm, ct, Ts, rfl, rfl, ⟨k1, k2, k3, k4, by omega, ⟨k6.1, by unfold B40 at *; omega⟩, ⟨k7.1, by omega⟩, k8, by omega⟩, Sh.is_keep hs3 (Tr.below_alloc (Below.refl _ _) (Nat.le_refl _)), IMap.keep (Tr.below_alloc (Below.refl _ _) (Nat.le_refl _)) hm3, Tr.below_alloc hB3 (Nat.le_refl _)⟩
          · have h4b : (D == 4) = false := by simpa using h4
            obtain ⟨kk, hkk⟩ : ∃ kk : Nat, (kk : Int) = 1 + k % 5 := ⟨(1 + k % 5).toNat, by omega⟩
            obtain ⟨A, hA⟩ : ∃ A : Int, A = max 0 am % 1099511627776 := ⟨_, rfl⟩
            have hA0 : 0 ≤ A ∧ A < B40 := by unfold B40; omega
            have key : ∃ e sm' ct', (Sh.add ⟨keep, next, op, ⟨n, s, v, r, io, o⟩, cl⟩ kk A).2 = e ∧ ((e = 0 ∧ sm' = sm + A ∧ ct' = ct + 1) ∨ (e = 20 ∧ sm' = sm ∧ ct' = ct)) ∧ KInv (i + 1) (Sh.add ⟨keep, next, op, ⟨n, s, v, r, io, o⟩, cl⟩ kk A).1 sm' ct' Ts := by
              rcases hK.add hi60 kk (by omega) A hA0 with ⟨he, hk'⟩ | ⟨he, hk'⟩
              · exact ⟨0, _, _, he, .inl ⟨rfl, rfl, rfl⟩, hk'⟩
              · exact ⟨20, sm, ct, he, .inr ⟨rfl, rfl, rfl⟩, hk'⟩
            obtain ⟨e, sm', ct', he, hor, hK'⟩ := key
            have hC := C_ShAdd b kk A _ _ (by omega) (by unfold I64; unfold B40 at hA0; omega) hs1 hK.1
            rw [he, hkk, hA] at hC
            obtain ⟨-, -, -, -, -, ⟨hsm0, hsm1⟩, ⟨hct0, hct1⟩, -, -⟩ := hK
            unfold B40 at hA0 hsm1
            obtain ⟨hA0, hA1⟩ := hA0
            have hsm2 : sm ≤ 65970697666560 := by omega
            rw [hA] at hA0 hA1 hor hK'
            have HC := Lib.hid hC; have HK' := Lib.hid hK'
            clear hC he hK' hA hkk hsm1
            rcases hor with ⟨rfl, rfl, rfl⟩ | ⟨rfl, rfl, rfl⟩
            all_goals
              go_wp2_with (go_at_call 25; refine HC.out.mono ?_; rintro e w3 ⟨rfl, hs3, hc3⟩)
              go_meet
              exact ⟨_, _, _, _, rfl, rfl, HK'.out, hs3, hm1.chg hc3 hbne, hc3.below hB1 (by have := HBS.out; omega) (Nat.le_refl _)⟩
      case rest =>
        obtain ⟨x', sm', ct', Ts', rfl, rfl, hK', hs', hm', hB'⟩ := hcut
        clear hK hs1 hm1 hB1 cr fr HR
        have hlt2 := hm'.lt
        have hml := closed_len Ts'
        have HK := Lib.hid hK'
        have HML := Lib.hid hml
        clear hK' hml
        go_wp2_with (at_range; refine Tr.wpl_range _ rfl _ 48 rfl 3 55 Try.underlying48 m (closed Ts') hm' rfl ?_; intro w4 hit4 hb4)
        go_frame
        have hs4 := Sh.is_keep hs' hb4
        have hm4 := IMap.keep hb4 hm'
        have hB4 := Tr.below_trans hB' hb4
        clear hs' hm' hB' hb4
        generalize hit : wc.heap.size = it at *
        have HIT := Lib.hid hit
        have hmit : m < it := hlt2
        clear hit hlt2
        go_loopw [16] (fun s16 wr => KIt w b m it x' Ts' s16 wr) (fun _ wr => Tr.itLeft wr it)
        case atStart => exact ⟨_, hit4, fun _ h => h, hs4, hm4, hB4⟩
        case round =>
          clear hit4 hs4 hm4 hB4
          obtain ⟨left, hit5, hsub, hs5, hm5, hB5⟩ := hrel
          have HSUB := Lib.hid hsub
          clear hsub
          go_wp2_with (at_next; refine Tr.wpl_next _ rfl _ rfl m it left hit5 rfl ?done ?more)
          case done =>
            intro hnil
            clear hnil
            go_wp2_with fail
            go_roundw
            case rel =>
              exact ⟨i + 1, x', sm', ct', Ts', rfl, rfl, by go_num, by omega, HK.out, hs5, hm5, hB5⟩
            case measure => simp [intOf]; omega
          case more =>
            intro key val left' w6 hmem hleft hiff hit6 hc6 hen
            obtain ⟨j, hj, he⟩ := closed_mem (HSUB.out _ hmem)
            have hsub6 : ∀ p ∈ left', p ∈ closed Ts' := fun p hp => HSUB.out p ((hiff p.1 p.2).2 (.inr hp))
            have htot := KInv.totals HK.out j hj
            have hxk := HK.out.1
            have hTl : Ts'.length ≤ 60 := by obtain ⟨-, -, -, -, h, -, -, -, h'⟩ := HK.out; omega
            generalize Ts'.getD j .zero = tt at *
            obtain ⟨n, s, v, r, io, o⟩ := tt
            simp only [Prod.mk.injEq, Tot.val] at he
            obtain ⟨rfl, rfl⟩ := he
            have hs6 := Sh.is_chg_it hs5 hc6 hit5
            have hm6 := IMap.chg hc6 hm5 (by omega)
            have hBc := hc6.below hB5 (by have := HBS.out; omega) (Nat.le_refl _)
            have hl5 := hit5.lt
            clear hmem hiff hs5 hm5
            by_cases hkept : Ts'.length - (j + 1) < 6
            · rw [if_pos hkept] at htot
              have HTOT := Lib.hid htot
              clear htot
              go_wp2_with (go_at_call 26; refine (C_Totals b x' ((j : Int) + 1) (by unfold I64; omega) _ (Sh.is_keep hs6 (Tr.below_alloc (Below.refl _ _) (Nat.le_refl _))) hxk).mono ?_; rw [HTOT.out]; rintro e w7 ⟨rfl, hb7⟩; simp only [Tot.val, Tot.zero]; have b17 := Tr.blk_old (x := .cells #[.int .i64 n, .int .i64 s, .int .i64 v, .int .i64 r, .int .i64 io, .int .i64 o] 55) (Tr.blk_keep hb7 (Tr.blk_new _ _)); have b18 := Tr.blk_new w7 (.cells #[.int .i64 n, .int .i64 s, .int .i64 v, .int .i64 r, .int .i64 io, .int .i64 o] 55); have c17 := fun o => Tr.cell_blk (o := o) b17; have c18 := fun o => Tr.cell_blk (o := o) b18; have hB8 := Tr.below_trans (Tr.below_alloc (Below.refl _ _) (Nat.le_refl _)) hb7; have hB9 := Tr.below_trans hB8 (Tr.below_alloc (Below.refl _ _) (Nat.le_refl _) (o := .cells #[.int .i64 n, .int .i64 s, .int .i64 v, .int .i64 r, .int .i64 io, .int .i64 o] 55)); have hm9 := IMap.keep hB9 hm6; have hit9 := IIter.keep hB9 hit6; have hs9 := Sh.is_keep hs6 hB9; have hBB := Tr.below_trans hBc hB9; clear hb7 b17 b18 hB8 hB9)
              go_roundw
              case rel => exact ⟨left', hit9, hsub6, hs9, hm9, hBB⟩
              case measure => rw [hit9.left_eq, hit5.left_eq, hleft]; omega
            · rw [if_neg hkept] at htot
              have HTOT := Lib.hid htot
              have hlf : ¬ ((Ts'.length : Int) - ((j : Int) + 1) < 6) := by omega
              have hlf1 : -9223372036854775808 ≤ ((Ts'.length : Int) - ((j : Int) + 1)) := by omega
              have hlf2 : ((Ts'.length : Int) - ((j : Int) + 1)) ≤ 9223372036854775807 := by omega
              clear htot
              go_wp2_with (go_at_call 26; refine (C_Totals b x' ((j : Int) + 1) (by unfold I64; omega) _ (Sh.is_keep hs6 (Tr.below_alloc (Below.refl _ _) (Nat.le_refl _))) hxk).mono ?_; rw [HTOT.out]; rintro e w7 ⟨rfl, hb7⟩; simp only [Tot.val, Tot.zero]; have b17 := Tr.blk_old (x := .cells #[.int .i64 0, .int .i64 0, .int .i64 0, .int .i64 0, .int .i64 0, .int .i64 0] 55) (Tr.blk_keep hb7 (Tr.blk_new _ _)); have b18 := Tr.blk_new w7 (.cells #[.int .i64 0, .int .i64 0, .int .i64 0, .int .i64 0, .int .i64 0, .int .i64 0] 55); have c17 := fun o => Tr.cell_blk (o := o) b17; have c18 := fun o => Tr.cell_blk (o := o) b18; have hB8 := Tr.below_trans (Tr.below_alloc (Below.refl _ _) (Nat.le_refl _)) hb7; have hB9 := Tr.below_trans hB8 (Tr.below_alloc (Below.refl _ _) (Nat.le_refl _) (o := .cells #[.int .i64 0, .int .i64 0, .int .i64 0, .int .i64 0, .int .i64 0, .int .i64 0] 55)); have hm9 := IMap.keep hB9 hm6; have hlen9 := fun ty => @run_len_imap 48 3 55 ty Try.prog _ _ _ Try.underlying48 hm9; simp only [closed_len] at hlen9; have hit9 := IIter.keep hB9 hit6; have hs9 := Sh.is_keep hs6 hB9; have hBB := Tr.below_trans hBc hB9; clear hb7 b17 b18 hB8 hB9)
              go_roundw
              case rel => exact ⟨left', hit9, hsub6, hs9, hm9, hBB⟩
              case measure => rw [hit9.left_eq, hit5.left_eq, hleft]; omega
    · go_wp2_with fail
      go_ret
      exact ⟨rfl, hB⟩
end Go.Proofs.Ytjkfkgpdlflbhaa
