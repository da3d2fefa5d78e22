/- Shifts of a reader. -/
import Derived.Test.YtjkfkgpdlflbhaaTrRd3
import Derived.Test.YtjkfkgpdlflbhaaTrShift2
import Derived.Deep.CutBlock
import Derived.Deep.CutRange
import Derived.Deep.AppendLies
import Derived.Deep.RegionWith
import Derived.Deep.RegionLaw
namespace Go.Proofs.Ytjkfkgpdlflbhaa
open Go.RowKit Go.Sort
open Tr (Sl Chg)
set_option linter.unusedVariables false
set_option linter.unusedSimpArgs false

/-- The reader behind so many totals. -/
def rdSts (s : List UInt8 × Bool) : Nat → List UInt8 × Bool
  | 0 => s
  | i + 1 => rdSt (rdSts s i) 5
def rdTots (s : List UInt8 × Bool) (i : Nat) : List Tot := (List.range i).map fun j => rdTot (rdSts s j)
theorem rdTots_len (s : List UInt8 × Bool) (i : Nat) : (rdTots s i).length = i := by simp [rdTots]
theorem rdTots_succ (s : List UInt8 × Bool) (i : Nat) : rdTots s (i + 1) = rdTots s i ++ [rdTot (rdSts s i)] := by simp [rdTots, List.range_succ]
def rdBad (keep : Int) (x o n : Nat) : Prop := x < 1 ∨ 4294967296 < x ∨ 1 < o ∨ x ≤ o ∨ keep < n ∨ x ≤ n + o
def rdX (s : List UInt8 × Bool) : Nat := (rdNum 5 s).1
def rdO (s : List UInt8 × Bool) : Nat := (rdNum 1 (rdNum 5 s).2).1
def rdN (s : List UInt8 × Bool) : Nat := (rdNum 1 (rdNum 1 (rdNum 5 s).2).2).1
def rdH (s : List UInt8 × Bool) : List UInt8 × Bool := (rdNum 1 (rdNum 1 (rdNum 5 s).2).2).2
/-- Are there shifts at the reader? -/
def rdGood (keep : Int) (s : List UInt8 × Bool) : Prop :=
  ¬ rdBad keep (rdX s) (rdO s) (rdN s) ∧ (∀ i, i < rdN s + rdO s → rdOk (rdSts (rdH s) i)) ∧ (rdSts (rdH s) (rdN s + rdO s)).2 = false
def rdSh (keep : Int) (s : List UInt8 × Bool) : Sh :=
  ⟨keep, rdX s, rdO s == 1, if rdO s = 1 then rdTot (rdSts (rdH s) (rdN s)) else .zero, rdTots (rdH s) (rdN s)⟩
def RsInv (h : List UInt8 × Bool) (n g b : Nat) (keep next : Int) (op : Bool) (B : World) (s68 : Value) (wr : World) : Prop :=
  ∃ i a cap, i ≤ n ∧ s68 = .int .u64 (i : Nat) ∧ (∀ j, j < i → rdOk (rdSts h j)) ∧ Rd wr g (rdSts h i) ∧
    wr.heap[b]? = some (.cells #[.int .i64 keep, .int .i64 next, .bool op, .int .i64 0, .int .i64 0, .int .i64 0, .int .i64 0, .int .i64 0, .int .i64 0, .slice a i cap] 104 (0, 0)) ∧
    wr.ownsRow (b + 1) 55 6 (.slice a i cap) i (tots (rdTots h i)) ∧ Chg g B wr
theorem ownsRow_chg {w w' : World} {g base size n : Nat} {e : TypeId} {v : Value} {xs : List Value} (h : w.ownsRow base e size v n xs) (hc : Chg g w w') (hg : g < base) : w'.ownsRow base e size v n xs := by
  refine ⟨h.1, ?_⟩
  rcases h.2 with h0 | ⟨k, cap, cur, hv, hb0, hk, r⟩
  · exact .inl h0
  · exact .inr ⟨k, cap, cur, hv, hb0, hc.keep hk (by omega), r⟩
theorem Sh.is_mk {w : World} {b i cap : Nat} {a : Option Addr} {keep next : Int} {op : Bool} {now : Tot} {cl : List Tot} (hl : cl.length = i)
    (hb : w.heap[b]? = some (.cells #[.int .i64 keep, .int .i64 next, .bool op, .int .i64 now.n, .int .i64 now.s, .int .i64 now.v, .int .i64 now.r, .int .i64 now.i, .int .i64 now.o, .slice a i cap] 104 (0, 0)))
    (hsl : Sl 55 6 w (.slice a i cap) i (tots cl)) : Sh.is w b ⟨keep, next, op, now, cl⟩ := by
  subst hl
  exact ⟨a, cap, hb, hsl⟩
theorem rdNum_lt (k : Nat) (s : List UInt8 × Bool) : (rdNum k s).1 < 256 ^ k := NUM_lt _ k (rdTake_len k s)

set_option maxRecDepth 100000 in
theorem C_New_blk (k : Int) (h1 : 1 ≤ k) (h2 : k ≤ 64) (w : World) : Calls Try.prog 21 #[.int .i64 k] w fun e w' => e = .returned (.tuple #[.pointer (some ⟨w.heap.size, 0, none⟩), .int .i64 0]) ∧
    w'.heap[w.heap.size]? = some (.cells #[.int .i64 k, .int .i64 1, .bool false, .int .i64 0, .int .i64 0, .int .i64 0, .int .i64 0, .int .i64 0, .int .i64 0, .slice none 0 0] 104 (0, 0)) ∧ Below w.heap.size w w' := by
  go_enter Try.func21, Try.ntmps21
  go_wp2_with fail
  go_ret2
  exact ⟨rfl, by (repeat (first | with_reducible assumption | with_reducible refine Tr.blk_drew ?_ | with_reducible refine Tr.blk_drewN ?_ | (refine Tr.blk_at ?_; focus (first | (simp; done) | (simp; omega))) | with_reducible refine Tr.blk_old ?_ | ((with_reducible refine Tr.blk_set_ne ?_ _ ?_); rotate_left; focus (first | (simp; done) | (simp; omega) | (simp; assumption))))), by (repeat (first | with_reducible assumption | (with_reducible exact Below.refl _ _) | ((with_reducible refine Tr.below_alloc ?_ ?_); rotate_left; focus (first | omega | exact Nat.le_refl _)) | (with_reducible refine Tr.below_drew ?_) | (with_reducible refine Tr.below_drewN ?_) | ((with_reducible refine Tr.below_set ?_ ?_); rotate_left; focus (first | omega | (simp; done) | (simp; omega))) | ((with_reducible refine Tr.below_trans ?_ (by assumption) ?_); rotate_left; focus (first | exact Nat.le_refl _ | omega))))⟩

set_option maxRecDepth 100000 in
set_option maxHeartbeats 8000000 in
theorem C_ShRead (g : Nat) (keep : Int) (s : List UInt8 × Bool) (w : World) (h : Rd w g s) (k0 : 1 ≤ keep) (k1 : keep ≤ 64) :
    Calls Try.prog 40 #[.pointer (some ⟨g, 0, none⟩), .int .i64 keep] w fun e w' =>
    ((rdGood keep s ∧ ∃ b, e = .returned (.tuple #[.pointer (some ⟨b, 0, none⟩), .int .i64 0]) ∧ (rdSh keep s).is w' b ∧ Rd w' g (rdSts (rdH s) (rdN s + rdO s))) ∨
      (¬ rdGood keep s ∧ e = .returned (.tuple #[.pointer none, .int .i64 4]))) ∧ Chg g w w' := by
  have hgl := Tr.blk_lt h
  have h1 : ∀ W, Rd W g s → Calls Try.prog 59 #[.pointer (some ⟨g, 0, none⟩), .int .i64 5] W fun e w' => e = .returned (.int .u64 (rdX s : Nat)) ∧ Rd w' g (rdNum 5 s).2 ∧ Chg g W w' := fun W hW => C_RdNumber g 5 s W hW (by omega) (by omega)
  have h2 : ∀ W, Rd W g (rdNum 5 s).2 → Calls Try.prog 59 #[.pointer (some ⟨g, 0, none⟩), .int .i64 1] W fun e w' => e = .returned (.int .u64 (rdO s : Nat)) ∧ Rd w' g (rdNum 1 (rdNum 5 s).2).2 ∧ Chg g W w' := fun W hW => C_RdNumber g 1 _ W hW (by omega) (by omega)
  have h3 : ∀ W, Rd W g (rdNum 1 (rdNum 5 s).2).2 → Calls Try.prog 59 #[.pointer (some ⟨g, 0, none⟩), .int .i64 1] W fun e w' => e = .returned (.int .u64 (rdN s : Nat)) ∧ Rd w' g (rdH s) ∧ Chg g W w' := fun W hW => C_RdNumber g 1 _ W hW (by omega) (by omega)
  have hx : rdX s < 1099511627776 := rdNum_lt 5 s
  have ho : rdO s < 256 := rdNum_lt 1 _
  have hn : rdN s < 256 := rdNum_lt 1 _
  obtain ⟨G, hG⟩ : ∃ G, G = rdGood keep s := ⟨_, rfl⟩
  obtain ⟨Y, hY⟩ : ∃ Y, Y = rdSh keep s := ⟨_, rfl⟩
  have hG2 := hG
  unfold rdGood at hG2
  have hY2 := hY
  unfold rdSh at hY2
  rw [← hG, ← hY]
  obtain ⟨x, hxx⟩ : ∃ x, x = rdX s := ⟨_, rfl⟩
  obtain ⟨o, hoo⟩ : ∃ o, o = rdO s := ⟨_, rfl⟩
  obtain ⟨n, hnn⟩ : ∃ n, n = rdN s := ⟨_, rfl⟩
  obtain ⟨H, hH⟩ : ∃ H, H = rdH s := ⟨_, rfl⟩
  rw [← hxx] at h1 hx hG2 hY2
  rw [← hoo] at h2 ho hG2 hY2 ⊢
  rw [← hnn] at h3 hn hG2 hY2 ⊢
  rw [← hH] at h3 hG2 hY2 ⊢
  have HG := Lib.hid hG2; have HY := Lib.hid hY2; have H1 := Lib.hid h1; have H2 := Lib.hid h2; have H3 := Lib.hid h3; have HR := Lib.hid h
  clear hG hY hG2 hY2 hxx hoo hnn hH h1 h2 h3 h
  obtain ⟨i0, hi, hz0, hz1, hz2⟩ := info_parts info_CloneT
  have hwk : IntKind.u64.wrap keep = keep := by rw [u64_eq]; omega
  go_enter Try.func40, Try.ntmps40
  go_upto_region 5 with (first
    | (go_at_call 59; have hk := H3.out w3 HR3.out; refine Calls.mono hk ?_; rintro e w4 ⟨rfl, hr4, hc4⟩; have HR4 := Lib.hid hr4; have HC4 := Lib.hid (HC3.out.trans hc4); clear hr4 hc4 hk)
    | (go_at_call 59; have hk := H2.out w2 HR2.out; refine Calls.mono hk ?_; rintro e w3 ⟨rfl, hr3, hc3⟩; have HR3 := Lib.hid hr3; have HC3 := Lib.hid (HC2.out.trans hc3); clear hr3 hc3 hk)
    | (go_at_call 59; have hk := H1.out w1 HR1.out; refine Calls.mono hk ?_; rintro e w2 ⟨rfl, hr2, hc2⟩; have HR2 := Lib.hid hr2; have HC2 := Lib.hid hc2; clear hr2 hc2 hk)
    | (go_at_call 21; refine (C_New_blk keep k0 k1 w).mono ?_; rintro e w1 ⟨rfl, hs1, hb1⟩; have ls1 := Tr.blk_lt hs1; have HR1 := Lib.hid (Rd.keep HR.out hb1); have HS1 := Lib.hid hs1; have HB1 := Lib.hid hb1; clear hs1 hb1)
    | fail)
  have hgood : G = (¬ rdBad keep x o n ∧ (∀ i, i < n + o → rdOk (rdSts H i)) ∧ (rdSts H (n + o)).2 = false) := HG.out
  by_cases hbad : rdBad keep x o n
  · have hng : ¬ G := by rw [hgood]; exact fun h => h.1 hbad
    clear hgood
    have hc : Chg g w w4 := (Chg.of_below HB1.out).trans HC4.out
    have HC := Lib.hid hc
    clear hc
    go_cut [56] from 29 to 55 (fun s56 wx => s56 = .bool true ∧ wx = w4)
    case first =>
      unfold rdBad at hbad
      have hb : (x < 1) ∨ (¬ x < 1 ∧ 4294967296 < x) ∨ (¬ x < 1 ∧ ¬ 4294967296 < x ∧ 1 < o) ∨ (¬ x < 1 ∧ ¬ 4294967296 < x ∧ ¬ 1 < o ∧ x ≤ o) ∨ (¬ x < 1 ∧ ¬ 4294967296 < x ∧ ¬ 1 < o ∧ ¬ x ≤ o ∧ keep < n) ∨ (¬ x < 1 ∧ ¬ 4294967296 < x ∧ ¬ 1 < o ∧ ¬ x ≤ o ∧ ¬ keep < n ∧ x ≤ n + o) := by omega
      clear hbad
      rcases hb with b1 | ⟨b1, b2⟩ | ⟨b1, b2, b3⟩ | ⟨b1, b2, b3, b4⟩ | ⟨b1, b2, b3, b4, b5⟩ | ⟨b1, b2, b3, b4, b5, b6⟩
      all_goals
        go_wp2_with fail
        go_meet
        first | exact ⟨rfl, rfl⟩ | (refine ⟨?_, rfl⟩; simp; omega)
    case rest =>
      obtain ⟨rfl, rfl⟩ := hcut
      go_wp2_with fail
      go_ret2
      exact ⟨.inr ⟨hng, rfl⟩, HC.out⟩
  · have hb1 := hbad
    unfold rdBad at hb1
    have g1 : ¬ (x : Int) < 1 := by omega
    have g2 : ¬ (4294967296 : Int) < x := by omega
    have g3 : ¬ (1 : Int) < o := by omega
    have g4 : ¬ (x : Int) ≤ o := by omega
    have g5 : ¬ keep < n := by omega
    have g6 : ¬ (x : Int) ≤ n + o := by omega
    clear hb1
    go_cut [56] from 29 to 55 (fun s56 wx => s56 = .bool false ∧ wx = w4)
    case first =>
      go_wp2_with fail
      go_meet
      exact ⟨rfl, rfl⟩
    case rest =>
      obtain ⟨rfl, rfl⟩ := hcut
      have hbg : w.heap.size ≠ g := by omega
      have hc : Chg g w wc := (Chg.of_below HB1.out).trans HC4.out
      have b4 := HC4.out.keep HS1.out hbg
      have lb4 := Tr.blk_lt b4
      have cb4 := fun o => Tr.cell_blk (o := o) b4
      have fb4 := fun o => Tr.frozen_blk (o := o) b4
      have HC := Lib.hid hc; have B4 := Lib.hid b4
      clear hc b4
      have ho1 : o = 0 ∨ o = 1 := by omega
      rcases ho1 with rfl | rfl
      · skip
        go_wp2_with fail
        have b5 : ((wc.setCell ⟨w.heap.size, 1, none⟩ (.int .i64 x)).setCell ⟨w.heap.size, 2, none⟩ (.bool false)).heap[w.heap.size]? = some (.cells #[.int .i64 keep, .int .i64 x, .bool false, .int .i64 0, .int .i64 0, .int .i64 0, .int .i64 0, .int .i64 0, .int .i64 0, .slice none 0 0] 104 (0, 0)) := by
          have b4 := B4.out
          (simp only [Tr.heap_set_same, b4, Option.map_some, Tr.setObj]; simp [])
        have hr5 : Rd ((wc.setCell ⟨w.heap.size, 1, none⟩ (.int .i64 x)).setCell ⟨w.heap.size, 2, none⟩ (.bool false)) g H := Tr.blk_set_ne (Tr.blk_set_ne HR4.out _ hbg) _ hbg
        have hc5 : Chg g w ((wc.setCell ⟨w.heap.size, 1, none⟩ (.int .i64 x)).setCell ⟨w.heap.size, 2, none⟩ (.bool false)) := by
          have hc := HC.out
          (repeat (first | with_reducible assumption | (with_reducible exact Tr.Chg.refl _ _) | (with_reducible refine Tr.Chg.set ?_ _ _) | (with_reducible refine Tr.Chg.alloc ?_ _) | (with_reducible refine Tr.Chg.drew ?_) | (with_reducible refine Tr.Chg.drewN ?_) | ((with_reducible refine Tr.Chg.set_new ?_ _ ?_); rotate_left; focus (first | omega | (simp; done) | (simp; omega))) | (with_reducible refine Tr.Chg.grown ?_ (by assumption)) | (with_reducible refine Tr.Chg.trans ?_ (by assumption))))
        generalize (wc.setCell ⟨w.heap.size, 1, none⟩ (.int .i64 x)).setCell ⟨w.heap.size, 2, none⟩ (.bool false) = W5 at *
        have B5 := Lib.hid b5; have HR5 := Lib.hid hr5; have HC5 := Lib.hid hc5
        clear b5 hr5 hc5 B4 HR4 HC4 HC HS1 HR1 HR2 HR3 HC2 HC3 HB1 cb4 fb4
        go_loopw [68] (fun s68 wr => RsInv H n g w.heap.size keep x false w s68 wr) (fun s68 _ => n - (intOf s68).toNat)
        case atStart => exact ⟨0, none, 0, Nat.zero_le _, rfl, fun j hj => by omega, HR5.out, B5.out, ⟨by simp [rdTots, tots], .inl ⟨rfl, rfl⟩⟩, HC5.out⟩
        case round =>
          clear B5 HR5 HC5
          obtain ⟨i, a, cap, hi64, rfl, hok, hr, hb, hown, hc⟩ := hrel
          by_cases hlt : i < n
          · obtain ⟨t, ht⟩ : ∃ t, t = rdTot (rdSts H i) := ⟨_, rfl⟩
            have hRead := C_read g (rdSts H i) wr hr
            rw [← ht] at hRead
            by_cases hokI : rdOk (rdSts H i)
            · have hR2 : Calls Try.prog 60 #[.pointer (some ⟨g, 0, none⟩)] wr fun e w' => e = .returned (.tuple #[t.val, .bool true]) ∧ Rd w' g (rdSts H (i + 1)) ∧ Chg g wr w' := by
                refine hRead.mono ?_
                rintro e w' ⟨⟨_, he, hr'⟩ | ⟨hno, _⟩, hc'⟩
                · exact ⟨he, hr', hc'⟩
                · exact absurd hokI hno
              have hts : tots (rdTots H (i + 1)) = tots (rdTots H i) ++ t.cells := by rw [rdTots_succ, ← ht]; simp [tots]
              obtain ⟨tn, ts, tv, tr, ti, tq⟩ := t
              unfold Tot.val at hR2
              unfold Tot.cells at hts
              dsimp only at hR2 hts
              have hok' : ∀ j, j < i + 1 → rdOk (rdSts H j) := fun j hj => by
                rcases Nat.lt_or_ge j i with h | h
                · exact hok j h
                · rw [show j = i by omega]; exact hokI
              have hrb : ∀ k, (Value.slice a i cap).ownBlock = some k → w.heap.size + 1 ≤ k := fun k hk => Tr.ownsRow_base hown hk
              have HR2 := Lib.hid hR2; have HB := Lib.hid hb; have HTS := Lib.hid hts; have HOWN := Lib.hid hown; have HC := Lib.hid hc; have HOK := Lib.hid hok'; have HRB := Lib.hid hrb
              clear hR2 hb ht hown hc hok' hok hRead hr hts hrb
              go_upto_region 13 with (go_at_call 60; have hk := HR2.out; refine Calls.mono hk ?_; rintro e w6 ⟨rfl, hr6, hc6⟩; have b6 := hc6.keep HB.out hbg; have lb6 := Tr.blk_lt b6; have B6 := Lib.hid b6; have HR6 := Lib.hid hr6; have HC6 := Lib.hid hc6; clear b6 hr6 hc6 hk)
              have b8 := Tr.blk_old (x := .cells #[.int .i64 tn, .int .i64 ts, .int .i64 tv, .int .i64 tr, .int .i64 ti, .int .i64 tq] 55) B6.out
              have t8 := Tr.blk_new w6 (.cells #[.int .i64 tn, .int .i64 ts, .int .i64 tv, .int .i64 tr, .int .i64 ti, .int .i64 tq] 55)
              have hr8 := Rd.keep HR6.out (Tr.below_alloc (Below.refl _ _) (Nat.le_refl _) (o := .cells #[.int .i64 tn, .int .i64 ts, .int .i64 tv, .int .i64 tr, .int .i64 ti, .int .i64 tq] 55))
              have own8 := Tr.ownsRow_keep (Tr.below_alloc (Below.refl _ _) (Nat.le_refl _) (o := .cells #[.int .i64 tn, .int .i64 ts, .int .i64 tv, .int .i64 tr, .int .i64 ti, .int .i64 tq] 55)) (ownsRow_chg HOWN.out HC6.out (by omega))
              have hc8 := (HC.out.trans HC6.out).alloc (.cells #[.int .i64 tn, .int .i64 ts, .int .i64 tv, .int .i64 tr, .int .i64 ti, .int .i64 tq] 55)
              have lb8 := Tr.blk_lt b8
              have lt8 := Tr.blk_lt t8
              generalize w6.alloc (.cells #[.int .i64 tn, .int .i64 ts, .int .i64 tv, .int .i64 tr, .int .i64 ti, .int .i64 tq] 55) = W8 at *
              generalize w6.heap.size = q at *
              have cb8 := fun o => Tr.cell_blk (o := o) b8
              have ct8 := fun o => Tr.cell_blk (o := o) t8
              have B8 := Lib.hid b8; have HR8 := Lib.hid hr8; have OWN8 := Lib.hid own8; have HC8 := Lib.hid hc8
              clear b8 t8 hr8 own8 hc8 B6 HR6 HC6 HOWN HC HB
              go_region_law (first
                | (refine step_append_lies _ rfl _ _ 102 rfl (w.heap.size + 1) 55 i0 (.agg #[.int .i64 0, .int .i64 0, .int .i64 0, .int .i64 0, .int .i64 0, .int .i64 0]) 6 48 Try.underlying102 hi hz0 hz1 hz2 rfl (by decide) _ i (tots (rdTots H i)) rfl ?_ _ 1 1 [.int .i64 tn, .int .i64 ts, .int .i64 tv, .int .i64 tr, .int .i64 ti, .int .i64 tq] rfl rfl ?_ ?_ (by decide) ?_ ?_ ?_ _ rfl ?_
                   · exact Tr.ownsRow_keep (Tr.below_drew (Tr.below_alloc (Below.refl _ _) (Nat.le_refl _))) OWN8.out
                   · exact Tr.news_blk (Tr.blk_drew (Tr.blk_new _ _)) rfl
                   · intro u hu; simp at hu; rcases hu with rfl | rfl | rfl | rfl | rfl | rfl <;> rfl
                   · unfold maxLen; omega
                   · omega
                   · show _ ≤ (W8.alloc _).heap.size; simp; omega
                   intro g9 cp9 w9 hown9 hgrow9 hat9 hlt9
                   have b9 : w9.heap[w.heap.size]? = some (.cells #[.int .i64 keep, .int .i64 x, .bool false, .int .i64 0, .int .i64 0, .int .i64 0, .int .i64 0, .int .i64 0, .int .i64 0, .slice a i cap] 104 (0, 0)) := by
                     rw [hgrow9.block _ (by show _ < (W8.alloc _).heap.size; simp; omega) (fun e => by have := HRB.out _ e.symm; omega)]
                     exact Tr.blk_drew (Tr.blk_old B8.out)
                   have cb9 := fun o => Tr.cell_blk (o := o) b9
                   have fb9 := fun o => Tr.frozen_blk (o := o) b9
                   have hr9 : Rd w9 g (rdSts H (i + 1)) := by
                     unfold Rd
                     rw [hgrow9.block _ (by have := Tr.blk_lt HR8.out; show _ < (W8.alloc _).heap.size; simp; omega) (fun e => by have := HRB.out _ e.symm; omega)]
                     exact Tr.blk_drew (Tr.blk_old HR8.out)
                   have hc9 : Chg g w w9 := by
                     have h := HC8.out
                     have hs := h.size
                     refine ⟨hgrow9.os.trans h.os, hgrow9.tape.trans h.tape, hgrow9.output.trans h.output, Nat.le_trans h.size (Nat.le_trans (show W8.heap.size ≤ (W8.alloc (.cells #[.int .i64 tn, .int .i64 ts, .int .i64 tv, .int .i64 tr, .int .i64 ti, .int .i64 tq] 55)).heap.size by simp) hgrow9.size), fun k hk hne => ?_⟩
                     rw [hgrow9.block _ (by show _ < (W8.alloc _).heap.size; simp; omega) (fun e => by have := HRB.out _ e.symm; omega), ← h.block k hk hne]
                     exact Below.heap_alloc W8 _ _ (by omega)
                   have B9 := Lib.hid b9; have HR9 := Lib.hid hr9; have HC9 := Lib.hid hc9; have OWN9 := Lib.hid hown9
                   clear b9 hr9 hc9 hown9 hgrow9 hat9)
                | fail)
              all_goals
                go_wp2_with fail
                go_roundw
                case rel =>
                  refine ⟨i + 1, some ⟨g9, 0, none⟩, cp9, by omega, by go_num, HOK.out, Tr.blk_set_ne HR9.out _ hbg, ?_, ?_, ?_⟩
                  · have b9 := B9.out
                    (simp only [Tr.heap_set_same, b9, Option.map_some, Tr.setObj]; simp [])
                  · rw [HTS.out]
                    exact ownsRow_chg OWN9.out (Chg.set (Chg.refl w.heap.size w9) 9 _) (by omega)
                  · have hc9 := HC9.out
                    (repeat (first | with_reducible assumption | (with_reducible exact Tr.Chg.refl _ _) | (with_reducible refine Tr.Chg.set ?_ _ _) | (with_reducible refine Tr.Chg.alloc ?_ _) | (with_reducible refine Tr.Chg.drew ?_) | (with_reducible refine Tr.Chg.drewN ?_) | ((with_reducible refine Tr.Chg.set_new ?_ _ ?_); rotate_left; focus (first | omega | (simp; done) | (simp; omega))) | (with_reducible refine Tr.Chg.grown ?_ (by assumption)) | (with_reducible refine Tr.Chg.trans ?_ (by assumption))))
                case measure => simp [intOf]; omega
            · have hng : ¬ G := by rw [hgood]; exact fun h => hokI (h.2.1 i (by omega))
              have hR2 : Calls Try.prog 60 #[.pointer (some ⟨g, 0, none⟩)] wr fun e w' => e = .returned (.tuple #[Tot.zero.val, .bool false]) ∧ Chg g wr w' := by
                refine hRead.mono ?_
                rintro e w' ⟨⟨h, _, _⟩ | ⟨_, he⟩, hc'⟩
                · exact absurd h hokI
                · exact ⟨he, hc'⟩
              unfold Tot.val Tot.zero at hR2
              dsimp only at hR2
              have HR2 := Lib.hid hR2; have HC := Lib.hid hc
              clear hR2 hc hb hown hok hRead hr ht
              go_wp2_with (go_at_call 60; have hk := HR2.out; refine Calls.mono hk ?_; rintro e w6 ⟨rfl, hc6⟩)
              go_ret2
              exact ⟨.inr ⟨hng, rfl⟩, (HC.out.trans hc6).alloc _⟩
          · have hie : i = n := by omega
            subst hie
            have cb := fun o => Tr.cell_blk (o := o) hb
            have hsl := Tr.Sl.of_row hown (tots_one _)
            obtain ⟨st, hst⟩ : ∃ st, st = rdSts H i := ⟨_, rfl⟩
            have hst0 : rdSts H (i + 0) = st := hst.symm
            rw [hst0] at hgood
            rw [← hst] at hr
            have HST := Lib.hid hst; have HB := Lib.hid hb; have HSL := Lib.hid hsl; have HC := Lib.hid hc; have HRR := Lib.hid hr
            clear hst hst0 hb hsl hc hr hown
            obtain ⟨sl, sw⟩ := st
            cases sw with
            | true =>
              have hng : ¬ G := by
                rw [hgood]
                rintro ⟨-, -, h3⟩
                simp at h3
              clear hgood hok
              go_wp2_with (go_at_call 61; have hk := C_RdWrong g (sl, true) wr HRR.out; refine Calls.mono hk ?_; rintro e w7 ⟨rfl, hb7⟩)
              go_ret2
              exact ⟨.inr ⟨hng, rfl⟩, HC.out.trans (Chg.of_below hb7)⟩
            | false =>
              have hg : G := by
                rw [hgood]
                exact ⟨hbad, fun j hj => hok j (by omega), rfl⟩
              clear hgood hok
              go_wp2_with (go_at_call 61; have hk := C_RdWrong g (sl, false) wr HRR.out; refine Calls.mono hk ?_; rintro e w7 ⟨rfl, hb7⟩)
              go_ret2
              refine ⟨.inl ⟨hg, _, rfl, ?_, by have h := Rd.keep HRR.out hb7; rw [HST.out] at h; exact h⟩, HC.out.trans (Chg.of_below hb7)⟩
              have hY : Y = ⟨keep, x, false, .zero, rdTots H i⟩ := by rw [HY.out]; simp
              rw [hY]
              exact Sh.is_keep (Sh.is_mk (rdTots_len H i) HB.out HSL.out) hb7
      · skip
        go_wp2_with fail
        have b5 : ((wc.setCell ⟨w.heap.size, 1, none⟩ (.int .i64 x)).setCell ⟨w.heap.size, 2, none⟩ (.bool true)).heap[w.heap.size]? = some (.cells #[.int .i64 keep, .int .i64 x, .bool true, .int .i64 0, .int .i64 0, .int .i64 0, .int .i64 0, .int .i64 0, .int .i64 0, .slice none 0 0] 104 (0, 0)) := by
          have b4 := B4.out
          (simp only [Tr.heap_set_same, b4, Option.map_some, Tr.setObj]; simp [])
        have hr5 : Rd ((wc.setCell ⟨w.heap.size, 1, none⟩ (.int .i64 x)).setCell ⟨w.heap.size, 2, none⟩ (.bool true)) g H := Tr.blk_set_ne (Tr.blk_set_ne HR4.out _ hbg) _ hbg
        have hc5 : Chg g w ((wc.setCell ⟨w.heap.size, 1, none⟩ (.int .i64 x)).setCell ⟨w.heap.size, 2, none⟩ (.bool true)) := by
          have hc := HC.out
          (repeat (first | with_reducible assumption | (with_reducible exact Tr.Chg.refl _ _) | (with_reducible refine Tr.Chg.set ?_ _ _) | (with_reducible refine Tr.Chg.alloc ?_ _) | (with_reducible refine Tr.Chg.drew ?_) | (with_reducible refine Tr.Chg.drewN ?_) | ((with_reducible refine Tr.Chg.set_new ?_ _ ?_); rotate_left; focus (first | omega | (simp; done) | (simp; omega))) | (with_reducible refine Tr.Chg.grown ?_ (by assumption)) | (with_reducible refine Tr.Chg.trans ?_ (by assumption))))
        generalize (wc.setCell ⟨w.heap.size, 1, none⟩ (.int .i64 x)).setCell ⟨w.heap.size, 2, none⟩ (.bool true) = W5 at *
        have B5 := Lib.hid b5; have HR5 := Lib.hid hr5; have HC5 := Lib.hid hc5
        clear b5 hr5 hc5 B4 HR4 HC4 HC HS1 HR1 HR2 HR3 HC2 HC3 HB1 cb4 fb4
        go_loopw [68] (fun s68 wr => RsInv H n g w.heap.size keep x true w s68 wr) (fun s68 _ => n - (intOf s68).toNat)
        case atStart => exact ⟨0, none, 0, Nat.zero_le _, rfl, fun j hj => by omega, HR5.out, B5.out, ⟨by simp [rdTots, tots], .inl ⟨rfl, rfl⟩⟩, HC5.out⟩
        case round =>
          clear B5 HR5 HC5
          obtain ⟨i, a, cap, hi64, rfl, hok, hr, hb, hown, hc⟩ := hrel
          by_cases hlt : i < n
          · obtain ⟨t, ht⟩ : ∃ t, t = rdTot (rdSts H i) := ⟨_, rfl⟩
            have hRead := C_read g (rdSts H i) wr hr
            rw [← ht] at hRead
            by_cases hokI : rdOk (rdSts H i)
            · have hR2 : Calls Try.prog 60 #[.pointer (some ⟨g, 0, none⟩)] wr fun e w' => e = .returned (.tuple #[t.val, .bool true]) ∧ Rd w' g (rdSts H (i + 1)) ∧ Chg g wr w' := by
                refine hRead.mono ?_
                rintro e w' ⟨⟨_, he, hr'⟩ | ⟨hno, _⟩, hc'⟩
                · exact ⟨he, hr', hc'⟩
                · exact absurd hokI hno
              have hts : tots (rdTots H (i + 1)) = tots (rdTots H i) ++ t.cells := by rw [rdTots_succ, ← ht]; simp [tots]
              obtain ⟨tn, ts, tv, tr, ti, tq⟩ := t
              unfold Tot.val at hR2
              unfold Tot.cells at hts
              dsimp only at hR2 hts
              have hok' : ∀ j, j < i + 1 → rdOk (rdSts H j) := fun j hj => by
                rcases Nat.lt_or_ge j i with h | h
                · exact hok j h
                · rw [show j = i by omega]; exact hokI
              have hrb : ∀ k, (Value.slice a i cap).ownBlock = some k → w.heap.size + 1 ≤ k := fun k hk => Tr.ownsRow_base hown hk
              have HR2 := Lib.hid hR2; have HB := Lib.hid hb; have HTS := Lib.hid hts; have HOWN := Lib.hid hown; have HC := Lib.hid hc; have HOK := Lib.hid hok'; have HRB := Lib.hid hrb
              clear hR2 hb ht hown hc hok' hok hRead hr hts hrb
              go_upto_region 13 with (go_at_call 60; have hk := HR2.out; refine Calls.mono hk ?_; rintro e w6 ⟨rfl, hr6, hc6⟩; have b6 := hc6.keep HB.out hbg; have lb6 := Tr.blk_lt b6; have B6 := Lib.hid b6; have HR6 := Lib.hid hr6; have HC6 := Lib.hid hc6; clear b6 hr6 hc6 hk)
              have b8 := Tr.blk_old (x := .cells #[.int .i64 tn, .int .i64 ts, .int .i64 tv, .int .i64 tr, .int .i64 ti, .int .i64 tq] 55) B6.out
              have t8 := Tr.blk_new w6 (.cells #[.int .i64 tn, .int .i64 ts, .int .i64 tv, .int .i64 tr, .int .i64 ti, .int .i64 tq] 55)
              have hr8 := Rd.keep HR6.out (Tr.below_alloc (Below.refl _ _) (Nat.le_refl _) (o := .cells #[.int .i64 tn, .int .i64 ts, .int .i64 tv, .int .i64 tr, .int .i64 ti, .int .i64 tq] 55))
              have own8 := Tr.ownsRow_keep (Tr.below_alloc (Below.refl _ _) (Nat.le_refl _) (o := .cells #[.int .i64 tn, .int .i64 ts, .int .i64 tv, .int .i64 tr, .int .i64 ti, .int .i64 tq] 55)) (ownsRow_chg HOWN.out HC6.out (by omega))
              have hc8 := (HC.out.trans HC6.out).alloc (.cells #[.int .i64 tn, .int .i64 ts, .int .i64 tv, .int .i64 tr, .int .i64 ti, .int .i64 tq] 55)
              have lb8 := Tr.blk_lt b8
              have lt8 := Tr.blk_lt t8
              generalize w6.alloc (.cells #[.int .i64 tn, .int .i64 ts, .int .i64 tv, .int .i64 tr, .int .i64 ti, .int .i64 tq] 55) = W8 at *
              generalize w6.heap.size = q at *
              have cb8 := fun o => Tr.cell_blk (o := o) b8
              have ct8 := fun o => Tr.cell_blk (o := o) t8
              have B8 := Lib.hid b8; have HR8 := Lib.hid hr8; have OWN8 := Lib.hid own8; have HC8 := Lib.hid hc8
              clear b8 t8 hr8 own8 hc8 B6 HR6 HC6 HOWN HC HB
              go_region_law (first
                | (refine step_append_lies _ rfl _ _ 102 rfl (w.heap.size + 1) 55 i0 (.agg #[.int .i64 0, .int .i64 0, .int .i64 0, .int .i64 0, .int .i64 0, .int .i64 0]) 6 48 Try.underlying102 hi hz0 hz1 hz2 rfl (by decide) _ i (tots (rdTots H i)) rfl ?_ _ 1 1 [.int .i64 tn, .int .i64 ts, .int .i64 tv, .int .i64 tr, .int .i64 ti, .int .i64 tq] rfl rfl ?_ ?_ (by decide) ?_ ?_ ?_ _ rfl ?_
                   · exact Tr.ownsRow_keep (Tr.below_drew (Tr.below_alloc (Below.refl _ _) (Nat.le_refl _))) OWN8.out
                   · exact Tr.news_blk (Tr.blk_drew (Tr.blk_new _ _)) rfl
                   · intro u hu; simp at hu; rcases hu with rfl | rfl | rfl | rfl | rfl | rfl <;> rfl
                   · unfold maxLen; omega
                   · omega
                   · show _ ≤ (W8.alloc _).heap.size; simp; omega
                   intro g9 cp9 w9 hown9 hgrow9 hat9 hlt9
                   have b9 : w9.heap[w.heap.size]? = some (.cells #[.int .i64 keep, .int .i64 x, .bool true, .int .i64 0, .int .i64 0, .int .i64 0, .int .i64 0, .int .i64 0, .int .i64 0, .slice a i cap] 104 (0, 0)) := by
                     rw [hgrow9.block _ (by show _ < (W8.alloc _).heap.size; simp; omega) (fun e => by have := HRB.out _ e.symm; omega)]
                     exact Tr.blk_drew (Tr.blk_old B8.out)
                   have cb9 := fun o => Tr.cell_blk (o := o) b9
                   have fb9 := fun o => Tr.frozen_blk (o := o) b9
                   have hr9 : Rd w9 g (rdSts H (i + 1)) := by
                     unfold Rd
                     rw [hgrow9.block _ (by have := Tr.blk_lt HR8.out; show _ < (W8.alloc _).heap.size; simp; omega) (fun e => by have := HRB.out _ e.symm; omega)]
                     exact Tr.blk_drew (Tr.blk_old HR8.out)
                   have hc9 : Chg g w w9 := by
                     have h := HC8.out
                     have hs := h.size
                     refine ⟨hgrow9.os.trans h.os, hgrow9.tape.trans h.tape, hgrow9.output.trans h.output, Nat.le_trans h.size (Nat.le_trans (show W8.heap.size ≤ (W8.alloc (.cells #[.int .i64 tn, .int .i64 ts, .int .i64 tv, .int .i64 tr, .int .i64 ti, .int .i64 tq] 55)).heap.size by simp) hgrow9.size), fun k hk hne => ?_⟩
                     rw [hgrow9.block _ (by show _ < (W8.alloc _).heap.size; simp; omega) (fun e => by have := HRB.out _ e.symm; omega), ← h.block k hk hne]
                     exact Below.heap_alloc W8 _ _ (by omega)
                   have B9 := Lib.hid b9; have HR9 := Lib.hid hr9; have HC9 := Lib.hid hc9; have OWN9 := Lib.hid hown9
                   clear b9 hr9 hc9 hown9 hgrow9 hat9)
                | fail)
              all_goals
                go_wp2_with fail
                go_roundw
                case rel =>
                  refine ⟨i + 1, some ⟨g9, 0, none⟩, cp9, by omega, by go_num, HOK.out, Tr.blk_set_ne HR9.out _ hbg, ?_, ?_, ?_⟩
                  · have b9 := B9.out
                    (simp only [Tr.heap_set_same, b9, Option.map_some, Tr.setObj]; simp [])
                  · rw [HTS.out]
                    exact ownsRow_chg OWN9.out (Chg.set (Chg.refl w.heap.size w9) 9 _) (by omega)
                  · have hc9 := HC9.out
                    (repeat (first | with_reducible assumption | (with_reducible exact Tr.Chg.refl _ _) | (with_reducible refine Tr.Chg.set ?_ _ _) | (with_reducible refine Tr.Chg.alloc ?_ _) | (with_reducible refine Tr.Chg.drew ?_) | (with_reducible refine Tr.Chg.drewN ?_) | ((with_reducible refine Tr.Chg.set_new ?_ _ ?_); rotate_left; focus (first | omega | (simp; done) | (simp; omega))) | (with_reducible refine Tr.Chg.grown ?_ (by assumption)) | (with_reducible refine Tr.Chg.trans ?_ (by assumption))))
                case measure => simp [intOf]; omega
            · have hng : ¬ G := by rw [hgood]; exact fun h => hokI (h.2.1 i (by omega))
              have hR2 : Calls Try.prog 60 #[.pointer (some ⟨g, 0, none⟩)] wr fun e w' => e = .returned (.tuple #[Tot.zero.val, .bool false]) ∧ Chg g wr w' := by
                refine hRead.mono ?_
                rintro e w' ⟨⟨h, _, _⟩ | ⟨_, he⟩, hc'⟩
                · exact absurd h hokI
                · exact ⟨he, hc'⟩
              unfold Tot.val Tot.zero at hR2
              dsimp only at hR2
              have HR2 := Lib.hid hR2; have HC := Lib.hid hc
              clear hR2 hc hb hown hok hRead hr ht
              go_wp2_with (go_at_call 60; have hk := HR2.out; refine Calls.mono hk ?_; rintro e w6 ⟨rfl, hc6⟩)
              go_ret2
              exact ⟨.inr ⟨hng, rfl⟩, (HC.out.trans hc6).alloc _⟩
          · have hie : i = n := by omega
            subst hie
            obtain ⟨t, ht⟩ : ∃ t, t = rdTot (rdSts H i) := ⟨_, rfl⟩
            have hRead := C_read g (rdSts H i) wr hr
            rw [← ht] at hRead
            by_cases hokI : rdOk (rdSts H i)
            · have hR2 : Calls Try.prog 60 #[.pointer (some ⟨g, 0, none⟩)] wr fun e w' => e = .returned (.tuple #[t.val, .bool true]) ∧ Rd w' g (rdSts H (i + 1)) ∧ Chg g wr w' := by
                refine hRead.mono ?_
                rintro e w' ⟨⟨_, he, hr'⟩ | ⟨hno, _⟩, hc'⟩
                · exact ⟨he, hr', hc'⟩
                · exact absurd hokI hno
              have hY : Y = ⟨keep, x, true, t, rdTots H i⟩ := by rw [HY.out, ht]; simp
              obtain ⟨tn, ts, tv, tr, ti, tq⟩ := t
              unfold Tot.val at hR2
              dsimp only at hR2
              obtain ⟨st, hst⟩ : ∃ st, st = rdSts H (i + 1) := ⟨_, rfl⟩
              rw [← hst] at hR2 hgood
              have HST := Lib.hid hst
              have hok' : ∀ j, j < i + 1 → rdOk (rdSts H j) := fun j hj => by
                rcases Nat.lt_or_ge j i with h | h
                · exact hok j h
                · rw [show j = i by omega]; exact hokI
              have HR2 := Lib.hid hR2; have HB := Lib.hid hb; have HYY := Lib.hid hY; have HOWN := Lib.hid hown; have HC := Lib.hid hc; have HOK := Lib.hid hok'
              have cb := fun o => Tr.cell_blk (o := o) hb
              clear hR2 hb ht hown hc hst hok' hok hRead hr hY
              obtain ⟨sl, sw⟩ := st
              cases sw with
              | true =>
                have hng : ¬ G := by
                  rw [hgood]
                  rintro ⟨-, -, h3⟩
                  simp at h3
                clear hgood
                go_wp2_with (first
                  | (go_at_call 61; refine Calls.mono (C_RdWrong g (sl, true) _ ?_) ?_; (focus (unfold Rd; dsimp only; (try (with_reducible refine Tr.blk_old ?_)); (repeat (with_reducible refine Tr.blk_set_ne ?_ _ hbg)); with_reducible exact hr6)); rintro e w7 ⟨rfl, hb7⟩)
                  | (go_at_call 60; have hk := HR2.out; refine Calls.mono hk ?_; rintro e w6 ⟨rfl, hr6, hc6⟩; unfold Rd at hr6; dsimp only at hr6; have b6 := hc6.keep HB.out hbg; have lb6 := Tr.blk_lt b6; clear cb; have cb6 := fun o => Tr.cell_blk (o := o) b6; have fb6 := fun o => Tr.frozen_blk (o := o) b6; have B6 := Lib.hid b6; have HC6 := Lib.hid hc6; clear b6 hc6 hk)
                  | fail)
                go_ret2
                refine ⟨.inr ⟨hng, rfl⟩, ?_⟩
                have hcc := HC.out.trans HC6.out
                refine Chg.trans (w1 := _) ?_ (Chg.of_below hb7)
                (repeat (first | with_reducible assumption | (with_reducible exact Tr.Chg.refl _ _) | (with_reducible refine Tr.Chg.set ?_ _ _) | (with_reducible refine Tr.Chg.alloc ?_ _) | (with_reducible refine Tr.Chg.drew ?_) | (with_reducible refine Tr.Chg.drewN ?_) | ((with_reducible refine Tr.Chg.set_new ?_ _ ?_); rotate_left; focus (first | omega | (simp; done) | (simp; omega))) | (with_reducible refine Tr.Chg.grown ?_ (by assumption)) | (with_reducible refine Tr.Chg.trans ?_ (by assumption))))
              | false =>
                have hg : G := by
                  rw [hgood]
                  exact ⟨hbad, fun j hj => HOK.out j (by omega), rfl⟩
                clear hgood
                go_wp2_with (first
                  | (go_at_call 61; refine Calls.mono (C_RdWrong g (sl, false) _ ?_) ?_; (focus (unfold Rd; dsimp only; (try (with_reducible refine Tr.blk_old ?_)); (repeat (with_reducible refine Tr.blk_set_ne ?_ _ hbg)); with_reducible exact hr6)); rintro e w7 ⟨rfl, hb7⟩)
                  | (go_at_call 60; have hk := HR2.out; refine Calls.mono hk ?_; rintro e w6 ⟨rfl, hr6, hc6⟩; unfold Rd at hr6; dsimp only at hr6; have b6 := hc6.keep HB.out hbg; have lb6 := Tr.blk_lt b6; clear cb; have cb6 := fun o => Tr.cell_blk (o := o) b6; have fb6 := fun o => Tr.frozen_blk (o := o) b6; have own6 := ownsRow_chg HOWN.out hc6 (by omega); have B6 := Lib.hid b6; have HC6 := Lib.hid hc6; have OWN6 := Lib.hid own6; clear b6 hc6 hk own6)
                  | fail)
                go_ret2
                have hcc := HC.out.trans HC6.out
                refine ⟨.inl ⟨hg, _, rfl, ?_, ?_⟩, Chg.trans (w1 := _) ?_ (Chg.of_below hb7)⟩
                · rw [HYY.out]
                  refine Sh.is_keep (Sh.is_mk (a := a) (cap := cap) (rdTots_len H i) ?_ ?_) hb7
                  · have b6 := B6.out
                    refine Tr.blk_old ?_
                    (simp only [Tr.heap_set_same, b6, Option.map_some, Tr.setObj]; simp [])
                  · refine Tr.Sl.of_row (ownsRow_chg (g := w.heap.size) OWN6.out ?_ (by omega)) (tots_one _)
                    (repeat (first | with_reducible assumption | (with_reducible exact Tr.Chg.refl _ _) | (with_reducible refine Tr.Chg.set ?_ _ _) | (with_reducible refine Tr.Chg.alloc ?_ _) | (with_reducible refine Tr.Chg.drew ?_) | (with_reducible refine Tr.Chg.drewN ?_) | ((with_reducible refine Tr.Chg.set_new ?_ _ ?_); rotate_left; focus (first | omega | (simp; done) | (simp; omega))) | (with_reducible refine Tr.Chg.grown ?_ (by assumption)) | (with_reducible refine Tr.Chg.trans ?_ (by assumption))))
                · rw [← HST.out]
                  refine Rd.keep ?_ hb7
                  unfold Rd; dsimp only; (try (with_reducible refine Tr.blk_old ?_)); (repeat (with_reducible refine Tr.blk_set_ne ?_ _ hbg)); with_reducible exact hr6
                · (repeat (first | with_reducible assumption | (with_reducible exact Tr.Chg.refl _ _) | (with_reducible refine Tr.Chg.set ?_ _ _) | (with_reducible refine Tr.Chg.alloc ?_ _) | (with_reducible refine Tr.Chg.drew ?_) | (with_reducible refine Tr.Chg.drewN ?_) | ((with_reducible refine Tr.Chg.set_new ?_ _ ?_); rotate_left; focus (first | omega | (simp; done) | (simp; omega))) | (with_reducible refine Tr.Chg.grown ?_ (by assumption)) | (with_reducible refine Tr.Chg.trans ?_ (by assumption))))
            · have hng : ¬ G := by rw [hgood]; exact fun h => hokI (h.2.1 i (by omega))
              have hR2 : Calls Try.prog 60 #[.pointer (some ⟨g, 0, none⟩)] wr fun e w' => e = .returned (.tuple #[Tot.zero.val, .bool false]) ∧ Chg g wr w' := by
                refine hRead.mono ?_
                rintro e w' ⟨⟨h, _, _⟩ | ⟨_, he⟩, hc'⟩
                · exact absurd h hokI
                · exact ⟨he, hc'⟩
              unfold Tot.val Tot.zero at hR2
              dsimp only at hR2
              have cb := fun o => Tr.cell_blk (o := o) hb
              have HR2 := Lib.hid hR2; have HC := Lib.hid hc
              clear hR2 hc hb hown hok hRead hr ht
              go_wp2_with (go_at_call 60; have hk := HR2.out; refine Calls.mono hk ?_; rintro e w6 ⟨rfl, hc6⟩)
              go_ret2
              exact ⟨.inr ⟨hng, rfl⟩, (HC.out.trans hc6).alloc _⟩
end Go.Proofs.Ytjkfkgpdlflbhaa
