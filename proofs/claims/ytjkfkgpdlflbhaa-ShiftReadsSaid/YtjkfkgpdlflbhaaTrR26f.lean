/- The reference's Read, its loop. -/
import Derived.Test.YtjkfkgpdlflbhaaTrR26e
import Derived.Test.YtjkfkgpdlflbhaaTrRd4
namespace Go.Proofs.Ytjkfkgpdlflbhaa
open Go.RowKit Go.Sort
open Tr (Sl Chg)
set_option linter.unusedVariables false
set_option linter.unusedSimpArgs false

set_option maxRecDepth 100000 in
set_option maxHeartbeats 8000000 in
theorem C_R26Read_main (l : List UInt8) (keep : Int) (k0 : 1 ≤ keep) (k1 : keep ≤ 64) (w : World) (h7 : 7 ≤ l.length) (ho1 : bL l 5 ≤ 1) (hlen : l.length ≤ 1000000) : Calls Try.prog 41 #[.string ⟨l.toArray⟩, .int .i64 keep] w fun e w' =>
    ((goodL keep l ∧ ∃ a cap, e = .returned (.tuple #[RV (shL keep l) (.slice a (bL l 6) cap), .int .i64 (7 + 44 * ((bL l 6 : Int) + bL l 5)), .int .i64 0]) ∧ Sl 69 6 w' (.slice a (bL l 6) cap) (bL l 6) (tots (shL keep l).cl)) ∨
      (¬ goodL keep l ∧ e = .returned (.tuple #[.agg #[.int .i64 0, .int .i64 0, .bool false, .int .i64 0, .int .i64 0, .int .i64 0, .int .i64 0, .int .i64 0, .int .i64 0, .slice none 0 0], .int .i64 0, .int .i64 4]))) ∧ Below w.heap.size w w' := by
  have hsz : (ByteArray.mk l.toArray).size = l.length := by simp [ByteArray.size]
  have hnum : ∀ W, Calls Try.prog 62 #[.string ((ByteArray.mk l.toArray).extract 0 5)] W fun e w' => e = .returned (.int .u64 (xL l : Nat)) ∧ Below W.heap.size W w' := fun W => by
    rw [str_take]
    exact C_R26number _ (by simp; omega) W
  have hone : ∀ i W, 7 + 44 * (i + 1) ≤ l.length → Calls Try.prog 63 #[.string ((ByteArray.mk l.toArray).extract (7 + 44 * i) (51 + 44 * i))] W _ := fun i W hi => by
    rw [str_mid, show 51 + 44 * i - (7 + 44 * i) = 44 by omega]
    exact C_R26one (pieceL l i) (by unfold pieceL; simp; omega) W
  have hx : xL l < 1099511627776 := NUM_lt _ 5 (by simp; omega)
  have hn : bL l 6 < 256 := UInt8.toNat_lt _
  obtain ⟨G, hG⟩ : ∃ G, G = goodL keep l := ⟨_, rfl⟩
  obtain ⟨Y, hY⟩ : ∃ Y, Y = shL keep l := ⟨_, rfl⟩
  have hG2 := hG
  unfold goodL at hG2
  have hY2 := hY
  unfold shL at hY2
  rw [← hG, ← hY]
  obtain ⟨x, hxx⟩ : ∃ x, x = xL l := ⟨_, rfl⟩
  obtain ⟨o, hoo⟩ : ∃ o, o = bL l 5 := ⟨_, rfl⟩
  obtain ⟨n, hnn⟩ : ∃ n, n = bL l 6 := ⟨_, rfl⟩
  have h5 : ∀ W, (Instr.index 9 (.string ⟨l.toArray⟩) (.int .i64 5)).run Try.prog W = .ok (.int .u8 (o : Nat)) W := fun W => by
    rw [run_index_string W 9 _ _ _ Try.underlying9, dif_pos (by rw [hsz]; omega), hoo]
    simp [bL, List.getD, show 5 < l.length by omega]
    rfl
  have h5' : ((ByteArray.mk l.toArray)[5]'(by rw [hsz]; omega)).toNat = o := by
    rw [hoo]
    simp [bL, List.getD, show 5 < l.length by omega]
    rfl
  have h6 : ∀ W, (Instr.index 9 (.string ⟨l.toArray⟩) (.int .i64 6)).run Try.prog W = .ok (.int .u8 (n : Nat)) W := fun W => by
    rw [run_index_string W 9 _ _ _ Try.underlying9, dif_pos (by rw [hsz]; omega), hnn]
    simp [bL, List.getD, show 6 < l.length by omega]
    rfl
  have h6' : ((ByteArray.mk l.toArray)[6]'(by rw [hsz]; omega)).toNat = n := by
    rw [hnn]
    simp [bL, List.getD, show 6 < l.length by omega]
    rfl
  rw [← hxx] at hnum hx hG2 hY2
  rw [← hoo] at ho1 hG2 hY2 ⊢
  rw [← hnn] at hn hG2 hY2 ⊢
  have HG := Lib.hid hG2; have HY := Lib.hid hY2; have HNUM := Lib.hid hnum; have HONE := Lib.hid hone
  clear hG hY hG2 hY2 hxx hoo hnn hnum hone
  obtain ⟨i0, hi, hz0, hz1, hz2⟩ := info_parts info_RTotals
  have hgood : G = (7 ≤ l.length ∧ ¬ rdBad keep x o n ∧ 7 + 44 * (n + o) ≤ l.length ∧ ∀ i, i < n + o → okL (pieceL l i)) := HG.out
  have ho2 : o = 0 ∨ o = 1 := by omega
  rcases ho2 with rfl | rfl
  · go_enter Try.func41, Try.ntmps41
    go_upto_region 10 with (go_at_call 62; refine Calls.mono (HNUM.out _) ?_; rintro e w1 ⟨rfl, hb1⟩; have z1 := Tr.blk_keep (b := w.heap.size) hb1 (Tr.blk_old (Tr.blk_new _ _)); have y1 := Tr.blk_keep (b := w.heap.size + 1) hb1 (Tr.blk_at (by simp)); have hB1 : Below w.heap.size w w1 := Tr.below_trans (by (repeat (first | with_reducible assumption | (with_reducible exact Below.refl _ _) | ((with_reducible refine Tr.below_alloc ?_ ?_); rotate_left; focus (first | omega | exact Nat.le_refl _)) | (with_reducible refine Tr.below_drew ?_) | (with_reducible refine Tr.below_drewN ?_) | ((with_reducible refine Tr.below_set ?_ ?_); rotate_left; focus (first | omega | (simp; done) | (simp; omega))) | ((with_reducible refine Tr.below_trans ?_ (by assumption) ?_); rotate_left; focus (first | exact Nat.le_refl _ | omega))))) hb1; have Z1 := Lib.hid z1; have Y1 := Lib.hid y1; have HB1 := Lib.hid hB1; have lw1 := Tr.blk_lt y1; clear z1 y1 hb1 hB1)
    have z2 := Tr.blk_old (x := .cells #[.int .i64 keep, .int .i64 x, .bool false, .int .i64 0, .int .i64 0, .int .i64 0, .int .i64 0, .int .i64 0, .int .i64 0, .slice none 0 0] 74) Z1.out
    have y2 := Tr.blk_old (x := .cells #[.int .i64 keep, .int .i64 x, .bool false, .int .i64 0, .int .i64 0, .int .i64 0, .int .i64 0, .int .i64 0, .int .i64 0, .slice none 0 0] 74) Y1.out
    have q2 := Tr.blk_new w1 (.cells #[.int .i64 keep, .int .i64 x, .bool false, .int .i64 0, .int .i64 0, .int .i64 0, .int .i64 0, .int .i64 0, .int .i64 0, .slice none 0 0] 74)
    have hB2 := Tr.below_alloc HB1.out (Nat.le_refl _) (o := .cells #[.int .i64 keep, .int .i64 x, .bool false, .int .i64 0, .int .i64 0, .int .i64 0, .int .i64 0, .int .i64 0, .int .i64 0, .slice none 0 0] 74)
    generalize w1.alloc (.cells #[.int .i64 keep, .int .i64 x, .bool false, .int .i64 0, .int .i64 0, .int .i64 0, .int .i64 0, .int .i64 0, .int .i64 0, .slice none 0 0] 74) = W2 at *
    generalize w1.heap.size = q at *
    have lq2 := Tr.blk_lt q2
    have cq2 := fun o => Tr.cell_blk (o := o) q2
    have cy2 := fun o => Tr.cell_blk (o := o) y2
    have cz2 := fun o => Tr.cell_blk (o := o) z2
    have fz2 := fun o => Tr.frozen_blk (o := o) z2
    have lz2 := Tr.blk_lt z2
    have Z2 := Lib.hid z2; have Y2 := Lib.hid y2; have Q2 := Lib.hid q2; have HB2 := Lib.hid hB2
    clear z2 y2 q2 hB2 Z1 Y1 HB1
    by_cases hbad : (x : Int) < 1 ∨ 4294967296 < (x : Int) ∨ keep < n ∨ (x : Int) - 1 < (n : Int) ∨ (l.length : Int) < 7 + 44 * (n : Int)
    · have hng : ¬ G := by
        rw [hgood]
        unfold rdBad
        rintro ⟨-, h1, h2, -⟩
        apply h1
        omega
      go_cut [77] from 50 to 76 (fun s77 wx => s77 = .bool true ∧ wx = W2)
      case first =>
        have hb : ((x : Int) < 1) ∨ (¬ (x : Int) < 1 ∧ 4294967296 < (x : Int)) ∨ (¬ (x : Int) < 1 ∧ ¬ 4294967296 < (x : Int) ∧ keep < n) ∨ (¬ (x : Int) < 1 ∧ ¬ 4294967296 < (x : Int) ∧ ¬ keep < n ∧ (x : Int) - 1 < (n : Int)) ∨ (¬ (x : Int) < 1 ∧ ¬ 4294967296 < (x : Int) ∧ ¬ keep < n ∧ ¬ (x : Int) - 1 < (n : Int) ∧ (l.length : Int) < 7 + 44 * (n : Int)) := by omega
        clear hbad
        rcases hb with b1 | ⟨b1, b2⟩ | ⟨b1, b2, b3⟩ | ⟨b1, b2, b3, b4⟩ | ⟨b1, b2, b3, b4, b5⟩
        all_goals
          go_wp2_with fail
          go_meet
          first | exact ⟨rfl, rfl⟩ | (refine ⟨?_, rfl⟩; simp; omega)
      case rest =>
        obtain ⟨rfl, rfl⟩ := hcut
        go_wp2_with fail
        refine bodyPost_ret (Tr.results_run [.cell 4 74, .tmp 5, .tmp 6] [_, _, _] rfl ⟨_, _, rfl, ⟨_, rfl, Tr.load_blk (t := 74) (fr := (0, 0)) (cs := #[.int .i64 0, .int .i64 0, .bool false, .int .i64 0, .int .i64 0, .int .i64 0, .int .i64 0, .int .i64 0, .int .i64 0, .slice none 0 0]) ?_ Try.underlying74 rfl (by kernel_rfl)⟩, _, _, rfl, rfl, _, _, rfl, rfl, rfl⟩ _ rfl) rfl ⟨.inr ⟨hng, rfl⟩, ?_⟩
        · have z2 := Z2.out
          (simp only [Tr.heap_set_same, z2, Option.map_some, Tr.setObj]; simp [])
        · have hB := HB2.out
          (repeat (first | with_reducible assumption | (with_reducible exact Below.refl _ _) | ((with_reducible refine Tr.below_alloc ?_ ?_); rotate_left; focus (first | omega | exact Nat.le_refl _)) | (with_reducible refine Tr.below_drew ?_) | (with_reducible refine Tr.below_drewN ?_) | ((with_reducible refine Tr.below_set ?_ ?_); rotate_left; focus (first | omega | (simp; done) | (simp; omega))) | ((with_reducible refine Tr.below_trans ?_ (by assumption) ?_); rotate_left; focus (first | exact Nat.le_refl _ | omega))))
    · have g1 : ¬ (x : Int) < 1 := by omega
      have g2 : ¬ (4294967296 : Int) < x := by omega
      have g3 : ¬ keep < n := by omega
      have g4 : ¬ (x : Int) - 1 < (n : Int) := by omega
      have g5 : ¬ (l.length : Int) < 7 + 44 * (n : Int) := by omega
      have hnb : ¬ rdBad keep x 0 n := by unfold rdBad; omega
      have hlen2 : 7 + 44 * (n + 0) ≤ l.length := by omega
      clear hbad
      go_cut [77] from 50 to 76 (fun s77 wx => s77 = .bool false ∧ wx = W2)
      case first =>
        go_wp2_with fail
        go_meet
        first | exact ⟨rfl, rfl⟩ | (refine ⟨?_, rfl⟩; simp; omega)
      case rest =>
        obtain ⟨rfl, rfl⟩ := hcut
        go_wp2_with fail
        go_loopw [12] (fun s12 wr => R26Inv l keep x 0 n q false w s12 wr) (fun s12 _ => n + 0 - (intOf s12).toNat)
        case atStart => exact ⟨0, 0, .zero, none, 0, Nat.zero_le _, by omega, by rw [if_pos (by omega)], rfl, fun j hj => by omega, Q2.out, ⟨by simp [tots], .inl ⟨rfl, rfl⟩⟩, Z2.out, Y2.out, HB2.out⟩
        case round =>
          clear Z2 Y2 Q2 HB2 cq2 cy2 cz2 fz2 lq2 lz2
          obtain ⟨i, k, t, a, cap, hi', hk, ht, rfl, hok, hq, hown, hz, hy, hB⟩ := hrel
          have lq := Tr.blk_lt hq
          have lz := Tr.blk_lt hz
          have hrb : ∀ c, (Value.slice a k cap).ownBlock = some c → q + 1 ≤ c := fun c hc => Tr.ownsRow_base hown hc
          have HRB := Lib.hid hrb; have HT := Lib.hid ht; have HOK := Lib.hid hok; have HQ := Lib.hid hq; have HOWN := Lib.hid hown; have HZ := Lib.hid hz; have HYB := Lib.hid hy; have HB := Lib.hid hB
          clear hrb ht hok hq hown hz hy hB
          by_cases hlt : i < n + 0
          · have ht1 : (7 + 44 * (i : Int)).toNat = 7 + 44 * i := by omega
            have ht2 : (51 + 44 * (i : Int)).toNat = 51 + 44 * i := by omega
            have hOne := HONE.out i wr (by omega)
            by_cases hokI : okL (pieceL l i)
            · have hR : Calls Try.prog 63 #[.string ((ByteArray.mk l.toArray).extract (7 + 44 * i) (51 + 44 * i))] wr fun e w' => e = .returned (.tuple #[(totL (pieceL l i)).val, .bool true]) ∧ Below wr.heap.size wr w' := by
                refine hOne.mono ?_
                rintro e w' ⟨⟨_, he⟩ | ⟨hno, _⟩, hb⟩
                · exact ⟨he, hb⟩
                · exact absurd hokI hno
              have hok' : ∀ j, j < i + 1 → okL (pieceL l j) := fun j hj => by
                rcases Nat.lt_or_ge j i with h | h
                · exact HOK.out j h
                · rw [show j = i by omega]; exact hokI
              obtain ⟨T, hT⟩ : ∃ T, T = totL (pieceL l i) := ⟨_, rfl⟩
              rw [← hT] at hR
              obtain ⟨tn, ts, tv, tr, ti, tq⟩ := T
              unfold Tot.val at hR
              dsimp only at hR
              have HR := Lib.hid hR; have HOK' := Lib.hid hok'; have HTT := Lib.hid hT
              clear hR hok' hT hOne
              by_cases hin : i < n
              · obtain rfl : k = i := by omega
                clear hk
                have htz : t = .zero := by rw [HT.out, if_pos (by omega)]
                subst htz
                go_wp2_with (first
                  | (go_at_call 63; refine Calls.mono HR.out ?_; rintro e w5 ⟨rfl, hb5⟩; have q5 := Tr.blk_keep hb5 HQ.out; have cq5 := fun o => Tr.cell_blk (o := o) q5; have lq5 := Tr.blk_lt q5; unfold Tot.zero at cq5; dsimp only at cq5; have HB5 := Lib.hid hb5; have ls5 := hb5.size; clear q5 hb5)
                  | (at_builtin; refine wpList_append_lies _ rfl _ _ 72 rfl (q + 1) 69 i0 (.agg #[.int .i64 0, .int .i64 0, .int .i64 0, .int .i64 0, .int .i64 0, .int .i64 0]) 6 48 Try.underlying72 hi hz0 hz1 hz2 rfl (by decide) _ k _ rfl (Tr.ownsRow_keep (Tr.below_alloc (Below.refl _ _) (Nat.le_refl _)) (Tr.ownsRow_keep (Tr.below_alloc HB5.out (Nat.le_refl _)) HOWN.out)) _ 1 1 [.int .i64 tn, .int .i64 ts, .int .i64 tv, .int .i64 tr, .int .i64 ti, .int .i64 tq] rfl rfl (Tr.news_blk (Tr.blk_at (by simp)) rfl) (by intro u hu; simp at hu; rcases hu with rfl | rfl | rfl | rfl | rfl | rfl <;> rfl) (by decide) (by unfold maxLen; omega) (by omega) (by simp; omega) _ rfl ?_; intro g9 cp9 w9 hown9 hgrow9 hat9 hlt9; have hold : ∀ c y, c ≤ q → wr.heap[c]? = some y → w9.heap[c]? = some y := fun c y hc hy => (by rw [hgrow9.block _ (by have := Tr.blk_lt hy; simp; omega) (fun e => by have := HRB.out _ e.symm; omega)]; exact Tr.blk_old (Tr.blk_old (Tr.blk_keep HB5.out hy))); have q9 := hold _ _ (Nat.le_refl _) HQ.out; have cq9 := fun o => Tr.cell_blk (o := o) q9; have fq9 := fun o => Tr.frozen_blk (o := o) q9; have lq9 := Tr.blk_lt q9; have z9 := hold _ _ (by omega) HZ.out; have y9 := hold _ _ (by omega) HYB.out; have hB9 : Below w.heap.size w w9 := Below.grown (Tr.below_alloc (Tr.below_alloc (Tr.below_trans HB.out HB5.out) (Nat.le_refl _)) (Nat.le_refl _)) hgrow9 (by simp; omega) (fun c hc => by have := HRB.out _ hc; omega); have Q9 := Lib.hid q9; have Z9 := Lib.hid z9; have Y9 := Lib.hid y9; have HB9 := Lib.hid hB9; have OWN9 := Lib.hid hown9; clear q9 z9 y9 hB9 hown9 hgrow9 hat9 hold cq5)
                  | fail)
                go_roundw
                case rel =>
                  refine ⟨k + 1, k + 1, .zero, some ⟨g9, 0, none⟩, cp9, by omega, by omega, by rw [if_pos (by omega)], by go_num, HOK'.out, ?_, ?_, ?_, ?_, ?_⟩
                  · have q9 := Q9.out
                    unfold Tot.zero at q9 ⊢
                    dsimp only at q9 ⊢
                    simp only [Tr.heap_set_same, q9, Option.map_some, Tr.setObj]
                    rfl
                  · rw [List.range_succ, List.map_append, tots_app]
                    have h := ownsRow_chg (g := q) OWN9.out (Chg.set (Chg.refl q w9) 9 (.slice (some ⟨g9, 0, none⟩) (k + 1) cp9)) (by omega)
                    simpa [tots, Tot.cells, ← HTT.out] using h
                  · exact Tr.blk_set_ne Z9.out _ (show q ≠ w.heap.size by omega)
                  · exact Tr.blk_set_ne Y9.out _ (show q ≠ w.heap.size + 1 by omega)
                  · exact Tr.below_set HB9.out (show w.heap.size ≤ q by omega)
                case measure => simp [intOf]; omega
              · exact absurd hlt (by omega)
            · have hng : ¬ G := by rw [hgood]; exact fun h => hokI (h.2.2.2 i (by omega))
              have hR : Calls Try.prog 63 #[.string ((ByteArray.mk l.toArray).extract (7 + 44 * i) (51 + 44 * i))] wr fun e w' => (∃ t : Tot, e = .returned (.tuple #[t.val, .bool false])) ∧ Below wr.heap.size wr w' := by
                refine hOne.mono ?_
                rintro e w' ⟨⟨h, _⟩ | ⟨_, he⟩, hb⟩
                · exact absurd h hokI
                · exact ⟨he, hb⟩
              have HR := Lib.hid hR
              clear hR hOne
              go_wp2_with (go_at_call 63; refine Calls.mono HR.out ?_; rintro e w5 ⟨⟨⟨tn, ts, tv, tr, ti, tq⟩, rfl⟩, hb5⟩; unfold Tot.val; dsimp only; have y5 := Tr.blk_keep hb5 HYB.out; have cy5 := fun o => Tr.cell_blk (o := o) y5; have ly5 := Tr.blk_lt y5; have z5 := Tr.blk_keep hb5 HZ.out; have cz5 := fun o => Tr.cell_blk (o := o) z5; have fz5 := fun o => Tr.frozen_blk (o := o) z5; have lz5 := Tr.blk_lt z5; have Z5 := Lib.hid z5; have HB5 := Lib.hid hb5; clear y5 z5 hb5)
              refine bodyPost_ret (Tr.results_run [.cell 4 74, .tmp 5, .tmp 6] [_, _, _] rfl ⟨_, _, rfl, ⟨_, rfl, Tr.load_blk (t := 74) (fr := (0, 0)) (cs := #[.int .i64 0, .int .i64 0, .bool false, .int .i64 0, .int .i64 0, .int .i64 0, .int .i64 0, .int .i64 0, .int .i64 0, .slice none 0 0]) ?_ Try.underlying74 rfl (by kernel_rfl)⟩, _, _, rfl, rfl, _, _, rfl, rfl, rfl⟩ _ rfl) rfl ⟨.inr ⟨hng, rfl⟩, ?_⟩
              · have z5 := Z5.out
                first | ((simp only [Tr.heap_set_same, z5, Option.map_some, Tr.setObj]; simp [])) | (refine Tr.blk_old ?_; (simp only [Tr.heap_set_same, z5, Option.map_some, Tr.setObj]; simp []))
              · have hB := Tr.below_trans HB.out HB5.out
                (repeat (first | with_reducible assumption | (with_reducible exact Below.refl _ _) | ((with_reducible refine Tr.below_alloc ?_ ?_); rotate_left; focus (first | omega | exact Nat.le_refl _)) | (with_reducible refine Tr.below_drew ?_) | (with_reducible refine Tr.below_drewN ?_) | ((with_reducible refine Tr.below_set ?_ ?_); rotate_left; focus (first | omega | (simp; done) | (simp; omega))) | ((with_reducible refine Tr.below_trans ?_ (by assumption) ?_); rotate_left; focus (first | exact Nat.le_refl _ | omega))))
          · have hie : i = n + 0 := by omega
            have hg : G := by
              rw [hgood]
              exact ⟨h7, hnb, hlen2, fun j hj => HOK.out j (by omega)⟩
            obtain rfl : k = n := by omega
            have hY : Y = ⟨keep, x, false, t, (List.range k).map fun j => totL (pieceL l j)⟩ := by
              rw [HY.out, HT.out]
              rw [if_pos (show i ≤ k by omega)]; simp only [show ¬ (0 = 1) by omega, if_false]
              rfl
            have hsl := Tr.Sl.of_row HOWN.out (tots_one _)
            have HYY := Lib.hid hY; have HSL := Lib.hid hsl
            clear hY hsl hk
            have cq := fun o => Tr.cell_blk (o := o) HQ.out
            have cz := fun o => Tr.cell_blk (o := o) HZ.out
            have fz := fun o => Tr.frozen_blk (o := o) HZ.out
            go_wp2_with fail
            refine bodyPost_ret (Tr.results_run [.cell 4 74, .tmp 5, .tmp 6] [_, _, _] rfl ⟨_, _, rfl, ⟨_, rfl, Tr.load_blk (t := 74) (fr := (0, 0)) (cs := #[.int .i64 keep, .int .i64 x, .bool false, .int .i64 t.n, .int .i64 t.s, .int .i64 t.v, .int .i64 t.r, .int .i64 t.i, .int .i64 t.o, .slice a k cap]) ?_ Try.underlying74 rfl (by kernel_rfl)⟩, _, _, rfl, rfl, _, _, rfl, rfl, rfl⟩ _ rfl) rfl ⟨.inl ⟨hg, a, cap, ?_, ?_⟩, ?_⟩
            · have z := HZ.out
              (simp only [Tr.heap_set_same, z, Option.map_some, Tr.setObj]; simp [])
            · rw [HYY.out, show (7 : Int) + 44 * ((k : Int) + ((0 : Nat) : Int)) = 7 + 44 * (k : Int) by omega]
              rfl
            · rw [HYY.out]
              have hch : Chg w.heap.size wr _ := (Chg.refl w.heap.size wr)
              refine Sl.chg (b := w.heap.size) HSL.out ?_ HZ.out (by decide)
              (repeat (first | with_reducible assumption | (with_reducible exact Tr.Chg.refl _ _) | (with_reducible refine Tr.Chg.set ?_ _ _) | (with_reducible refine Tr.Chg.alloc ?_ _) | (with_reducible refine Tr.Chg.drew ?_) | (with_reducible refine Tr.Chg.drewN ?_) | ((with_reducible refine Tr.Chg.set_new ?_ _ ?_); rotate_left; focus (first | omega | (simp; done) | (simp; omega))) | (with_reducible refine Tr.Chg.grown ?_ (by assumption)) | (with_reducible refine Tr.Chg.trans ?_ (by assumption))))
            · have hB := HB.out
              (repeat (first | with_reducible assumption | (with_reducible exact Below.refl _ _) | ((with_reducible refine Tr.below_alloc ?_ ?_); rotate_left; focus (first | omega | exact Nat.le_refl _)) | (with_reducible refine Tr.below_drew ?_) | (with_reducible refine Tr.below_drewN ?_) | ((with_reducible refine Tr.below_set ?_ ?_); rotate_left; focus (first | omega | (simp; done) | (simp; omega))) | ((with_reducible refine Tr.below_trans ?_ (by assumption) ?_); rotate_left; focus (first | exact Nat.le_refl _ | omega))))
  · go_enter Try.func41, Try.ntmps41
    go_upto_region 10 with (go_at_call 62; refine Calls.mono (HNUM.out _) ?_; rintro e w1 ⟨rfl, hb1⟩; have z1 := Tr.blk_keep (b := w.heap.size) hb1 (Tr.blk_old (Tr.blk_new _ _)); have y1 := Tr.blk_keep (b := w.heap.size + 1) hb1 (Tr.blk_at (by simp)); have hB1 : Below w.heap.size w w1 := Tr.below_trans (by (repeat (first | with_reducible assumption | (with_reducible exact Below.refl _ _) | ((with_reducible refine Tr.below_alloc ?_ ?_); rotate_left; focus (first | omega | exact Nat.le_refl _)) | (with_reducible refine Tr.below_drew ?_) | (with_reducible refine Tr.below_drewN ?_) | ((with_reducible refine Tr.below_set ?_ ?_); rotate_left; focus (first | omega | (simp; done) | (simp; omega))) | ((with_reducible refine Tr.below_trans ?_ (by assumption) ?_); rotate_left; focus (first | exact Nat.le_refl _ | omega))))) hb1; have Z1 := Lib.hid z1; have Y1 := Lib.hid y1; have HB1 := Lib.hid hB1; have lw1 := Tr.blk_lt y1; clear z1 y1 hb1 hB1)
    have z2 := Tr.blk_old (x := .cells #[.int .i64 keep, .int .i64 x, .bool true, .int .i64 0, .int .i64 0, .int .i64 0, .int .i64 0, .int .i64 0, .int .i64 0, .slice none 0 0] 74) Z1.out
    have y2 := Tr.blk_old (x := .cells #[.int .i64 keep, .int .i64 x, .bool true, .int .i64 0, .int .i64 0, .int .i64 0, .int .i64 0, .int .i64 0, .int .i64 0, .slice none 0 0] 74) Y1.out
    have q2 := Tr.blk_new w1 (.cells #[.int .i64 keep, .int .i64 x, .bool true, .int .i64 0, .int .i64 0, .int .i64 0, .int .i64 0, .int .i64 0, .int .i64 0, .slice none 0 0] 74)
    have hB2 := Tr.below_alloc HB1.out (Nat.le_refl _) (o := .cells #[.int .i64 keep, .int .i64 x, .bool true, .int .i64 0, .int .i64 0, .int .i64 0, .int .i64 0, .int .i64 0, .int .i64 0, .slice none 0 0] 74)
    generalize w1.alloc (.cells #[.int .i64 keep, .int .i64 x, .bool true, .int .i64 0, .int .i64 0, .int .i64 0, .int .i64 0, .int .i64 0, .int .i64 0, .slice none 0 0] 74) = W2 at *
    generalize w1.heap.size = q at *
    have lq2 := Tr.blk_lt q2
    have cq2 := fun o => Tr.cell_blk (o := o) q2
    have cy2 := fun o => Tr.cell_blk (o := o) y2
    have cz2 := fun o => Tr.cell_blk (o := o) z2
    have fz2 := fun o => Tr.frozen_blk (o := o) z2
    have lz2 := Tr.blk_lt z2
    have Z2 := Lib.hid z2; have Y2 := Lib.hid y2; have Q2 := Lib.hid q2; have HB2 := Lib.hid hB2
    clear z2 y2 q2 hB2 Z1 Y1 HB1
    by_cases hbad : (x : Int) < 1 ∨ 4294967296 < (x : Int) ∨ keep < n ∨ (x : Int) - 1 < ((n : Int) + 1) ∨ (l.length : Int) < 7 + 44 * ((n : Int) + 1)
    · have hng : ¬ G := by
        rw [hgood]
        unfold rdBad
        rintro ⟨-, h1, h2, -⟩
        apply h1
        omega
      go_cut [77] from 50 to 76 (fun s77 wx => s77 = .bool true ∧ wx = W2)
      case first =>
        have hb : ((x : Int) < 1) ∨ (¬ (x : Int) < 1 ∧ 4294967296 < (x : Int)) ∨ (¬ (x : Int) < 1 ∧ ¬ 4294967296 < (x : Int) ∧ keep < n) ∨ (¬ (x : Int) < 1 ∧ ¬ 4294967296 < (x : Int) ∧ ¬ keep < n ∧ (x : Int) - 1 < ((n : Int) + 1)) ∨ (¬ (x : Int) < 1 ∧ ¬ 4294967296 < (x : Int) ∧ ¬ keep < n ∧ ¬ (x : Int) - 1 < ((n : Int) + 1) ∧ (l.length : Int) < 7 + 44 * ((n : Int) + 1)) := by omega
        clear hbad
        rcases hb with b1 | ⟨b1, b2⟩ | ⟨b1, b2, b3⟩ | ⟨b1, b2, b3, b4⟩ | ⟨b1, b2, b3, b4, b5⟩
        all_goals
          go_wp2_with fail
          go_meet
          first | exact ⟨rfl, rfl⟩ | (refine ⟨?_, rfl⟩; simp; omega)
      case rest =>
        obtain ⟨rfl, rfl⟩ := hcut
        go_wp2_with fail
        refine bodyPost_ret (Tr.results_run [.cell 4 74, .tmp 5, .tmp 6] [_, _, _] rfl ⟨_, _, rfl, ⟨_, rfl, Tr.load_blk (t := 74) (fr := (0, 0)) (cs := #[.int .i64 0, .int .i64 0, .bool false, .int .i64 0, .int .i64 0, .int .i64 0, .int .i64 0, .int .i64 0, .int .i64 0, .slice none 0 0]) ?_ Try.underlying74 rfl (by kernel_rfl)⟩, _, _, rfl, rfl, _, _, rfl, rfl, rfl⟩ _ rfl) rfl ⟨.inr ⟨hng, rfl⟩, ?_⟩
        · have z2 := Z2.out
          (simp only [Tr.heap_set_same, z2, Option.map_some, Tr.setObj]; simp [])
        · have hB := HB2.out
          (repeat (first | with_reducible assumption | (with_reducible exact Below.refl _ _) | ((with_reducible refine Tr.below_alloc ?_ ?_); rotate_left; focus (first | omega | exact Nat.le_refl _)) | (with_reducible refine Tr.below_drew ?_) | (with_reducible refine Tr.below_drewN ?_) | ((with_reducible refine Tr.below_set ?_ ?_); rotate_left; focus (first | omega | (simp; done) | (simp; omega))) | ((with_reducible refine Tr.below_trans ?_ (by assumption) ?_); rotate_left; focus (first | exact Nat.le_refl _ | omega))))
    · have g1 : ¬ (x : Int) < 1 := by omega
      have g2 : ¬ (4294967296 : Int) < x := by omega
      have g3 : ¬ keep < n := by omega
      have g4 : ¬ (x : Int) - 1 < ((n : Int) + 1) := by omega
      have g5 : ¬ (l.length : Int) < 7 + 44 * ((n : Int) + 1) := by omega
      have hnb : ¬ rdBad keep x 1 n := by unfold rdBad; omega
      have hlen2 : 7 + 44 * (n + 1) ≤ l.length := by omega
      clear hbad
      go_cut [77] from 50 to 76 (fun s77 wx => s77 = .bool false ∧ wx = W2)
      case first =>
        go_wp2_with fail
        go_meet
        first | exact ⟨rfl, rfl⟩ | (refine ⟨?_, rfl⟩; simp; omega)
      case rest =>
        obtain ⟨rfl, rfl⟩ := hcut
        go_wp2_with fail
        go_loopw [12] (fun s12 wr => R26Inv l keep x 1 n q true w s12 wr) (fun s12 _ => n + 1 - (intOf s12).toNat)
        case atStart => exact ⟨0, 0, .zero, none, 0, Nat.zero_le _, by omega, by rw [if_pos (by omega)], rfl, fun j hj => by omega, Q2.out, ⟨by simp [tots], .inl ⟨rfl, rfl⟩⟩, Z2.out, Y2.out, HB2.out⟩
        case round =>
          clear Z2 Y2 Q2 HB2 cq2 cy2 cz2 fz2 lq2 lz2
          obtain ⟨i, k, t, a, cap, hi', hk, ht, rfl, hok, hq, hown, hz, hy, hB⟩ := hrel
          have lq := Tr.blk_lt hq
          have lz := Tr.blk_lt hz
          have hrb : ∀ c, (Value.slice a k cap).ownBlock = some c → q + 1 ≤ c := fun c hc => Tr.ownsRow_base hown hc
          have HRB := Lib.hid hrb; have HT := Lib.hid ht; have HOK := Lib.hid hok; have HQ := Lib.hid hq; have HOWN := Lib.hid hown; have HZ := Lib.hid hz; have HYB := Lib.hid hy; have HB := Lib.hid hB
          clear hrb ht hok hq hown hz hy hB
          by_cases hlt : i < n + 1
          · have ht1 : (7 + 44 * (i : Int)).toNat = 7 + 44 * i := by omega
            have ht2 : (51 + 44 * (i : Int)).toNat = 51 + 44 * i := by omega
            have hOne := HONE.out i wr (by omega)
            by_cases hokI : okL (pieceL l i)
            · have hR : Calls Try.prog 63 #[.string ((ByteArray.mk l.toArray).extract (7 + 44 * i) (51 + 44 * i))] wr fun e w' => e = .returned (.tuple #[(totL (pieceL l i)).val, .bool true]) ∧ Below wr.heap.size wr w' := by
                refine hOne.mono ?_
                rintro e w' ⟨⟨_, he⟩ | ⟨hno, _⟩, hb⟩
                · exact ⟨he, hb⟩
                · exact absurd hokI hno
              have hok' : ∀ j, j < i + 1 → okL (pieceL l j) := fun j hj => by
                rcases Nat.lt_or_ge j i with h | h
                · exact HOK.out j h
                · rw [show j = i by omega]; exact hokI
              obtain ⟨T, hT⟩ : ∃ T, T = totL (pieceL l i) := ⟨_, rfl⟩
              rw [← hT] at hR
              obtain ⟨tn, ts, tv, tr, ti, tq⟩ := T
              unfold Tot.val at hR
              dsimp only at hR
              have HR := Lib.hid hR; have HOK' := Lib.hid hok'; have HTT := Lib.hid hT
              clear hR hok' hT hOne
              by_cases hin : i < n
              · obtain rfl : k = i := by omega
                clear hk
                have htz : t = .zero := by rw [HT.out, if_pos (by omega)]
                subst htz
                go_wp2_with (first
                  | (go_at_call 63; refine Calls.mono HR.out ?_; rintro e w5 ⟨rfl, hb5⟩; have q5 := Tr.blk_keep hb5 HQ.out; have cq5 := fun o => Tr.cell_blk (o := o) q5; have lq5 := Tr.blk_lt q5; unfold Tot.zero at cq5; dsimp only at cq5; have HB5 := Lib.hid hb5; have ls5 := hb5.size; clear q5 hb5)
                  | (at_builtin; refine wpList_append_lies _ rfl _ _ 72 rfl (q + 1) 69 i0 (.agg #[.int .i64 0, .int .i64 0, .int .i64 0, .int .i64 0, .int .i64 0, .int .i64 0]) 6 48 Try.underlying72 hi hz0 hz1 hz2 rfl (by decide) _ k _ rfl (Tr.ownsRow_keep (Tr.below_alloc (Below.refl _ _) (Nat.le_refl _)) (Tr.ownsRow_keep (Tr.below_alloc HB5.out (Nat.le_refl _)) HOWN.out)) _ 1 1 [.int .i64 tn, .int .i64 ts, .int .i64 tv, .int .i64 tr, .int .i64 ti, .int .i64 tq] rfl rfl (Tr.news_blk (Tr.blk_at (by simp)) rfl) (by intro u hu; simp at hu; rcases hu with rfl | rfl | rfl | rfl | rfl | rfl <;> rfl) (by decide) (by unfold maxLen; omega) (by omega) (by simp; omega) _ rfl ?_; intro g9 cp9 w9 hown9 hgrow9 hat9 hlt9; have hold : ∀ c y, c ≤ q → wr.heap[c]? = some y → w9.heap[c]? = some y := fun c y hc hy => (by rw [hgrow9.block _ (by have := Tr.blk_lt hy; simp; omega) (fun e => by have := HRB.out _ e.symm; omega)]; exact Tr.blk_old (Tr.blk_old (Tr.blk_keep HB5.out hy))); have q9 := hold _ _ (Nat.le_refl _) HQ.out; have cq9 := fun o => Tr.cell_blk (o := o) q9; have fq9 := fun o => Tr.frozen_blk (o := o) q9; have lq9 := Tr.blk_lt q9; have z9 := hold _ _ (by omega) HZ.out; have y9 := hold _ _ (by omega) HYB.out; have hB9 : Below w.heap.size w w9 := Below.grown (Tr.below_alloc (Tr.below_alloc (Tr.below_trans HB.out HB5.out) (Nat.le_refl _)) (Nat.le_refl _)) hgrow9 (by simp; omega) (fun c hc => by have := HRB.out _ hc; omega); have Q9 := Lib.hid q9; have Z9 := Lib.hid z9; have Y9 := Lib.hid y9; have HB9 := Lib.hid hB9; have OWN9 := Lib.hid hown9; clear q9 z9 y9 hB9 hown9 hgrow9 hat9 hold cq5)
                  | fail)
                go_roundw
                case rel =>
                  refine ⟨k + 1, k + 1, .zero, some ⟨g9, 0, none⟩, cp9, by omega, by omega, by rw [if_pos (by omega)], by go_num, HOK'.out, ?_, ?_, ?_, ?_, ?_⟩
                  · have q9 := Q9.out
                    unfold Tot.zero at q9 ⊢
                    dsimp only at q9 ⊢
                    simp only [Tr.heap_set_same, q9, Option.map_some, Tr.setObj]
                    rfl
                  · rw [List.range_succ, List.map_append, tots_app]
                    have h := ownsRow_chg (g := q) OWN9.out (Chg.set (Chg.refl q w9) 9 (.slice (some ⟨g9, 0, none⟩) (k + 1) cp9)) (by omega)
                    simpa [tots, Tot.cells, ← HTT.out] using h
                  · exact Tr.blk_set_ne Z9.out _ (show q ≠ w.heap.size by omega)
                  · exact Tr.blk_set_ne Y9.out _ (show q ≠ w.heap.size + 1 by omega)
                  · exact Tr.below_set HB9.out (show w.heap.size ≤ q by omega)
                case measure => simp [intOf]; omega
              · obtain rfl : i = n := by omega
                obtain rfl : k = i := by omega
                clear hk
                have htz : t = .zero := by rw [HT.out, if_pos (by omega)]
                subst htz
                go_wp2_with (go_at_call 63; refine Calls.mono HR.out ?_; rintro e w5 ⟨rfl, hb5⟩; have q5 := Tr.blk_keep hb5 HQ.out; have cq5 := fun o => Tr.cell_blk (o := o) q5; have fq5 := fun o => Tr.frozen_blk (o := o) q5; have lq5 := Tr.blk_lt q5; unfold Tot.zero at cq5; dsimp only at cq5; have Q5 := Lib.hid q5; have HB5 := Lib.hid hb5; clear q5 hb5)
                go_roundw
                case rel =>
                  have own5 := Tr.ownsRow_keep HB5.out HOWN.out
                  have z5 := Tr.blk_keep HB5.out HZ.out
                  have y5 := Tr.blk_keep HB5.out HYB.out
                  have hB5 := Tr.below_trans HB.out HB5.out
                  refine ⟨k + 1, k, ⟨tn, ts, tv, tr, ti, tq⟩, a, cap, by omega, by omega, by rw [if_neg (by omega)]; exact HTT.out, by go_num, HOK'.out, ?_, ?_, ?_, ?_, ?_⟩
                  · have q9 := Q5.out
                    unfold Tot.zero at q9
                    dsimp only at q9 ⊢
                    refine Tr.blk_old ?_
                    (simp only [Tr.heap_set_same, q9, Option.map_some, Tr.setObj]; simp [])
                  · refine ownsRow_chg (g := q) own5 ?_ (by omega)
                    (repeat (first | with_reducible assumption | (with_reducible exact Tr.Chg.refl _ _) | (with_reducible refine Tr.Chg.set ?_ _ _) | (with_reducible refine Tr.Chg.alloc ?_ _) | (with_reducible refine Tr.Chg.drew ?_) | (with_reducible refine Tr.Chg.drewN ?_) | ((with_reducible refine Tr.Chg.set_new ?_ _ ?_); rotate_left; focus (first | omega | (simp; done) | (simp; omega))) | (with_reducible refine Tr.Chg.grown ?_ (by assumption)) | (with_reducible refine Tr.Chg.trans ?_ (by assumption))))
                  · have hne : q ≠ w.heap.size := by omega
                    refine Tr.blk_old ?_
                    (repeat (with_reducible refine Tr.blk_set_ne ?_ _ hne))
                    with_reducible exact z5
                  · have hne : q ≠ w.heap.size + 1 := by omega
                    refine Tr.blk_old ?_
                    (repeat (with_reducible refine Tr.blk_set_ne ?_ _ hne))
                    with_reducible exact y5
                  · have hle : w.heap.size ≤ q := by omega
                    (repeat (first | with_reducible assumption | (with_reducible exact Below.refl _ _) | ((with_reducible refine Tr.below_alloc ?_ ?_); rotate_left; focus (first | omega | exact Nat.le_refl _)) | (with_reducible refine Tr.below_drew ?_) | (with_reducible refine Tr.below_drewN ?_) | ((with_reducible refine Tr.below_set ?_ ?_); rotate_left; focus (first | omega | (simp; done) | (simp; omega))) | ((with_reducible refine Tr.below_trans ?_ (by assumption) ?_); rotate_left; focus (first | exact Nat.le_refl _ | omega))))
                case measure => simp [intOf] <;> omega
            · have hng : ¬ G := by rw [hgood]; exact fun h => hokI (h.2.2.2 i (by omega))
              have hR : Calls Try.prog 63 #[.string ((ByteArray.mk l.toArray).extract (7 + 44 * i) (51 + 44 * i))] wr fun e w' => (∃ t : Tot, e = .returned (.tuple #[t.val, .bool false])) ∧ Below wr.heap.size wr w' := by
                refine hOne.mono ?_
                rintro e w' ⟨⟨h, _⟩ | ⟨_, he⟩, hb⟩
                · exact absurd h hokI
                · exact ⟨he, hb⟩
              have HR := Lib.hid hR
              clear hR hOne
              go_wp2_with (go_at_call 63; refine Calls.mono HR.out ?_; rintro e w5 ⟨⟨⟨tn, ts, tv, tr, ti, tq⟩, rfl⟩, hb5⟩; unfold Tot.val; dsimp only; have y5 := Tr.blk_keep hb5 HYB.out; have cy5 := fun o => Tr.cell_blk (o := o) y5; have ly5 := Tr.blk_lt y5; have z5 := Tr.blk_keep hb5 HZ.out; have cz5 := fun o => Tr.cell_blk (o := o) z5; have fz5 := fun o => Tr.frozen_blk (o := o) z5; have lz5 := Tr.blk_lt z5; have Z5 := Lib.hid z5; have HB5 := Lib.hid hb5; clear y5 z5 hb5)
              refine bodyPost_ret (Tr.results_run [.cell 4 74, .tmp 5, .tmp 6] [_, _, _] rfl ⟨_, _, rfl, ⟨_, rfl, Tr.load_blk (t := 74) (fr := (0, 0)) (cs := #[.int .i64 0, .int .i64 0, .bool false, .int .i64 0, .int .i64 0, .int .i64 0, .int .i64 0, .int .i64 0, .int .i64 0, .slice none 0 0]) ?_ Try.underlying74 rfl (by kernel_rfl)⟩, _, _, rfl, rfl, _, _, rfl, rfl, rfl⟩ _ rfl) rfl ⟨.inr ⟨hng, rfl⟩, ?_⟩
              · have z5 := Z5.out
                first | ((simp only [Tr.heap_set_same, z5, Option.map_some, Tr.setObj]; simp [])) | (refine Tr.blk_old ?_; (simp only [Tr.heap_set_same, z5, Option.map_some, Tr.setObj]; simp []))
              · have hB := Tr.below_trans HB.out HB5.out
                (repeat (first | with_reducible assumption | (with_reducible exact Below.refl _ _) | ((with_reducible refine Tr.below_alloc ?_ ?_); rotate_left; focus (first | omega | exact Nat.le_refl _)) | (with_reducible refine Tr.below_drew ?_) | (with_reducible refine Tr.below_drewN ?_) | ((with_reducible refine Tr.below_set ?_ ?_); rotate_left; focus (first | omega | (simp; done) | (simp; omega))) | ((with_reducible refine Tr.below_trans ?_ (by assumption) ?_); rotate_left; focus (first | exact Nat.le_refl _ | omega))))
          · have hie : i = n + 1 := by omega
            have hg : G := by
              rw [hgood]
              exact ⟨h7, hnb, hlen2, fun j hj => HOK.out j (by omega)⟩
            obtain rfl : k = n := by omega
            have hY : Y = ⟨keep, x, true, t, (List.range k).map fun j => totL (pieceL l j)⟩ := by
              rw [HY.out, HT.out]
              rw [if_neg (show ¬ i ≤ k by omega)]; simp only [if_true]
              rfl
            have hsl := Tr.Sl.of_row HOWN.out (tots_one _)
            have HYY := Lib.hid hY; have HSL := Lib.hid hsl
            clear hY hsl hk
            have cq := fun o => Tr.cell_blk (o := o) HQ.out
            have cz := fun o => Tr.cell_blk (o := o) HZ.out
            have fz := fun o => Tr.frozen_blk (o := o) HZ.out
            go_wp2_with fail
            refine bodyPost_ret (Tr.results_run [.cell 4 74, .tmp 5, .tmp 6] [_, _, _] rfl ⟨_, _, rfl, ⟨_, rfl, Tr.load_blk (t := 74) (fr := (0, 0)) (cs := #[.int .i64 keep, .int .i64 x, .bool true, .int .i64 t.n, .int .i64 t.s, .int .i64 t.v, .int .i64 t.r, .int .i64 t.i, .int .i64 t.o, .slice a k cap]) ?_ Try.underlying74 rfl (by kernel_rfl)⟩, _, _, rfl, rfl, _, _, rfl, rfl, rfl⟩ _ rfl) rfl ⟨.inl ⟨hg, a, cap, ?_, ?_⟩, ?_⟩
            · have z := HZ.out
              (simp only [Tr.heap_set_same, z, Option.map_some, Tr.setObj]; simp [])
            · rw [HYY.out, show (7 : Int) + 44 * ((k : Int) + ((1 : Nat) : Int)) = 7 + 44 * ((k : Int) + 1) by omega]
              rfl
            · rw [HYY.out]
              have hch : Chg w.heap.size wr _ := (Chg.refl w.heap.size wr)
              refine Sl.chg (b := w.heap.size) HSL.out ?_ HZ.out (by decide)
              (repeat (first | with_reducible assumption | (with_reducible exact Tr.Chg.refl _ _) | (with_reducible refine Tr.Chg.set ?_ _ _) | (with_reducible refine Tr.Chg.alloc ?_ _) | (with_reducible refine Tr.Chg.drew ?_) | (with_reducible refine Tr.Chg.drewN ?_) | ((with_reducible refine Tr.Chg.set_new ?_ _ ?_); rotate_left; focus (first | omega | (simp; done) | (simp; omega))) | (with_reducible refine Tr.Chg.grown ?_ (by assumption)) | (with_reducible refine Tr.Chg.trans ?_ (by assumption))))
            · have hB := HB.out
              (repeat (first | with_reducible assumption | (with_reducible exact Below.refl _ _) | ((with_reducible refine Tr.below_alloc ?_ ?_); rotate_left; focus (first | omega | exact Nat.le_refl _)) | (with_reducible refine Tr.below_drew ?_) | (with_reducible refine Tr.below_drewN ?_) | ((with_reducible refine Tr.below_set ?_ ?_); rotate_left; focus (first | omega | (simp; done) | (simp; omega))) | ((with_reducible refine Tr.below_trans ?_ (by assumption) ?_); rotate_left; focus (first | exact Nat.le_refl _ | omega))))
end Go.Proofs.Ytjkfkgpdlflbhaa
