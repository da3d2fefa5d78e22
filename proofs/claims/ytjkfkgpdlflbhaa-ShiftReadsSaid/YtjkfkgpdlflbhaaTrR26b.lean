/- The reference's shifts: End. -/
import Derived.Test.YtjkfkgpdlflbhaaTrR26a
import Derived.Deep.AppendLies
namespace Go.Proofs.Ytjkfkgpdlflbhaa
open Go.RowKit Go.Sort
open Tr (Sl Chg)
set_option linter.unusedVariables false
set_option linter.unusedSimpArgs false

/-- An element of a row of totals, cell by cell, in whatever world came later. -/
theorem sl_at6 {e : TypeId} {w : World} {a : Option Addr} {cap : Nat} {cl : List Tot} (h : Sl e 6 w (.slice a cl.length cap) cl.length (tots cl)) (i : Nat) (hi : i < cl.length) :
    ∃ g off, a = some ⟨g, off, none⟩ ∧ g < w.heap.size ∧ ∀ W : World, Below w.heap.size w W → ∀ j, j < 6 → W.cell? ⟨g, off + i * 6 + j, none⟩ = (Tot.cells (cl.getD i .zero))[j]? := by
  obtain ⟨a', cap', hv, hcap, hl, h1, hc⟩ := h
  simp only [Value.slice.injEq] at hv
  obtain ⟨rfl, -, rfl⟩ := hv
  obtain ⟨g, off, cs, fz, rfl, hg, hcs⟩ := hc (by omega)
  refine ⟨g, off, rfl, Tr.blk_lt hg, fun W hW j hj => ?_⟩
  rw [Tr.cell_blk (Tr.blk_keep hW hg), Nat.add_assoc, hcs _ (by omega), tots_at _ _ hi _ hj]
theorem tots_app (l m : List Tot) : tots (l ++ m) = tots l ++ tots m := by simp [tots]
def REnd (cl : List Tot) (D : Nat) (B : World) (blk : Array Value) (s7 s8 : Value) (wr : World) : Prop :=
  ∃ i : Nat, i ≤ cl.length ∧ s8 = .int .i64 i ∧ wr.ownsRow (B.heap.size + 4) 69 6 s7 ((cl.take i).drop D).length (tots ((cl.take i).drop D)) ∧
    wr.heap[B.heap.size]? = some (.cells blk 74 (0, 0)) ∧
    wr.heap[B.heap.size + 1]? = some (.cells #[.int .i64 0, .int .i64 0, .bool false, .int .i64 0, .int .i64 0, .int .i64 0, .int .i64 0, .int .i64 0, .int .i64 0, .slice none 0 0] 74 (0, 0)) ∧
    wr.heap[B.heap.size + 2]? = some (.cells #[.int .i64 0, .int .i64 0, .int .i64 0, .int .i64 0, .int .i64 0, .int .i64 0] 69 (0, 0)) ∧ Below B.heap.size B wr ∧ B.heap.size + 4 ≤ wr.heap.size
theorem info_RTotals : (Try.prog.info? 69).map (fun i => (i.zero, i.size, i.bytes)) = some (some (.agg #[.int .i64 0, .int .i64 0, .int .i64 0, .int .i64 0, .int .i64 0, .int .i64 0]), 6, 48) := by kernel_rfl

set_option maxRecDepth 100000 in
set_option maxHeartbeats 8000000 in
theorem C_REnd_yes (keep next : Int) (now : Tot) (cl : List Tot) (a : Option Addr) (cap : Nat) (w : World) (hl : Sl 69 6 w (.slice a cl.length cap) cl.length (tots cl)) (ho : (Sh.mk keep next true now cl).ok) :
    Calls Try.prog 32 #[RV (Sh.mk keep next true now cl) (.slice a cl.length cap)] w fun e w' =>
      (∃ a' cap', e = .returned (.tuple #[RV (Sh.mk keep next false now ((cl ++ [now]).drop (cl.length + 1 - keep.toNat))) (.slice a' ((cl ++ [now]).drop (cl.length + 1 - keep.toNat)).length cap'), .int .i64 (next - 1), now.val, .int .i64 0]) ∧
        Sl 69 6 w' (.slice a' ((cl ++ [now]).drop (cl.length + 1 - keep.toNat)).length cap') ((cl ++ [now]).drop (cl.length + 1 - keep.toNat)).length (tots ((cl ++ [now]).drop (cl.length + 1 - keep.toNat)))) ∧ Below w.heap.size w w' := by
  obtain ⟨n, s, v, r, i, o⟩ := now
  obtain ⟨⟨k0, k1⟩, ⟨n0, n1⟩, -, -, hlen, -⟩ := ho
  dsimp only at k0 k1 n0 n1 hlen
  obtain ⟨D, hD⟩ : ∃ D, D = cl.length + 1 - keep.toNat := ⟨_, rfl⟩
  have hD1 : D ≤ 1 := by omega
  have hDl : D ≤ cl.length := by omega
  have hDk : D = 0 ↔ (cl.length : Int) < keep := by omega
  have hcl : cl.length ≤ 64 := by omega
  rw [← hD]
  have hLout : ((cl ++ [(⟨n, s, v, r, i, o⟩ : Tot)]).drop D) = cl.drop D ++ [(⟨n, s, v, r, i, o⟩ : Tot)] := by rw [List.drop_append_of_le_length hDl]
  obtain ⟨L, hL⟩ : ∃ L, L = (cl ++ [(⟨n, s, v, r, i, o⟩ : Tot)]).drop D := ⟨_, rfl⟩
  rw [← hL]
  rw [hLout] at hL
  have hLlen : L.length = cl.length - D + 1 := by rw [hL]; simp
  obtain ⟨N, hN⟩ : ∃ N, N = L.length := ⟨_, rfl⟩
  rw [← hN]
  rw [hLlen] at hN
  have HL := Lib.hid hl; have HLL := Lib.hid hL; have HDD := Lib.hid hD; have HN := Lib.hid hN
  clear hl hLout hL hD hLlen hN
  obtain ⟨i0, hi, hz0, hz1, hz2⟩ := info_parts info_RTotals
  unfold RV
  dsimp only
  go_enter Try.func32, Try.ntmps32
  go_wp2_with fail
  go_loopw [7, 8] (fun s7 s8 wr => REnd cl D w #[.int .i64 keep, .int .i64 next, .bool true, .int .i64 n, .int .i64 s, .int .i64 v, .int .i64 r, .int .i64 i, .int .i64 o, .slice a cl.length cap] s7 s8 wr) (fun _ s8 _ => cl.length - (intOf s8).toNat)
  case atStart =>
    refine ⟨0, Nat.zero_le _, rfl, ⟨by simp [tots], .inl ⟨by simp, by simp⟩⟩, ?_, ?_, ?_, ?_, ?_⟩
    · (repeat (first | with_reducible assumption | with_reducible refine Tr.blk_drew ?_ | with_reducible refine Tr.blk_drewN ?_ | (refine Tr.blk_at ?_; focus (first | (simp; done) | (simp; omega))) | with_reducible refine Tr.blk_old ?_ | ((with_reducible refine Tr.blk_set_ne ?_ _ ?_); rotate_left; focus (first | (simp; done) | (simp; omega) | (simp; assumption)))))
    · (repeat (first | with_reducible assumption | with_reducible refine Tr.blk_drew ?_ | with_reducible refine Tr.blk_drewN ?_ | (refine Tr.blk_at ?_; focus (first | (simp; done) | (simp; omega))) | with_reducible refine Tr.blk_old ?_ | ((with_reducible refine Tr.blk_set_ne ?_ _ ?_); rotate_left; focus (first | (simp; done) | (simp; omega) | (simp; assumption)))))
    · (repeat (first | with_reducible assumption | with_reducible refine Tr.blk_drew ?_ | with_reducible refine Tr.blk_drewN ?_ | (refine Tr.blk_at ?_; focus (first | (simp; done) | (simp; omega))) | with_reducible refine Tr.blk_old ?_ | ((with_reducible refine Tr.blk_set_ne ?_ _ ?_); rotate_left; focus (first | (simp; done) | (simp; omega) | (simp; assumption)))))
    · (repeat (first | with_reducible assumption | (with_reducible exact Below.refl _ _) | ((with_reducible refine Tr.below_alloc ?_ ?_); rotate_left; focus (first | omega | exact Nat.le_refl _)) | (with_reducible refine Tr.below_drew ?_) | (with_reducible refine Tr.below_drewN ?_) | ((with_reducible refine Tr.below_set ?_ ?_); rotate_left; focus (first | omega | (simp; done) | (simp; omega))) | ((with_reducible refine Tr.below_trans ?_ (by assumption) ?_); rotate_left; focus (first | exact Nat.le_refl _ | omega))))
    · simp
  case round =>
    obtain ⟨j, hj, rfl, hown, b0, b1, b2, hB, hsz⟩ := hrel
    have c0 := fun o => Tr.cell_blk (o := o) b0
    have f0 := fun o => Tr.frozen_blk (o := o) b0
    have B0 := Lib.hid b0; have B1 := Lib.hid b1; have B2 := Lib.hid b2; have HOWN := Lib.hid hown
    clear b0 b1 b2 hown
    by_cases hlt : j < cl.length
    · obtain ⟨g, off, rfl, hg, hcell⟩ := sl_at6 HL.out j hlt
      obtain ⟨t, ht⟩ : ∃ t, t = cl.getD j .zero := ⟨_, rfl⟩
      rw [← ht] at hcell
      have hcw := hcell wr hB
      obtain ⟨tn, ts, tv, tr, ti, tq⟩ := t
      simp only [Tot.cells] at hcw
      have q0 := hcw 0 (by omega)
      have q1 := hcw 1 (by omega)
      have q2 := hcw 2 (by omega)
      have q3 := hcw 3 (by omega)
      have q4 := hcw 4 (by omega)
      have q5 := hcw 5 (by omega)
      simp only [Nat.add_zero] at q0 q1 q2 q3 q4 q5
      have HT := Lib.hid ht
      clear hcw hcell ht
      by_cases hjD : j < D
      · have hj0 : j = 0 := by omega
        subst hj0
        have hkk : ¬ (cl.length : Int) < keep := by omega
        go_wp2_with fail
        go_roundw
        case rel =>
          refine ⟨1, by omega, by go_num, ?_, B0.out, B1.out, B2.out, hB, hsz⟩
          have := HOWN.out
          have e1 : (cl.take 0).drop D = [] := by simp
          have e2 : (cl.take 1).drop D = [] := by rw [List.drop_eq_nil_iff]; simp; omega
          rw [e1] at this; rw [e2]; exact this
        case measure => simp [intOf]; omega
      · have hcond : 0 < j ∨ (j = 0 ∧ (cl.length : Int) < keep) := by
          by_cases h0 : j = 0
          · exact .inr ⟨h0, hDk.1 (by omega)⟩
          · exact .inl (by omega)
        have hcb1 : ((j : Int) > 0 ∧ True) ∨ (j = 0 ∧ (cl.length : Int) < keep) := hcond.imp (fun h => ⟨by omega, trivial⟩) id
        have htk : ((cl.take (j + 1)).drop D) = (cl.take j).drop D ++ [(⟨tn, ts, tv, tr, ti, tq⟩ : Tot)] := by
          rw [List.take_succ_eq_append_getElem hlt, List.drop_append_of_le_length (by rw [List.length_take]; omega)]
          have := HT.out
          simp only [List.getD, List.getElem?_eq_getElem hlt, Option.getD_some] at this
          rw [this]
        have hlk : ((cl.take j).drop D).length ≤ 64 := by rw [List.length_drop, List.length_take]; omega
        have HTK := Lib.hid htk
        clear htk hcond
        rcases hcb1 with ⟨hj0, -⟩ | ⟨rfl, hkk⟩
        · skip
          go_wp2_with (at_builtin; refine wpList_append_lies _ rfl _ _ 72 rfl (w.heap.size + 4) 69 i0 (.agg #[.int .i64 0, .int .i64 0, .int .i64 0, .int .i64 0, .int .i64 0, .int .i64 0]) 6 48 Try.underlying72 hi hz0 hz1 hz2 rfl (by decide) _ (((cl.take j).drop D).length) (tots ((cl.take j).drop D)) rfl (Tr.ownsRow_keep (Tr.below_alloc (Below.refl _ _) (Nat.le_refl _)) HOWN.out) _ 1 1 [.int .i64 tn, .int .i64 ts, .int .i64 tv, .int .i64 tr, .int .i64 ti, .int .i64 tq] rfl rfl (Tr.news_blk (Tr.blk_new _ _) rfl) (by intro u hu; simp at hu; rcases hu with rfl | rfl | rfl | rfl | rfl | rfl <;> rfl) (by decide) (by unfold maxLen; simp; omega) (by simp; omega) (by simp; omega) _ rfl ?_)
          intro g9 cp9 w9 hown9 hgrow9 hat9 hlt9
          have hWb : ∀ k x, k < w.heap.size + 4 → wr.heap[k]? = some x → w9.heap[k]? = some x := by
            intro k x hk hx
            rw [hgrow9.block _ (by have := Tr.blk_lt hx; simp; omega) (fun e => by have := Tr.ownsRow_base HOWN.out e.symm; omega)]
            exact Tr.blk_old hx
          have hB9 : Below w.heap.size w w9 := (Tr.below_alloc hB (Nat.le_refl _)).grown hgrow9 (by simp; omega) (fun k hk => by have := Tr.ownsRow_base HOWN.out hk; omega)
          have hs9 : w.heap.size + 4 ≤ w9.heap.size := by have := hgrow9.size; simp at this; omega
          have HOWN9 := Lib.hid hown9
          have b09 := hWb _ _ (by omega) B0.out
          have b19 := hWb _ _ (by omega) B1.out
          have b29 := hWb _ _ (by omega) B2.out
          have B09 := Lib.hid b09; have B19 := Lib.hid b19; have B29 := Lib.hid b29
          clear hown9 hgrow9 hat9 hWb b09 b19 b29 c0 f0 q0 q1 q2 q3 q4 q5
          go_wp2_with fail
          go_roundw
          case rel =>
            refine ⟨j + 1, by omega, by go_num, ?_, B09.out, B19.out, B29.out, hB9, hs9⟩
            have := HOWN9.out
            have e0 : ((cl.take j).drop D).length = j - D := by rw [List.length_drop, List.length_take]; omega
            rw [HTK.out, tots_app, List.length_append, e0]; exact this
          case measure => simp [intOf]; omega
        · simp only [Nat.zero_mul, Nat.add_zero] at q0 q1 q2 q3 q4 q5
          have hown0 : wr.ownsRow (w.heap.size + 4) 69 6 u7 0 [] := by simpa [tots] using HOWN.out
          clear HOWN
          have HOWN := Lib.hid hown0
          clear hown0
          go_wp2_with (at_builtin; refine wpList_append_lies _ rfl _ _ 72 rfl (w.heap.size + 4) 69 i0 (.agg #[.int .i64 0, .int .i64 0, .int .i64 0, .int .i64 0, .int .i64 0, .int .i64 0]) 6 48 Try.underlying72 hi hz0 hz1 hz2 rfl (by decide) _ 0 [] rfl (Tr.ownsRow_keep (Tr.below_alloc (Below.refl _ _) (Nat.le_refl _)) HOWN.out) _ 1 1 [.int .i64 tn, .int .i64 ts, .int .i64 tv, .int .i64 tr, .int .i64 ti, .int .i64 tq] rfl rfl (Tr.news_blk (Tr.blk_new _ _) rfl) (by intro u hu; simp at hu; rcases hu with rfl | rfl | rfl | rfl | rfl | rfl <;> rfl) (by decide) (by decide) (by omega) (by simp; omega) _ rfl ?_)
          intro g9 cp9 w9 hown9 hgrow9 hat9 hlt9
          have hWb : ∀ k x, k < w.heap.size + 4 → wr.heap[k]? = some x → w9.heap[k]? = some x := by
            intro k x hk hx
            rw [hgrow9.block _ (by have := Tr.blk_lt hx; simp; omega) (fun e => by have := Tr.ownsRow_base HOWN.out e.symm; omega)]
            exact Tr.blk_old hx
          have hB9 : Below w.heap.size w w9 := (Tr.below_alloc hB (Nat.le_refl _)).grown hgrow9 (by simp; omega) (fun k hk => by have := Tr.ownsRow_base HOWN.out hk; omega)
          have hs9 : w.heap.size + 4 ≤ w9.heap.size := by have := hgrow9.size; simp at this; omega
          have HOWN9 := Lib.hid hown9
          have b09 := hWb _ _ (by omega) B0.out
          have b19 := hWb _ _ (by omega) B1.out
          have b29 := hWb _ _ (by omega) B2.out
          have B09 := Lib.hid b09; have B19 := Lib.hid b19; have B29 := Lib.hid b29
          clear hown9 hgrow9 hat9 hWb b09 b19 b29 c0 f0 q0 q1 q2 q3 q4 q5
          go_wp2_with fail
          go_roundw
          case rel =>
            refine ⟨1, by omega, by go_num, ?_, B09.out, B19.out, B29.out, hB9, hs9⟩
            have := HOWN9.out
            have e := HTK.out; simp only [Nat.zero_add, List.take_zero, List.drop_nil, List.nil_append] at e; rw [e]; exact this
          case measure => simp [intOf]; omega
    · have hie : j = cl.length := by omega
      subst hie
      rw [List.take_length] at HOWN
      have hlk : (cl.drop D).length ≤ 64 := by rw [List.length_drop]; omega
      go_wp2_with (at_builtin; refine wpList_append_lies _ rfl _ _ 72 rfl (w.heap.size + 4) 69 i0 (.agg #[.int .i64 0, .int .i64 0, .int .i64 0, .int .i64 0, .int .i64 0, .int .i64 0]) 6 48 Try.underlying72 hi hz0 hz1 hz2 rfl (by decide) _ ((cl.drop D).length) (tots (cl.drop D)) rfl (Tr.ownsRow_keep (Tr.below_alloc (Below.refl _ _) (Nat.le_refl _)) HOWN.out) _ 1 1 [.int .i64 n, .int .i64 s, .int .i64 v, .int .i64 r, .int .i64 i, .int .i64 o] rfl rfl (Tr.news_blk (Tr.blk_new _ _) rfl) (by intro u hu; simp at hu; rcases hu with rfl | rfl | rfl | rfl | rfl | rfl <;> rfl) (by decide) (by unfold maxLen; simp; omega) (by simp; omega) (by simp; omega) _ rfl ?_)
      intro g9 cp9 w9 hown9 hgrow9 hat9 hlt9
      have hWb : ∀ k x, k < w.heap.size + 4 → wr.heap[k]? = some x → w9.heap[k]? = some x := by
        intro k x hk hx
        rw [hgrow9.block _ (by have := Tr.blk_lt hx; simp; omega) (fun e => by have := Tr.ownsRow_base HOWN.out e.symm; omega)]
        exact Tr.blk_old hx
      have hB9 : Below w.heap.size w w9 := (Tr.below_alloc hB (Nat.le_refl _)).grown hgrow9 (by simp; omega) (fun k hk => by have := Tr.ownsRow_base HOWN.out hk; omega)
      have hs9 : w.heap.size + 4 ≤ w9.heap.size := by have := hgrow9.size; simp at this; omega
      have hlow : w.heap.size + 4 ≤ g9 := Tr.ownsRow_base hown9 rfl
      have hSl := Tr.Sl.of_row hown9 (by intro u hu; exact tots_one (cl.drop D ++ [(⟨n, s, v, r, i, o⟩ : Tot)]) u (by rw [tots_app]; exact hu))
      have b09 := hWb _ _ (by omega) B0.out
      have b19 := hWb _ _ (by omega) B1.out
      have b29 := hWb _ _ (by omega) B2.out
      have c0 := fun o => Tr.cell_blk (o := o) b09
      have f0 := fun o => Tr.frozen_blk (o := o) b09
      have c1 := fun o => Tr.cell_blk (o := o) b19
      have f1 := fun o => Tr.frozen_blk (o := o) b19
      have c2 := fun o => Tr.cell_blk (o := o) b29
      have f2 := fun o => Tr.frozen_blk (o := o) b29
      have HSL := Lib.hid hSl; have HOWN9 := Lib.hid hown9
      have B09 := Lib.hid b09; have B19 := Lib.hid b19; have B29 := Lib.hid b29
      clear hown9 hgrow9 hat9 hWb b09 b19 b29 hSl
      go_wp2_with fail
      go_region
      all_goals
        go_wp2
        obtain rfl : N = cl.length - D + 1 := HN.out
        refine bodyPost_ret (Tr.results_run [.cell 2 74, .tmp 3, .cell 4 69, .tmp 5] [_, _, _, _] rfl ⟨_, _, rfl, ⟨_, rfl, Tr.load_blk (t := 74) (fr := (0, 0)) (cs := #[.int .i64 keep, .int .i64 next, .bool false, .int .i64 n, .int .i64 s, .int .i64 v, .int .i64 r, .int .i64 i, .int .i64 o, .slice (some ⟨g9, 0, none⟩) (cl.length - D + 1) cp9]) ?_ Try.underlying74 rfl (by kernel_rfl)⟩, _, _, rfl, rfl, _, _, rfl, ⟨_, rfl, Tr.load_blk (t := 69) (fr := (0, 0)) (cs := #[.int .i64 n, .int .i64 s, .int .i64 v, .int .i64 r, .int .i64 i, .int .i64 o]) ?_ Try.underlying69 rfl (by kernel_rfl)⟩, _, _, rfl, rfl, rfl⟩ _ rfl) rfl ⟨⟨some ⟨g9, 0, none⟩, cp9, rfl, ?_⟩, ?_⟩
        · have b1 := B19.out
          refine Tr.blk_drew ?_
          simp only [Tr.heap_set_same, Tr.heap_set_other _ ⟨w.heap.size, _, none⟩ _ _ (show w.heap.size ≠ w.heap.size + 1 by omega), Tr.heap_set_other _ ⟨w.heap.size + 1 + 1, _, none⟩ _ _ (show w.heap.size + 1 + 1 ≠ w.heap.size + 1 by omega), b1, Option.map_some, Tr.setObj]
          simp
        · have b2 := B29.out
          refine Tr.blk_drew ?_
          simp only [Tr.heap_set_same, Tr.heap_set_other _ ⟨w.heap.size, _, none⟩ _ _ (show w.heap.size ≠ w.heap.size + 1 + 1 by omega), Tr.heap_set_other _ ⟨w.heap.size + 1, _, none⟩ _ _ (show w.heap.size + 1 ≠ w.heap.size + 1 + 1 by omega), b2, Option.map_some, Tr.setObj]
          simp
        · rw [HLL.out, tots_app]
          have h := HSL.out
          refine Tr.Sl.move (w := w9) (by simpa [tots, Tot.cells] using h) ?_
          intro x hx
          refine Tr.blk_drew ?_
          simp only [Tr.heap_set_other _ ⟨w.heap.size, _, none⟩ _ _ (show w.heap.size ≠ g9 by omega), Tr.heap_set_other _ ⟨w.heap.size + 1, _, none⟩ _ _ (show w.heap.size + 1 ≠ g9 by omega), Tr.heap_set_other _ ⟨w.heap.size + 1 + 1, _, none⟩ _ _ (show w.heap.size + 1 + 1 ≠ g9 by omega)]
          exact hx
        · (repeat (first | with_reducible assumption | (with_reducible exact Below.refl _ _) | ((with_reducible refine Tr.below_alloc ?_ ?_); rotate_left; focus (first | omega | exact Nat.le_refl _)) | (with_reducible refine Tr.below_drew ?_) | (with_reducible refine Tr.below_drewN ?_) | ((with_reducible refine Tr.below_set ?_ ?_); rotate_left; focus (first | omega | (simp; done) | (simp; omega))) | ((with_reducible refine Tr.below_trans ?_ (by assumption) ?_); rotate_left; focus (first | exact Nat.le_refl _ | omega))))
end Go.Proofs.Ytjkfkgpdlflbhaa
