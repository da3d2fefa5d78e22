/- The reference's fields of totals, and the shifts' text. -/
import Derived.Test.YtjkfkgpdlflbhaaTrRTxt
import Derived.Test.YtjkfkgpdlflbhaaTrShNil
import Derived.Deep.AppendLies
namespace Go.Proofs.Ytjkfkgpdlflbhaa
open Go.RowKit Go.Sort
open Tr (Sl Chg)
set_option linter.unusedVariables false
set_option linter.unusedSimpArgs false

/-- The fields of totals. -/
def TFl (t : Tot) : List Fld := [⟨0, 4, t.n.toNat⟩, ⟨1, 0, t.s.toNat⟩, ⟨1, 0, t.v.toNat⟩, ⟨1, 0, t.r.toNat⟩, ⟨1, 0, t.i.toNat⟩, ⟨1, 0, t.o.toNat⟩]
theorem TFl_len (t : Tot) : (TFl t).length = 6 := rfl
theorem TFl_bytes (t : Tot) : (TFl t).flatMap Fld.bytes = TW t := by
  simp [TFl, TW, TW5, Fld.bytes, Fld.width, List.take]
theorem TFl_ok (t : Tot) (h : t.ok) : ∀ f ∈ TFl t, f.ok := by
  obtain ⟨n, s, v, r, i, o⟩ := t
  obtain ⟨⟨n0, n1⟩, ⟨s0, s1⟩, ⟨v0, v1⟩, ⟨r0, r1⟩, ⟨i0, i1⟩, ⟨o0, o1⟩⟩ := h
  dsimp only at *
  intro f hf
  simp only [TFl, List.mem_cons, List.mem_nil_iff, or_false] at hf
  rcases hf with rfl | rfl | rfl | rfl | rfl | rfl <;> refine ⟨by simp, by simp [Fld.width], by simp [Fld.width], ?_⟩ <;> simp [Fld.width] <;> omega
theorem info_Fld : (Try.prog.info? 118).map (fun i => (i.zero, i.size, i.bytes)) = some (some (.agg #[.int .i64 0, .int .i64 0, .int .u64 0, .string ⟨#[]⟩]), 4, 40) := by kernel_rfl
def RTflInv (t : Tot) (B : World) (blk : Array Value) (s3 s4 : Value) (wr : World) : Prop :=
  ∃ i : Nat, i ≤ 5 ∧ s4 = .int .i64 i ∧ wr.ownsRow (B.heap.size + 1) 118 4 s3 (i + 1) (fcs ((TFl t).take (i + 1))) ∧
    wr.heap[B.heap.size]? = some (.cells blk 69 (0, 0)) ∧ Below B.heap.size B wr ∧ B.heap.size + 1 ≤ wr.heap.size

set_option maxRecDepth 100000 in
set_option maxHeartbeats 8000000 in
theorem C_RTotal26 (t : Tot) (w : World) (ht : t.ok) :
    Calls Try.prog 57 #[t.val] w fun e w' => (∃ a cap, e = .returned (.slice a 6 cap) ∧ Sl 118 4 w' (.slice a 6 cap) 6 (fcs (TFl t))) ∧ Below w.heap.size w w' := by
  obtain ⟨n, s, v, r, i, o⟩ := t
  obtain ⟨⟨n0, n1⟩, ⟨s0, s1⟩, ⟨v0, v1⟩, ⟨r0, r1⟩, ⟨i0, i1⟩, ⟨o0, o1⟩⟩ := ht
  dsimp only at *
  obtain ⟨n, rfl⟩ := Int.eq_ofNat_of_zero_le n0
  obtain ⟨s, rfl⟩ := Int.eq_ofNat_of_zero_le s0
  obtain ⟨v, rfl⟩ := Int.eq_ofNat_of_zero_le v0
  obtain ⟨r, rfl⟩ := Int.eq_ofNat_of_zero_le r0
  obtain ⟨i, rfl⟩ := Int.eq_ofNat_of_zero_le i0
  obtain ⟨o, rfl⟩ := Int.eq_ofNat_of_zero_le o0
  have wn : IntKind.u64.wrap (n : Int) = n := by rw [u64_eq]; omega
  have ws : IntKind.u64.wrap (s : Int) = s := by rw [u64_eq]; omega
  have wv : IntKind.u64.wrap (v : Int) = v := by rw [u64_eq]; omega
  have wrr : IntKind.u64.wrap (r : Int) = r := by rw [u64_eq]; omega
  have wi : IntKind.u64.wrap (i : Int) = i := by rw [u64_eq]; omega
  have wo : IntKind.u64.wrap (o : Int) = o := by rw [u64_eq]; omega
  obtain ⟨i0', hi, hz0, hz1, hz2⟩ := info_parts info_Fld
  unfold Tot.val
  dsimp only
  go_enter Try.func57, Try.ntmps57
  go_wp2_with fail
  go_loopw [3, 4] (fun s3 s4 wr => RTflInv ⟨n, s, v, r, i, o⟩ w #[.int .i64 n, .int .i64 s, .int .i64 v, .int .i64 r, .int .i64 i, .int .i64 o] s3 s4 wr) (fun _ s4 _ => 5 - (intOf s4).toNat)
  case atStart =>
    refine ⟨0, by omega, rfl, ?_, ?_, ?_, ?_⟩
    · refine Tr.ownsRow_of_blk (Tr.blk_at (by simp)) (by simp) ?_ rfl (by decide)
      simp [fcs, TFl, Fld.cells, wn]
    · (repeat (first | with_reducible assumption | with_reducible refine Tr.blk_drew ?_ | with_reducible refine Tr.blk_drewN ?_ | (refine Tr.blk_at ?_; focus (first | (simp; done) | (simp; omega))) | with_reducible refine Tr.blk_old ?_ | ((with_reducible refine Tr.blk_set_ne ?_ _ ?_); rotate_left; focus (first | (simp; done) | (simp; omega) | (simp; assumption)))))
    · (repeat (first | with_reducible assumption | (with_reducible exact Below.refl _ _) | ((with_reducible refine Tr.below_alloc ?_ ?_); rotate_left; focus (first | omega | exact Nat.le_refl _)) | (with_reducible refine Tr.below_drew ?_) | (with_reducible refine Tr.below_drewN ?_) | ((with_reducible refine Tr.below_set ?_ ?_); rotate_left; focus (first | omega | (simp; done) | (simp; omega))) | ((with_reducible refine Tr.below_trans ?_ (by assumption) ?_); rotate_left; focus (first | exact Nat.le_refl _ | omega))))
    · simp
  case round =>
    obtain ⟨j, hj, rfl, hown, b0, hB, hsz⟩ := hrel
    have c0 := fun o => Tr.cell_blk (o := o) b0
    have B0 := Lib.hid b0; have HOWN := Lib.hid hown
    obtain ⟨a3, cp3, rfl, -⟩ := Tr.ownsRow_cells hown
    clear b0 hown
    by_cases hlt : j < 5
    · have : j = 0 ∨ j = 1 ∨ j = 2 ∨ j = 3 ∨ j = 4 := by omega
      rcases this with rfl | rfl | rfl | rfl | rfl
      · go_wp2_with (at_builtin; refine wpList_append_lies _ rfl _ _ 119 rfl (w.heap.size + 1) 118 i0' (.agg #[.int .i64 0, .int .i64 0, .int .u64 0, .string ⟨#[]⟩]) 4 40 Try.underlying119 hi hz0 hz1 hz2 rfl (by decide) _ (0 + 1) _ rfl (Tr.ownsRow_keep (Tr.below_alloc (Below.refl _ _) (Nat.le_refl _)) HOWN.out) _ 1 1 [.int .i64 1, .int .i64 0, .int .u64 s, .string ⟨#[]⟩] rfl rfl (Tr.news_blk (Tr.blk_new _ _) rfl) (by intro u hu; simp at hu; rcases hu with rfl | rfl | rfl | rfl <;> rfl) (by decide) (by decide) (by decide) (by simp; omega) _ rfl ?_)
        intro g9 cp9 w9 hown9 hgrow9 hat9 hlt9
        have hk9 : ∀ k, (Value.slice a3 (0 + 1) cp3).ownBlock = some k → w.heap.size + 1 ≤ k := fun k hk => Tr.ownsRow_base HOWN.out hk
        have b09 : w9.heap[w.heap.size]? = some (.cells #[.int .i64 (n : Int), .int .i64 s, .int .i64 v, .int .i64 r, .int .i64 i, .int .i64 o] 69 (0, 0)) := by
          rw [hgrow9.block _ (by simp; omega) (fun e => by have := hk9 _ e.symm; omega)]
          exact Tr.blk_old B0.out
        have hB9 : Below w.heap.size w w9 := (Tr.below_alloc hB (Nat.le_refl _)).grown hgrow9 (by simp; omega) (fun k hk => by have := hk9 _ hk; omega)
        have hs9 : w.heap.size + 1 ≤ w9.heap.size := by have := hgrow9.size; simp at this; omega
        have HOWN9 := Lib.hid hown9
        have B09 := Lib.hid b09
        clear hown9 hgrow9 hat9 b09 c0 hk9
        go_wp2_with fail
        go_roundw
        case rel => exact ⟨0 + 1, by omega, rfl, by have h := HOWN9.out; simpa [fcs, TFl, Fld.cells] using h, B09.out, hB9, hs9⟩
        case measure => simp [intOf]
      · go_wp2_with (at_builtin; refine wpList_append_lies _ rfl _ _ 119 rfl (w.heap.size + 1) 118 i0' (.agg #[.int .i64 0, .int .i64 0, .int .u64 0, .string ⟨#[]⟩]) 4 40 Try.underlying119 hi hz0 hz1 hz2 rfl (by decide) _ (1 + 1) _ rfl (Tr.ownsRow_keep (Tr.below_alloc (Below.refl _ _) (Nat.le_refl _)) HOWN.out) _ 1 1 [.int .i64 1, .int .i64 0, .int .u64 v, .string ⟨#[]⟩] rfl rfl (Tr.news_blk (Tr.blk_new _ _) rfl) (by intro u hu; simp at hu; rcases hu with rfl | rfl | rfl | rfl <;> rfl) (by decide) (by decide) (by decide) (by simp; omega) _ rfl ?_)
        intro g9 cp9 w9 hown9 hgrow9 hat9 hlt9
        have hk9 : ∀ k, (Value.slice a3 (1 + 1) cp3).ownBlock = some k → w.heap.size + 1 ≤ k := fun k hk => Tr.ownsRow_base HOWN.out hk
        have b09 : w9.heap[w.heap.size]? = some (.cells #[.int .i64 (n : Int), .int .i64 s, .int .i64 v, .int .i64 r, .int .i64 i, .int .i64 o] 69 (0, 0)) := by
          rw [hgrow9.block _ (by simp; omega) (fun e => by have := hk9 _ e.symm; omega)]
          exact Tr.blk_old B0.out
        have hB9 : Below w.heap.size w w9 := (Tr.below_alloc hB (Nat.le_refl _)).grown hgrow9 (by simp; omega) (fun k hk => by have := hk9 _ hk; omega)
        have hs9 : w.heap.size + 1 ≤ w9.heap.size := by have := hgrow9.size; simp at this; omega
        have HOWN9 := Lib.hid hown9
        have B09 := Lib.hid b09
        clear hown9 hgrow9 hat9 b09 c0 hk9
        go_wp2_with fail
        go_roundw
        case rel => exact ⟨1 + 1, by omega, rfl, by have h := HOWN9.out; simpa [fcs, TFl, Fld.cells] using h, B09.out, hB9, hs9⟩
        case measure => simp [intOf]
      · go_wp2_with (at_builtin; refine wpList_append_lies _ rfl _ _ 119 rfl (w.heap.size + 1) 118 i0' (.agg #[.int .i64 0, .int .i64 0, .int .u64 0, .string ⟨#[]⟩]) 4 40 Try.underlying119 hi hz0 hz1 hz2 rfl (by decide) _ (2 + 1) _ rfl (Tr.ownsRow_keep (Tr.below_alloc (Below.refl _ _) (Nat.le_refl _)) HOWN.out) _ 1 1 [.int .i64 1, .int .i64 0, .int .u64 r, .string ⟨#[]⟩] rfl rfl (Tr.news_blk (Tr.blk_new _ _) rfl) (by intro u hu; simp at hu; rcases hu with rfl | rfl | rfl | rfl <;> rfl) (by decide) (by decide) (by decide) (by simp; omega) _ rfl ?_)
        intro g9 cp9 w9 hown9 hgrow9 hat9 hlt9
        have hk9 : ∀ k, (Value.slice a3 (2 + 1) cp3).ownBlock = some k → w.heap.size + 1 ≤ k := fun k hk => Tr.ownsRow_base HOWN.out hk
        have b09 : w9.heap[w.heap.size]? = some (.cells #[.int .i64 (n : Int), .int .i64 s, .int .i64 v, .int .i64 r, .int .i64 i, .int .i64 o] 69 (0, 0)) := by
          rw [hgrow9.block _ (by simp; omega) (fun e => by have := hk9 _ e.symm; omega)]
          exact Tr.blk_old B0.out
        have hB9 : Below w.heap.size w w9 := (Tr.below_alloc hB (Nat.le_refl _)).grown hgrow9 (by simp; omega) (fun k hk => by have := hk9 _ hk; omega)
        have hs9 : w.heap.size + 1 ≤ w9.heap.size := by have := hgrow9.size; simp at this; omega
        have HOWN9 := Lib.hid hown9
        have B09 := Lib.hid b09
        clear hown9 hgrow9 hat9 b09 c0 hk9
        go_wp2_with fail
        go_roundw
        case rel => exact ⟨2 + 1, by omega, rfl, by have h := HOWN9.out; simpa [fcs, TFl, Fld.cells] using h, B09.out, hB9, hs9⟩
        case measure => simp [intOf]
      · go_wp2_with (at_builtin; refine wpList_append_lies _ rfl _ _ 119 rfl (w.heap.size + 1) 118 i0' (.agg #[.int .i64 0, .int .i64 0, .int .u64 0, .string ⟨#[]⟩]) 4 40 Try.underlying119 hi hz0 hz1 hz2 rfl (by decide) _ (3 + 1) _ rfl (Tr.ownsRow_keep (Tr.below_alloc (Below.refl _ _) (Nat.le_refl _)) HOWN.out) _ 1 1 [.int .i64 1, .int .i64 0, .int .u64 i, .string ⟨#[]⟩] rfl rfl (Tr.news_blk (Tr.blk_new _ _) rfl) (by intro u hu; simp at hu; rcases hu with rfl | rfl | rfl | rfl <;> rfl) (by decide) (by decide) (by decide) (by simp; omega) _ rfl ?_)
        intro g9 cp9 w9 hown9 hgrow9 hat9 hlt9
        have hk9 : ∀ k, (Value.slice a3 (3 + 1) cp3).ownBlock = some k → w.heap.size + 1 ≤ k := fun k hk => Tr.ownsRow_base HOWN.out hk
        have b09 : w9.heap[w.heap.size]? = some (.cells #[.int .i64 (n : Int), .int .i64 s, .int .i64 v, .int .i64 r, .int .i64 i, .int .i64 o] 69 (0, 0)) := by
          rw [hgrow9.block _ (by simp; omega) (fun e => by have := hk9 _ e.symm; omega)]
          exact Tr.blk_old B0.out
        have hB9 : Below w.heap.size w w9 := (Tr.below_alloc hB (Nat.le_refl _)).grown hgrow9 (by simp; omega) (fun k hk => by have := hk9 _ hk; omega)
        have hs9 : w.heap.size + 1 ≤ w9.heap.size := by have := hgrow9.size; simp at this; omega
        have HOWN9 := Lib.hid hown9
        have B09 := Lib.hid b09
        clear hown9 hgrow9 hat9 b09 c0 hk9
        go_wp2_with fail
        go_roundw
        case rel => exact ⟨3 + 1, by omega, rfl, by have h := HOWN9.out; simpa [fcs, TFl, Fld.cells] using h, B09.out, hB9, hs9⟩
        case measure => simp [intOf]
      · go_wp2_with (at_builtin; refine wpList_append_lies _ rfl _ _ 119 rfl (w.heap.size + 1) 118 i0' (.agg #[.int .i64 0, .int .i64 0, .int .u64 0, .string ⟨#[]⟩]) 4 40 Try.underlying119 hi hz0 hz1 hz2 rfl (by decide) _ (4 + 1) _ rfl (Tr.ownsRow_keep (Tr.below_alloc (Below.refl _ _) (Nat.le_refl _)) HOWN.out) _ 1 1 [.int .i64 1, .int .i64 0, .int .u64 o, .string ⟨#[]⟩] rfl rfl (Tr.news_blk (Tr.blk_new _ _) rfl) (by intro u hu; simp at hu; rcases hu with rfl | rfl | rfl | rfl <;> rfl) (by decide) (by decide) (by decide) (by simp; omega) _ rfl ?_)
        intro g9 cp9 w9 hown9 hgrow9 hat9 hlt9
        have hk9 : ∀ k, (Value.slice a3 (4 + 1) cp3).ownBlock = some k → w.heap.size + 1 ≤ k := fun k hk => Tr.ownsRow_base HOWN.out hk
        have b09 : w9.heap[w.heap.size]? = some (.cells #[.int .i64 (n : Int), .int .i64 s, .int .i64 v, .int .i64 r, .int .i64 i, .int .i64 o] 69 (0, 0)) := by
          rw [hgrow9.block _ (by simp; omega) (fun e => by have := hk9 _ e.symm; omega)]
          exact Tr.blk_old B0.out
        have hB9 : Below w.heap.size w w9 := (Tr.below_alloc hB (Nat.le_refl _)).grown hgrow9 (by simp; omega) (fun k hk => by have := hk9 _ hk; omega)
        have hs9 : w.heap.size + 1 ≤ w9.heap.size := by have := hgrow9.size; simp at this; omega
        have HOWN9 := Lib.hid hown9
        have B09 := Lib.hid b09
        clear hown9 hgrow9 hat9 b09 c0 hk9
        go_wp2_with fail
        go_roundw
        case rel => exact ⟨4 + 1, by omega, rfl, by have h := HOWN9.out; simpa [fcs, TFl, Fld.cells] using h, B09.out, hB9, hs9⟩
        case measure => simp [intOf]
    · have hje : j = 5 := by omega
      subst hje
      go_wp2_with fail
      go_ret
      refine ⟨⟨_, _, rfl, ?_⟩, hB⟩
      have h := HOWN.out
      exact Tr.Sl.of_row h (fcs_one _)
end Go.Proofs.Ytjkfkgpdlflbhaa
