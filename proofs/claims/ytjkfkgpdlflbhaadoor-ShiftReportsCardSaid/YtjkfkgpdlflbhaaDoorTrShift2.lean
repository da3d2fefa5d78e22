/- shifts: the end of one. -/
import Derived.Test.YtjkfkgpdlflbhaaDoorTrShift1
import Derived.Deep.AppendLies
import Derived.Deep.RegionWith
import Derived.Deep.RegionLaw
import Derived.Lib.SmallJoins

namespace Go.Proofs.YtjkfkgpdlflbhaaDoor
open Go.RowKit Go.Sort
open Tr (Sl Chg)
set_option linter.unusedVariables false
set_option linter.unusedSimpArgs false
attribute [local go_sem] Tr.go_max2 Tr.go_min2 Tr.go_max_two Tr.go_min_two
theorem info_CloneT : (Tryd.prog.info? 34).map (fun i => (i.zero, i.size, i.bytes)) = some (some (.agg #[.int .i64 0, .int .i64 0, .int .i64 0, .int .i64 0, .int .i64 0, .int .i64 0]), 6, 48) := by kernel_rfl
set_option maxRecDepth 100000 in
set_option maxHeartbeats 1000000 in
/-- slices.Clone: as much, in memory of its own; nil of nil. -/
theorem C_CloneT (v : Value) (n : Nat) (xs : List Value) (w : World) (h : Tr.Sl 34 6 w v n xs) (hn : n * 48 ≤ 140737488355328) :
    Calls Tryd.prog 16 #[v] w fun e w' => ∃ v', e = .returned v' ∧ w'.ownsRow w.heap.size 34 6 v' n xs ∧ Below w.heap.size w w' := by
  have h' := h
  obtain ⟨a, cap, rfl, hcap, hl, h1, -⟩ := h
  obtain ⟨i0, hi, hz0, hz1, hz2⟩ := info_parts info_CloneT
  cases a with
  | none =>
    obtain ⟨rfl, rfl⟩ := h'.nil
    clear h' hl h1
    have hnil := fun W : World => Tr.run_eql_slice_nil_any (P := Tryd.prog) W _ _ none 0 cap 0 0 Tryd.underlying54
    go_enter Tryd.func16, Tryd.ntmps16
    go_wp2_with fail
    go_ret
    exact ⟨_, rfl, ⟨rfl, .inl ⟨rfl, rfl⟩⟩, Below.refl _ _⟩
  | some p =>
    have hsrc := h'.src
    have hnil := fun W : World => Tr.run_eql_slice_nil_any (P := Tryd.prog) W _ _ (some p) n cap 0 0 Tryd.underlying54
    have HL := Lib.hid hl; have H1 := Lib.hid h1; have HS := Lib.hid hsrc
    clear h' hl h1 hsrc
    go_enter Tryd.func16, Tryd.ntmps16
    go_wp2_with (at_builtin; go_must (refine wpList_append_own _ rfl _ _ 54 rfl w.heap.size 34 i0 (.agg #[.int .i64 0, .int .i64 0, .int .i64 0, .int .i64 0, .int .i64 0, .int .i64 0]) 6 48 Tryd.underlying54 hi hz0 hz1 hz2 rfl (by decide) _ 0 [] rfl (Tr.ownsRow_of_blk (cs := #[]) (Tr.blk_new _ _) (Nat.le_refl _) rfl rfl (by decide)) p n cap xs rfl HL.out (fun j u hj => Tr.cell_alloc (HS.out j u hj) _) H1.out (by unfold maxLen; omega) (by omega) (by simp) ?_))
    intro v' w1 hown1 hgrow hiff
    have hB1 : Below w.heap.size w w1 := ((Below.refl w.heap.size w).alloc (Nat.le_refl _) _).grown hgrow (by simp) (fun k hk => by simp [Value.ownBlock] at hk; omega)
    have HO := Lib.hid hown1
    clear hown1 hgrow hiff
    go_wp2
    go_ret
    exact ⟨_, rfl, HO.out, hB1⟩

theorem tots_drop (l : List Tot) (D : Nat) : tots (l.drop D) = (tots l).drop (D * 6) := by
  induction l generalizing D with
  | nil => simp [tots]
  | cons t l ih =>
    cases D with
    | zero => simp
    | succ D =>
      rw [List.drop_succ_cons, ih]
      have e : tots (t :: l) = t.cells ++ tots l := by simp [tots]
      have e2 : (D + 1) * 6 = t.cells.length + D * 6 := by simp [Tot.cells]; omega
      rw [e, e2, List.drop_append]
      simp
def Sh.end_ (x : Sh) : Sh × Int × Tot × Int :=
  if x.op then (⟨x.keep, x.next, false, x.now, (x.cl ++ [x.now]).drop (x.cl.length + 1 - x.keep.toNat)⟩, x.next - 1, x.now, 0) else (x, 0, .zero, 20)
def EndApp (w : World) (b : Nat) (n : Nat) (xs : List Value) (s5 : Value) (wx : World) : Prop :=
  wx.ownsRow (w.heap.size + 1) 34 6 s5 n xs ∧ Below w.heap.size w wx ∧ wx.heap[w.heap.size]? = some (.cells #[.int .i64 0, .int .i64 0, .int .i64 0, .int .i64 0, .int .i64 0, .int .i64 0] 34 (0, 0))
set_option maxRecDepth 100000 in
set_option maxHeartbeats 4000000 in
theorem C_End_yes (b : Nat) (keep next : Int) (now : Tot) (cl : List Tot) (w : World) (h : (Sh.mk keep next true now cl).is w b) (ho : (Sh.mk keep next true now cl).ok) :
    Calls Tryd.prog 7 #[.pointer (some ⟨b, 0, none⟩)] w fun e w' =>
    e = .returned (.tuple #[.int .i64 (next - 1), now.val, .int .i64 0]) ∧ (Sh.mk keep next false now ((cl ++ [now]).drop (cl.length + 1 - keep.toNat))).is w' b ∧ Chg b w w' := by
  obtain ⟨a, cap, hb, hsl⟩ := h
  obtain ⟨n, s, v, r, i, o⟩ := now
  have hc := fun o => Tr.cell_blk (o := o) hb
  have hf := fun o => Tr.frozen_blk (o := o) hb
  have hbl := Tr.blk_lt hb
  unfold Sh.cells at hc
  obtain ⟨⟨k0, k1⟩, ⟨n0, n1⟩, -, -, hlen, -⟩ := ho
  dsimp only at hc hsl k0 k1 n0 n1 hlen
  have HB := Lib.hid hb; have HSL := Lib.hid hsl
  clear hb hsl
  have hcl : cl.length ≤ 64 := by omega
  obtain ⟨i0, hi, hz0, hz1, hz2⟩ := info_parts info_CloneT
  have hcl2 : ∀ W : World, Below w.heap.size w W → Calls Tryd.prog 16 #[.slice a cl.length cap] W fun e w' => ∃ v', e = .returned v' ∧ w'.ownsRow W.heap.size 34 6 v' cl.length (tots cl) ∧ Below W.heap.size W w' :=
    fun W hW => C_CloneT _ _ _ W (Tr.Sl.keep hW HSL.out) (by omega)
  have HCL := Lib.hid hcl2
  clear hcl2
  go_enter Tryd.func7, Tryd.ntmps7
  go_upto_region 5 with fail
  go_cut [5] (fun s5 wx => EndApp w b (cl.length + 1) (tots cl ++ Tot.cells ⟨n, s, v, r, i, o⟩) s5 wx)
  case first =>
    go_region_law (first
      | (refine step_append_lies _ rfl _ _ 54 rfl (w.heap.size + 1) 34 i0 (.agg #[.int .i64 0, .int .i64 0, .int .i64 0, .int .i64 0, .int .i64 0, .int .i64 0]) 6 48 Tryd.underlying54 hi hz0 hz1 hz2 rfl (by decide) _ cl.length (tots cl) rfl ?_ _ 1 1 (Tot.cells ⟨n, s, v, r, i, o⟩) rfl rfl ?_ ?_ (by decide) ?_ ?_ ?_ _ rfl ?_
         · first | exact HOWN.out | exact HOWN.out.alloc _
         · first | exact Tr.news_blk (Tr.blk_new _ _) rfl | (refine Tr.news_blk (t := 34) (fr := (0, 0)) (HALL.out (w.heap.size + 1) (.cells (Tot.cells ⟨n, s, v, r, i, o⟩).toArray 34 (0, 0)) ?_) rfl; (repeat (first | with_reducible assumption | with_reducible refine Tr.blk_drew ?_ | with_reducible refine Tr.blk_drewN ?_ | (refine Tr.blk_at ?_; focus (first | (simp; done) | (simp; omega))) | with_reducible refine Tr.blk_old ?_ | ((with_reducible refine Tr.blk_set_ne ?_ _ ?_); rotate_left; focus (first | (simp; done) | (simp; omega) | (simp; assumption))))))
         · intro u hu; exact tots_one [⟨n, s, v, r, i, o⟩] u (by simpa [tots] using hu)
         · unfold maxLen; omega
         · omega
         · first | omega | (simp; omega)
         intro g cp w9 hown9 hgrow9 hat9 hlt9
         have hW9 := hgrow9)
      | (go_simp; go_at_call 16
         go_must (refine (HCL.out _ ?_).mono ?_)
         · (repeat (first | with_reducible assumption | (with_reducible exact Below.refl _ _) | ((with_reducible refine Tr.below_alloc ?_ ?_); rotate_left; focus (first | omega | exact Nat.le_refl _)) | (with_reducible refine Tr.below_drew ?_) | (with_reducible refine Tr.below_drewN ?_) | ((with_reducible refine Tr.below_set ?_ ?_); rotate_left; focus (first | omega | (simp; done) | (simp; omega))) | ((with_reducible refine Tr.below_trans ?_ (by assumption) ?_); rotate_left; focus (first | exact Nat.le_refl _ | omega))))
         rintro e w1 ⟨v', rfl, hown, hb1⟩
         have hall := fun k o h => Tr.blk_keep (b := k) (o := o) hb1 h
         have bb1 := hall b (.cells ((Sh.mk keep next true ⟨n, s, v, r, i, o⟩ cl).cells (.slice a cl.length cap)) 56 (0, 0)) (by have := HB.out; (repeat (first | with_reducible assumption | with_reducible refine Tr.blk_drew ?_ | with_reducible refine Tr.blk_drewN ?_ | (refine Tr.blk_at ?_; focus (first | (simp; done) | (simp; omega))) | with_reducible refine Tr.blk_old ?_ | ((with_reducible refine Tr.blk_set_ne ?_ _ ?_); rotate_left; focus (first | (simp; done) | (simp; omega) | (simp; assumption))))))
         have cc1 := fun o => Tr.cell_blk (o := o) bb1
         unfold Sh.cells at cc1
         dsimp only at cc1
         have hB1 : Below w.heap.size w w1 := Tr.below_trans (by (repeat (first | with_reducible assumption | (with_reducible exact Below.refl _ _) | ((with_reducible refine Tr.below_alloc ?_ ?_); rotate_left; focus (first | omega | exact Nat.le_refl _)) | (with_reducible refine Tr.below_drew ?_) | (with_reducible refine Tr.below_drewN ?_) | ((with_reducible refine Tr.below_set ?_ ?_); rotate_left; focus (first | omega | (simp; done) | (simp; omega))) | ((with_reducible refine Tr.below_trans ?_ (by assumption) ?_); rotate_left; focus (first | exact Nat.le_refl _ | omega))))) hb1
         have hz1s : w.heap.size + 1 ≤ w1.heap.size := Nat.le_trans (by first | (simp; done) | (simp; omega)) hb1.size
         have br1 := hall w.heap.size (.cells #[.int .i64 0, .int .i64 0, .int .i64 0, .int .i64 0, .int .i64 0, .int .i64 0] 34 (0, 0)) (by (repeat (first | with_reducible assumption | with_reducible refine Tr.blk_drew ?_ | with_reducible refine Tr.blk_drewN ?_ | (refine Tr.blk_at ?_; focus (first | (simp; done) | (simp; omega))) | with_reducible refine Tr.blk_old ?_ | ((with_reducible refine Tr.blk_set_ne ?_ _ ?_); rotate_left; focus (first | (simp; done) | (simp; omega) | (simp; assumption))))))
         have BR1 := Lib.hid br1
         go_must (have HOWN := Lib.hid (Joins.ownsRow_le hown (show w.heap.size + 1 ≤ _ by first | (simp; done) | (simp; omega))))
         have HALL := Lib.hid hall
         clear hall bb1 hown hb1 br1))
    all_goals
      have hB9 : Below w.heap.size w w9 := Below.grown (by (repeat (first | with_reducible assumption | (with_reducible exact Below.refl _ _) | ((with_reducible refine Tr.below_alloc ?_ ?_); rotate_left; focus (first | omega | exact Nat.le_refl _)) | (with_reducible refine Tr.below_drew ?_) | (with_reducible refine Tr.below_drewN ?_) | ((with_reducible refine Tr.below_set ?_ ?_); rotate_left; focus (first | omega | (simp; done) | (simp; omega))) | ((with_reducible refine Tr.below_trans ?_ (by assumption) ?_); rotate_left; focus (first | exact Nat.le_refl _ | omega))))) hW9 (by first | omega | (simp; omega)) (fun k hk => by have := Tr.ownsRow_base HOWN.out hk; omega)
      have hr9 : w9.heap[w.heap.size]? = some (.cells #[.int .i64 0, .int .i64 0, .int .i64 0, .int .i64 0, .int .i64 0, .int .i64 0] 34 (0, 0)) := by
        rw [hW9.block _ (by first | omega | (simp; omega)) (fun e => by have := Tr.ownsRow_base HOWN.out e.symm; omega)]
        have := BR1.out
        (repeat (first | with_reducible assumption | with_reducible refine Tr.blk_drew ?_ | with_reducible refine Tr.blk_drewN ?_ | (refine Tr.blk_at ?_; focus (first | (simp; done) | (simp; omega))) | with_reducible refine Tr.blk_old ?_ | ((with_reducible refine Tr.blk_set_ne ?_ _ ?_); rotate_left; focus (first | (simp; done) | (simp; omega) | (simp; assumption)))))
      go_wp2_with fail; go_meet
      exact ⟨hown9, hB9, hr9⟩
  case rest =>
    obtain ⟨hown, hB, hr⟩ := hcut
    obtain ⟨g, cp, hv, hg0, hg1⟩ := hown.form (by omega)
    have hSl := Tr.Sl.of_row hown (by intro u hu; exact tots_one (cl ++ [⟨n, s, v, r, i, o⟩]) u (by simpa [tots] using hu))
    subst hv
    have hcp : cl.length + 1 ≤ cp := by
      rcases hown.2 with ⟨h0, _⟩ | ⟨g', cap', cur, h', _, _, hcap', _⟩
      · simp at h0
      · simp only [Value.slice.injEq] at h'; omega
    have hbx := Tr.blk_below hB HB.out hbl
    have cx := fun o => Tr.cell_blk (o := o) hbx
    have fx := fun o => Tr.frozen_blk (o := o) hbx
    unfold Sh.cells at cx
    dsimp only at cx
    have cr := fun o => Tr.cell_blk (o := o) hr
    have fr := fun o => Tr.frozen_blk (o := o) hr
    have HBX := Lib.hid hbx; have HOWN := Lib.hid hown; have HRR := Lib.hid hr
    have hne1 : w.heap.size ≠ b := by omega
    have hne2 : g ≠ b := by omega
    clear hc hf hbx hown HCL hr
    go_wp2_with fail
    go_region
    go_wp2
    have hD : (max 0 ((cl.length : Int) + 1 - keep)).toNat = cl.length + 1 - keep.toNat := by omega
    refine bodyPost_ret (Tr.results_run [.tmp 2, .cell 3 34, .tmp 4] [_, _, _] rfl ⟨_, _, rfl, rfl, _, _, rfl, ⟨_, rfl, Tr.load_blk (t := 34) (fr := (0, 0)) (cs := #[.int .i64 n, .int .i64 s, .int .i64 v, .int .i64 r, .int .i64 i, .int .i64 o]) ?_ Tryd.underlying34 rfl (by kernel_rfl)⟩, _, _, rfl, rfl, rfl⟩ _ rfl) rfl ⟨rfl, ?_, ?_⟩
    · have hr := HRR.out
      refine Tr.blk_drew ?_
      simp only [Tr.heap_set_same, Tr.heap_set_other _ ⟨b, _, none⟩ _ _ (Ne.symm hne1), hr, Option.map_some, Tr.setObj]
      simp
    · rw [hD]
      generalize hDD : cl.length + 1 - keep.toNat = D
      have hDle : D ≤ 1 := by omega
      have hlen' : ((cl ++ [Tot.mk n s v r i o]).drop D).length = cl.length + 1 - D := by simp
      refine ⟨some ⟨g, D * 6, none⟩, cp - D, ?_, ?_⟩
      · have hbx := HBX.out
        refine Tr.blk_drew ?_
        simp only [Tr.heap_set_same, Tr.heap_set_other _ ⟨w.heap.size, _, none⟩ _ _ hne1, hbx, Option.map_some, Tr.setObj]
        simp [Sh.cells]
      · have e1 : tots ((cl ++ [Tot.mk n s v r i o]).drop D) = (tots cl ++ Tot.cells ⟨n, s, v, r, i, o⟩).drop (D * 6) := by
          have h2 : tots cl ++ Tot.cells ⟨n, s, v, r, i, o⟩ = tots (cl ++ [Tot.mk n s v r i o]) := by simp [tots]
          rw [h2]
          exact tots_drop _ _
        simp only [hlen', e1]
        refine Tr.Sl.move (w := wc) ?_ ?_
        · have := Tr.Sl.drop hSl (k := D) (by omega) (some ⟨g, D * 6, none⟩) (fun _ => by simp) (cp - D) (by omega)
          exact this
        · intro x hx
          refine Tr.blk_drew ?_
          simp only [Tr.heap_set_other _ ⟨w.heap.size, _, none⟩ _ _ (show w.heap.size ≠ g by omega), Tr.heap_set_other _ ⟨b, _, none⟩ _ _ (Ne.symm hne2)]
          exact hx
    · have hC := Chg.of_below (b := b) hB
      (repeat (first | with_reducible assumption | (with_reducible exact Tr.Chg.refl _ _) | (with_reducible refine Tr.Chg.set ?_ _ _) | (with_reducible refine Tr.Chg.alloc ?_ _) | (with_reducible refine Tr.Chg.drew ?_) | (with_reducible refine Tr.Chg.drewN ?_) | ((with_reducible refine Tr.Chg.set_new ?_ _ ?_); rotate_left; focus (first | omega | (simp; done) | (simp; omega))) | (with_reducible refine Tr.Chg.grown ?_ (by assumption)) | (with_reducible refine Tr.Chg.trans ?_ (by assumption))))
end Go.Proofs.YtjkfkgpdlflbhaaDoor
