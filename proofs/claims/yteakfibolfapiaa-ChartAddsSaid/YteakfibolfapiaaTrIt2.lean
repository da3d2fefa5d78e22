/- slices.AppendSeq(nil, maps.Values(m)): all accounts of a chart's map, in some order. -/
import Derived.Test.YteakfibolfapiaaTrIt1
import Derived.RangeFuncNested
import Derived.RangeFuncBound
import Derived.RangeFuncCalls
import Derived.RangeFuncLeaves
import Derived.RangeFuncBox
import Derived.Maps.AppendAt
import Derived.Shelf.Abstract
import Derived.Shelf.RegionOpen
namespace Go.Proofs.Yteakfibolfapiaa.It
open Go Go.RowKit Go.Maps Go.Sort Go.Shelf
attribute [local go_sem] Oper.semAt_some
set_option linter.unusedVariables false
set_option linter.unusedSimpArgs false
def cellsA (xs : List Acc) : List Value := xs.flatMap fun a => [.int .i64 a.c, .int .u8 a.k, .string ⟨⟨a.s⟩⟩]
theorem Try.infoAcc : (Try.prog.info? 31).map (fun i => (i.zero, i.size, i.bytes)) = some (some (.agg #[.int .i64 0, .int .u8 0, .string ⟨#[]⟩]), 3, 32) := by kernel_rfl
theorem cells_new3 (w : World) (x y z : Value) (t : TypeId) : ∀ (j : Nat) (u : Value), [x, y, z][j]? = some u → (w.alloc (.cells #[x, y, z] t)).cell? ((⟨w.heap.size, 0, none⟩ : Addr).add j) = some u := by
  intro j u hj
  match j, hj with
  | 0, hj => simp at hj; subst hj; simp [Addr.add]
  | 1, hj => simp at hj; subst hj; simp [Addr.add]
  | 2, hj => simp at hj; subst hj; simp [Addr.add]
theorem walks_of {W W' : World} (h : KeepsOthers W W') : KeepsWalks W W' := ⟨h.size, fun k o hk ho => h.same k o hk (by cases o <;> first | rfl | cases ho)⟩
theorem cellsA_snoc (pre : List Acc) (x : Acc) : cellsA (pre ++ [x]) = cellsA pre ++ [.int .i64 x.c, .int .u8 x.k, .string ⟨⟨x.s⟩⟩] := by simp [cellsA]
/-- What stands between two rounds. -/
def Mid (w : World) (B : Nat) (pre : List Acc) (W : World) : Prop :=
  (∃ v, Boxed W B 32 v ∧ W.ownsRow w.heap.size 31 3 v pre.length (cellsA pre) ∧ (v = .slice none 0 0 ↔ pre = [])) ∧ Below w.heap.size w W
theorem mid_own (w : World) (B D : Nat) (hD : w.heap.size ≤ D) : OwnFrom D (Mid w B) :=
  OwnFrom.and (Own.from (holdsRow_own w.heap.size B 32 31 3 (fun pre : List Acc => pre.length) cellsA (fun pre v => v = .slice none 0 0 ↔ pre = [])) _) (ownFrom_below (Nat.le_refl _) hD)
set_option maxRecDepth 100000 in
set_option maxHeartbeats 2000000 in
theorem append_seq (F : Fence) (n : Nat) (hf : F.fn 81) (hg : F.fn 65) (hro : F.round = none) (hn : 2 ≤ n) (Bm b : Nat) (m : ML) (hm0 : gC m) (hml : m.length ≤ 1000) (w : World) (hBm : Bm < w.heap.size)
    (hm : w.cell? ⟨Bm, 0, none⟩ = some (.map (some b))) (hown : Mk.IMap .i64 w b m) :
    CallsIn F n Try.prog 81 #[.slice none 0 0, .func (.func 65) #[] #[.pointer (some ⟨Bm, 0, none⟩)]] w fun e w' =>
      ∃ (v : Value) (xs : List Acc), e = .returned v ∧ (xs.map pr).Perm m ∧ w'.ownsRow w.heap.size 31 3 v xs.length (cellsA xs) ∧ (v = .slice none 0 0 ↔ xs = []) ∧ Below w.heap.size w w' := by
  refine callsIn_of_wp_marks Try.func81 rfl hf ?_ hro
  simp only [Try.ntmps81, List.size_toArray, List.length_cons, List.length_nil, Nat.reduceAdd, Nat.reduceSub, Array.replicate_succ, Array.replicate_zero, List.push_toArray, List.append_toArray, List.nil_append, List.cons_append]
  gi_wp2
  have hseq := values_stops F (n - 1) hg hro (by omega) Bm b m hm0 w hBm hm hown
  have hB : Boxed (w.alloc (Obj.cells #[.slice none 0 0] 32)) w.heap.size 32 (.slice none 0 0) := Boxed.new _ _ _
  have hb0 : Below w.heap.size w (w.alloc (Obj.cells #[.slice none 0 0] 32)) := (Below.refl _ w).alloc (Nat.le_refl _) _
  have hsz : (w.alloc (Obj.cells #[.slice none 0 0] 32)).heap.size = w.heap.size + 1 := by simp
  generalize w.alloc (Obj.cells #[.slice none 0 0] 32) = w1 at *
  refine wpIn_rangeFunc_ownH hro (by omega) (gf := 65) (lb := #[.pointer (some ⟨Bm, 0, none⟩)]) rfl hg (enters_of Try.func65 (by kernel_rfl) rfl)
    hseq walksK_t walksK_b hb0 (fun _ => rfl) (Mid w w.heap.size) (fun _ _ _ => False) (mid_own w _ _ (by omega)) (fun _ => (Own.from (fun _ _ _ _ h => h.elim) _)) ⟨⟨_, hB, ⟨rfl, .inl ⟨rfl, rfl⟩⟩, by simp⟩, hb0⟩
    (fun x a' W => ∃ Bx, W.heap[Bx]? = some (.cells #[.int .i64 x.c, .int .u8 x.k, .string ⟨⟨x.s⟩⟩] 31 (0, 0)) ∧ a' = { tmps := #[.slice none 0 0, .func (.func 65) #[] #[.pointer (some ⟨Bm, 0, none⟩)], .pointer (some ⟨w.heap.size, 0, none⟩), undef, .slice none 0 0, .pointer (some ⟨Bx, 0, none⟩), .func (.func 65) #[] #[.pointer (some ⟨Bm, 0, none⟩)], .agg #[.int .i64 x.c, .int .u8 x.k, .string ⟨⟨x.s⟩⟩], undef, undef, undef, undef, undef], defers := [] }) ?hAx ?assign ?body ?done ?stop
  case hAx =>
    rintro x a' s X Y row ⟨Bx, hx, rfl⟩ hgr hrow
    refine ⟨Bx, (hgr.block Bx (Array.getElem?_eq_some_iff.1 hx).1 (fun e' => ?_)).trans hx, rfl⟩
    obtain ⟨-, o, ho, hc⟩ := hrow Bx e'.symm
    rw [hx] at ho; cases ho; cases hc
  case assign =>
    rintro l pre x W K hi hK
    gi_wp2
    refine hK _ _ ((KeepsOthers.alloc _ _).from _) (KeepsWalks.alloc _ _) ((mid_own w _ w1.heap.size (by omega)).alloc _ hi) ⟨W.heap.size, World.alloc_heap_new W _, rfl⟩
  case body =>
    rintro l pre x a' W hl ⟨r, hr⟩ ⟨⟨v, hv, hrow, hnil⟩, hbW⟩ ⟨Bx, hx, rfl⟩ hlen
    have hv0 := hv.cell
    have hx0 : W.cell? ⟨Bx, 0, none⟩ = some (.int .i64 x.c) := by simp [World.cell?, hx]
    have hx1 : W.cell? ⟨Bx, 1, none⟩ = some (.int .u8 x.k) := by simp [World.cell?, hx]
    have hx2 : W.cell? ⟨Bx, 2, none⟩ = some (.string ⟨⟨x.s⟩⟩) := by simp [World.cell?, hx]
    obtain ⟨i0, hi, hz0, hz1, hz2⟩ := info_parts Try.infoAcc
    have hle : w.heap.size ≤ W.heap.size := hbW.size
    have hne : 32 ≠ 31 := by decide
    gi_wp2_with (first
      | (gi_at_builtin; refine wpListIn_append_own _ rfl _ _ 32 rfl w.heap.size 31 i0 (.agg #[.int .i64 0, .int .u8 0, .string ⟨#[]⟩]) 3 32 Try.underlying32 hi hz0 hz1 hz2 rfl (by decide) _ _ _ rfl (hrow.alloc _) ⟨W.heap.size, 0, none⟩ 1 1 [.int .i64 x.c, .int .u8 x.k, .string ⟨⟨x.s⟩⟩] rfl rfl (cells_new3 _ _ _ _ _) (by simp [Value.oneCell']) (by simp [maxLen]; omega) (by omega) (by simp; omega) ?_; intro v' w3 hown' hg3 hnil3
         obtain ⟨k1, k2, k3, k4, k5⟩ := Boxed.appended hv hne hrow hle (Nat.le_refl _) hown' hg3
         have hc3 := k1.cell
         have hf3 := k1.frozen
         obtain ⟨g', cap', cur', rfl, hbase', hgb', hr1, hr2, hr3, hr4⟩ : ∃ g' cap' cur', v' = .slice (some ⟨g', 0, none⟩) (pre.length + 1) cap' ∧ w.heap.size ≤ g' ∧ w3.heap[g']? = some (.cells cur' 31 (0, 0)) ∧ pre.length + 1 ≤ cap' ∧ cap' ≤ maxLen ∧ cur'.size = cap' * 3 ∧ cur'.toList.take ((pre.length + 1) * 3) = cellsA pre ++ [.int .i64 x.c, .int .u8 x.k, .string ⟨⟨x.s⟩⟩] := by
           rcases hown'.2 with ⟨_, h0⟩ | h'
           · exact absurd h0 (by omega)
           · exact h'
         go_frame)
      | gi_in)
    exact ⟨k4.from _, walks_of k4, ⟨_, k2, by rw [cellsA_snoc, List.length_append]; exact k3, by simp⟩, hbW.trans k5⟩
  case done =>
    rintro D xs W hD hS ⟨⟨v, hv, hrow, hnil⟩, hbW⟩ hK
    have hv0 := hv.cell
    gi_wp2
    refine ⟨by simp, .inl ⟨_, _, rfl, run_takeDeferred hK, ?_⟩⟩
    have hM : Mid w w.heap.size xs (W.putObj D (.deferred none)) := (mid_own w w.heap.size w1.heap.size (by omega)).putObj _ ⟨⟨v, hv, hrow, hnil⟩, hbW⟩ hD hK rfl
    have hv' : Boxed (W.putObj D (.deferred none)) w.heap.size 32 v := hv.kept (grownBy_putObj' W D _) (fun e => by
      cases e
      rw [show W.heap[w.heap.size]? = _ from hv] at hK
      cases hK)
    obtain ⟨⟨v2, hv2, hrow2, hnil2⟩, hb2⟩ := hM
    have e := (show _ = _ from hv2).symm.trans hv'
    simp only [Option.some.injEq, Obj.cells.injEq, Array.mk.injEq, List.cons.injEq, and_true] at e
    subst e
    exact ⟨_, results_tmp rfl _ _ _, v2, xs, rfl, hS, hrow2, hnil2, hb2⟩
  case stop =>
    rintro D c pre W hD _ h
    exact h.elim
end Go.Proofs.Yteakfibolfapiaa.It
