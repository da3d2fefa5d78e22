/- maps.Values' iterator over a chart's map: all entries come, each once. -/
import Derived.Test.YteakfibolfapiaaTrMapsK
import Derived.Test.YteakfibolfapiaaProg
import Derived.RangeFuncGives
import Derived.RangeFuncKeeps
import Derived.Shelf.AbstractIn
import Derived.RangeFuncSeq
import Derived.Sort.MapsRangeIn
import Derived.WalkKit
import Derived.OwnWalkIn
import Derived.TacticsInMore
import Derived.RegionIn
import Derived.LoopNIn
import Derived.LoopIn
namespace Go.Proofs.Yteakfibolfapiaa.It
open Go Go.RowKit Go.Maps Go.Sort Go.Shelf
set_option linter.unusedVariables false
set_option linter.unusedSimpArgs false
abbrev ML := List (Int × Value)
/-- An account. -/
structure Acc where
  c : Int
  k : Int
  s : List UInt8
  deriving Inhabited
def acV (c k : Int) (s : List UInt8) : Value := .agg ⟨[.int .i64 c, .int .u8 k, .string ⟨⟨s⟩⟩]⟩
def pr (a : Acc) : Int × Value := (a.c, acV a.c a.k a.s)
abbrev encA (a : Acc) : Array Value := #[.agg #[.int .i64 a.c, .int .u8 a.k, .string ⟨⟨a.s⟩⟩]]
def gC (m : ML) : Prop := ∀ p ∈ m, ∃ k s, p.2 = acV p.1 k s
/-! at the operations -/
section
variable {P : Program} {F : Fence} {n : Nat} {ops : Array Oper} {rest : List Oper} {o : Oper} {a : Act} {w : World} {Q : Exit → Act → World → Prop}
theorem grow_of_below {w w' : World} (h : Below w.heap.size w w') : w.grownBy w' none := ⟨h.os, h.tape, h.output, h.size, fun k hk _ => h.block k hk⟩
theorem grow_of_chg {b : Nat} {w w' : World} (h : Tr.Chg b w w') : w.grownBy w' (some b) := ⟨h.os, h.tape, h.output, h.size, fun k hk hne => h.block k hk (fun e => hne (by rw [e]))⟩
theorem wplIn_range (hg : o.guard = none) (m : Operand) (t k e : TypeId) (hop : o.op = Op.range t m) (ht : P.underlying t = some (.map k e)) (r : Nat) (l : ML) (h : Mk.IMap .i64 w r l) (hm : a.eval m = .map (some r))
    (hK : ∀ w', Mk.IIterC .i64 w' r w.heap.size l none → w.grownBy w' none → Below w.heap.size w w' → wpListIn F n P ops Q rest (a.put o.dst (.pointer (some ⟨w.heap.size, 0, none⟩))) w') : wpListIn F n P ops Q (o :: rest) a w := by
  refine wpListIn_plain hg fun K' hK' => ?_
  obtain ⟨w', hrun, r1, r2⟩ := Mk.run_range h ht
  unfold Oper.wpIn
  refine ⟨?_, ?_⟩
  · simp [Oper.about, hop]
  · rw [Oper.semAt_plain F _ _ (by rw [hop]; intro c hc'; cases hc')]
    simp [execOp, hop, hm, hrun, Result.andThen]
    exact hK' _ _ (hK w' r1.c (grow_of_below r2) r2)
theorem wplIn_next (hg : o.guard = none) (it : Operand) (hop : o.op = Op.next it false) (r i : Nat) (left : ML) (cur : Option (Int × Value)) (h : Mk.IIterC .i64 w r i left cur) (hit : a.eval it = .pointer (some ⟨i, 0, none⟩))
    (hDone : left = [] → wpListIn F n P ops Q rest (a.put o.dst (.tuple #[.bool false])) w)
    (hMore : ∀ (p : Int × Value) (left' : ML) (w' : World), left.Perm (p :: left') → Mk.IIterC .i64 w' r i left' (some p) → w.grownBy w' (some i) →
      wpListIn F n P ops Q rest (a.put o.dst (.tuple #[.bool true, .int .i64 p.1, p.2])) w') : wpListIn F n P ops Q (o :: rest) a w := by
  refine wpListIn_plain hg fun K' hK' => ?_
  unfold Oper.wpIn
  refine ⟨by simp [Oper.about, hop], ?_⟩
  rw [Oper.semAt_plain F _ _ (by rw [hop]; intro c hc'; cases hc')]
  rcases Mk.run_next (P := P) h.it o.type with ⟨h0, hrun⟩ | ⟨p, left', w', h1, hrun, h2, ⟨h3, -⟩, -⟩
  · simp [execOp, hop, hit, hrun, Result.andThen]
    exact hK' _ _ (hDone h0)
  · simp [execOp, hop, hit, hrun, Result.andThen]
    exact hK' _ _ (hMore p left' w' h1 h2 (grow_of_chg h3))
theorem wplIn_entry (hg : o.guard = none) (it : Operand) (hop : o.op = Op.entry it) (r i : Nat) (left : ML) (p : Int × Value) (h : Mk.IIterC .i64 w r i left (some p)) (hit : a.eval it = .pointer (some ⟨i, 0, none⟩))
    (hK : wpListIn F n P ops Q rest (a.put o.dst (.tuple #[.int .i64 p.1, p.2])) w) : wpListIn F n P ops Q (o :: rest) a w := by
  refine wpListIn_plain hg fun K' hK' => ?_
  unfold Oper.wpIn
  refine ⟨by simp [Oper.about, hop], ?_⟩
  rw [Oper.semAt_plain F _ _ (by rw [hop]; intro c hc'; cases hc')]
  simp [execOp, hop, hit, h.entry P, Result.andThen]
  exact hK' _ _ hK
end
theorem IIterC.walks {w w' : World} {r i : Nat} {left : ML} {cur : Option (Int × Value)} (hk : KeepsWalks w w') (h : Mk.IIterC .i64 w r i left cur) : Mk.IIterC .i64 w' r i left cur := by
  obtain ⟨E, c, s, h1, h2, h3⟩ := h
  exact ⟨E, c, s, hk.same r _ h1 rfl, hk.same i _ h2 rfl, h3⟩
theorem IIterC.grown {w w' : World} {r i : Nat} {left : ML} {cur : Option (Int × Value)} {row : Option Nat} (hg : w.grownBy w' row) (h : Mk.IIterC .i64 w r i left cur) (hr : some r ≠ row) (hi : some i ≠ row) : Mk.IIterC .i64 w' r i left cur := by
  obtain ⟨E, c, s, h1, h2, h3⟩ := h
  exact ⟨E, c, s, (hg.block r (Tr.blk_lt h1) hr).trans h1, (hg.block i (Tr.blk_lt h2) hi).trans h2, h3⟩
theorem IIterC.iter_walk {w : World} {r i : Nat} {left : ML} {cur : Option (Int × Value)} (h : Mk.IIterC .i64 w r i left cur) : ∃ o : Obj, w.heap[i]? = some o ∧ o.isWalk = true := by
  obtain ⟨E, c, s, h1, h2, h3⟩ := h
  exact ⟨_, h2, rfl⟩
set_option maxRecDepth 100000 in
set_option maxHeartbeats 1000000 in
/-- The iterator, for every loop body. -/
theorem values1 (F : Fence) (n : Nat) (hf : F.fn 65) (hro : F.round = none) (hn : 1 ≤ n) (l Bm b : Nat) (m : ML) (hm0 : gC m) (J Jx : List Acc → World → Prop)
    (hY : ∀ pre x W, J pre W → pre.length < m.length → YieldAt F (n - 1) Try.prog l (encA x) W fun e W' => (e = .returned (.bool true) ∧ J (pre ++ [x]) W' ∧ KeepsWalks W W') ∨ (e = .returned (.bool false) ∧ Jx (pre ++ [x]) W'))
    (W : World) (hJ : AbidesFrom W.heap.size J) (hm : W.cell? ⟨Bm, 0, none⟩ = some (.map (some b))) (hown : Mk.IMap .i64 W b m) (h0 : J [] W) :
    CallsIn F n Try.prog 65 #[.func (.yield l) #[] #[], .pointer (some ⟨Bm, 0, none⟩)] W fun e W' => (∃ v, e = .returned v) ∧ ((∃ xs : List Acc, (xs.map pr).Perm m ∧ J xs W') ∨ (∃ pre : List Acc, True ∧ Jx pre W')) := by
  refine callsIn_of_wp Try.func65 rfl hf ?_ hro
  simp only [Try.ntmps65, List.size_toArray, List.length_cons, List.length_nil, Nat.reduceAdd, Nat.reduceSub, Array.replicate_succ, Array.replicate_zero, List.push_toArray, List.append_toArray, List.nil_append, List.cons_append]
  gi_wp2_with (first
    | (gi_at_range; refine wplIn_range rfl _ 96 _ _ rfl Try.underlying96 b m hown rfl ?_; intro w0 hrg0 hg0 hb0)
    | gi_in)
  go_frame
  gi_loopw [4] (fun _ wr => ∃ (left : ML) (xs : List Acc) (cur : Option (Int × Value)), Mk.IIterC .i64 wr b W.heap.size left cur ∧ m.Perm (xs.map pr ++ left) ∧ J xs wr) (fun _ wr => Mk.itLeft wr W.heap.size)
  case atStart =>
    exact ⟨m, [], none, hrg0, List.Perm.refl _, hJ [] W w0 none h0 hg0 (fun r e => by cases e)⟩
  case round =>
    obtain ⟨left, xs, cur, hrg, hP, hJs⟩ := hrel
    gi_wp2_with (first
      | (gi_at_next; refine wplIn_next rfl _ rfl b W.heap.size left cur hrg rfl ?_ ?_)
      | gi_in)
    · intro h0
      subst h0
      gi_wp2
      go_end0
      exact ⟨⟨_, rfl⟩, .inl ⟨xs, by simpa using hP.symm, hJs⟩⟩
    · intro key val left' w2 hperm hrg2 hg2
      have hJ2 : J xs w2 := hJ xs wr w2 (some W.heap.size) hJs hg2 (fun r e => by cases e; exact ⟨Nat.le_refl _, IIterC.iter_walk hrg⟩)
      have hpm : (key, val) ∈ m := hP.mem_iff.2 (by simp [hperm.mem_iff])
      obtain ⟨kd, nm, hv⟩ := hm0 (key, val) hpm
      have hv : val = acV key kd nm := hv
      have hlen : xs.length < m.length := by
        have h1 := hP.length_eq
        have h2 := hperm.length_eq
        simp at h1 h2
        omega
      subst hv
      have hen : (Instr.entry (.pointer (some ⟨W.heap.size, 0, none⟩))).run Try.prog w2 = .ok (.tuple #[.int .i64 key, .agg #[.int .i64 key, .int .u8 kd, .string ⟨⟨nm⟩⟩]]) w2 := hrg2.entry Try.prog
      have hg3 : w2.grownBy (w2.alloc (.cells #[.int .i64 key, .int .u8 kd, .string ⟨⟨nm⟩⟩] 31)) none := grow_of_below ((Below.refl _ w2).alloc (Nat.le_refl _) _)
      have hJ3 := hJ xs w2 _ none hJ2 hg3 (fun r e => by cases e)
      have hrg3 := IIterC.grown hg3 hrg2 (by simp) (by simp)
      obtain ⟨fn, tmps, assign, body, hy0, hR⟩ := hY xs ⟨key, kd, nm⟩ _ hJ3 hlen
      have hy : (Instr.yield l #[.agg #[.int .i64 key, .int .u8 kd, .string ⟨⟨nm⟩⟩]]).run Try.prog (w2.alloc (.cells #[.int .i64 key, .int .u8 kd, .string ⟨⟨nm⟩⟩] 31)) = .ok (.round l fn tmps assign body) (w2.alloc (.cells #[.int .i64 key, .int .u8 kd, .string ⟨⟨nm⟩⟩] 31)) := hy0
      clear hy0
      have hP2 : m.Perm ((xs ++ [(⟨key, kd, nm⟩ : Acc)]).map pr ++ left') := by
        refine hP.trans ?_
        rw [List.map_append, List.append_assoc]
        exact List.Perm.append_left _ hperm
      have hll := hperm.length_eq
      unfold acV
      gi_wp2
      refine hR.mono ?_
      rintro e W4 (⟨rfl, hJ4, hk4⟩ | ⟨rfl, hJx4⟩)
      · have hrg4 := IIterC.walks hk4 hrg3
        gi_wp2
        go_roundw
        case rel => exact ⟨left', xs ++ [⟨key, kd, nm⟩], _, hrg4, hP2, hJ4⟩
        case measure =>
          rw [hrg4.it.left_eq, hrg.it.left_eq, hll]
          simp
      · gi_wp2
        refine bodyPost_ret (results_none rfl _ _ _) rfl ?_
        exact ⟨⟨_, rfl⟩, .inr ⟨_, trivial, hJx4⟩⟩
/-- What maps.Values hands back gives all entries. -/
theorem values_stops (F : Fence) (n : Nat) (hf : F.fn 65) (hro : F.round = none) (hn : 1 ≤ n) (Bm b : Nat) (m : ML) (hm0 : gC m) (w : World) (hBm : Bm < w.heap.size)
    (hm : w.cell? ⟨Bm, 0, none⟩ = some (.map (some b))) (hown : Mk.IMap .i64 w b m) :
    SeqStopsK F n Try.prog 65 #[.pointer (some ⟨Bm, 0, none⟩)] encA KeepsWalks (fun xs => (xs.map pr).Perm m) (fun _ => True) m.length w := fun l J Jx W hW hJ _ hY h0 =>
  values1 F n hf hro hn l Bm b m hm0 J Jx hY W hJ ((hW.cell (p := ⟨Bm, 0, none⟩) hBm).trans hm) (hown.keep hW) h0
end Go.Proofs.Yteakfibolfapiaa.It
