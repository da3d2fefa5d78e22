/- Small words on worlds: a block known whole, its cells; 'Below' over steps. No program in sight. -/
import Derived.WalkKit
import Derived.Below
import Derived.Lib.QuietBelow
import Derived.BigQuiet
import Derived.RegionTactic
import Derived.ChangeAlike
import Derived.Deep.DeepCutAuto
import Derived.Deep.LoopGhost
import Derived.Lib.Hide
import Derived.OwnWalk
import Derived.Laws.OwnMore
import Derived.LoopTactic
namespace Go.Proofs.Ytjkfkgpdlflbhaa.Tr
open Go.RowKit Go.Sort
set_option linter.unusedVariables false
set_option linter.unusedSimpArgs false

theorem cell_blk {w : World} {b o : Nat} {cs : Array Value} {t : TypeId} {fr : Nat × Nat} (h : w.heap[b]? = some (.cells cs t fr)) : w.cell? ⟨b, o, none⟩ = cs[o]? := by
  simp [World.cell?, h]
theorem frozen_blk {w : World} {b o : Nat} {cs : Array Value} {t : TypeId} (h : w.heap[b]? = some (.cells cs t (0, 0))) : w.frozen? ⟨b, o, none⟩ = false := by
  simp [World.frozen?, h]
theorem blk_lt {w : World} {b : Nat} {o : Obj} (h : w.heap[b]? = some o) : b < w.heap.size := by
  rcases Nat.lt_or_ge b w.heap.size with g | g
  · exact g
  · rw [Array.getElem?_eq_none g] at h; cases h
theorem blk_below {w w' : World} {B b : Nat} {o : Obj} (hb : Below B w w') (h : w.heap[b]? = some o) (hlt : b < B) : w'.heap[b]? = some o := by rw [hb.block b hlt]; exact h
/-- What was there at a call that makes memory alone is there behind it. -/
theorem blk_keep {w w' : World} {b : Nat} {o : Obj} (hb : Below w.heap.size w w') (h : w.heap[b]? = some o) : w'.heap[b]? = some o := blk_below hb h (blk_lt h)
theorem blk_new (w : World) (o : Obj) : (w.alloc o).heap[w.heap.size]? = some o := by
  show (w.heap.push o)[w.heap.size]? = some o
  simp
theorem blk_at {w : World} {b : Nat} {o : Obj} (h : b = w.heap.size) : (w.alloc o).heap[b]? = some o := by subst h; exact blk_new w o
theorem blk_old {w : World} {b : Nat} {o x : Obj} (h : w.heap[b]? = some o) : (w.alloc x).heap[b]? = some o := by
  have := blk_lt h
  show (w.heap.push x)[b]? = some o
  rw [Array.getElem?_push_lt this, ← h, Array.getElem?_eq_getElem]
theorem blk_set {w : World} {b o : Nat} {cs : Array Value} {t : TypeId} {fr : Nat × Nat} (h : w.heap[b]? = some (.cells cs t fr)) (v : Value) :
    (w.setCell ⟨b, o, none⟩ v).heap[b]? = some (.cells (cs.setIfInBounds o v) t fr) := by
  simp [World.setCell, Array.getElem?_modify, h]
theorem blk_set_ne {w : World} {a : Addr} {b : Nat} {x : Obj} (h : w.heap[b]? = some x) (v : Value) (hne : a.block ≠ b) : (w.setCell a v).heap[b]? = some x := by
  simp [World.setCell, Array.getElem?_modify, h, hne]
theorem blk_drew {w : World} {b : Nat} {x : Obj} (h : w.heap[b]? = some x) : w.drew.heap[b]? = some x := h
theorem blk_drewN {w : World} {b n : Nat} {x : Obj} (h : w.heap[b]? = some x) : (w.drewN n).heap[b]? = some x := h

theorem below_trans {B : Nat} {w w1 w2 : World} (h : Below B w w1) (g : Below w1.heap.size w1 w2) (hB : B ≤ w.heap.size := by first | exact Nat.le_refl _ | assumption | omega) : Below B w w2 :=
  ⟨g.os.trans h.os, g.tape.trans h.tape, g.output.trans h.output, Nat.le_trans h.size g.size, fun k hk => by
    rw [g.block k (Nat.lt_of_lt_of_le hk (Nat.le_trans hB h.size)), h.block k hk]⟩
theorem below_set {B : Nat} {w w1 : World} {a : Addr} {v : Value} (h : Below B w w1) (hB : B ≤ a.block) : Below B w (w1.setCell a v) := h.setCell hB v
theorem below_alloc {B : Nat} {w w1 : World} {o : Obj} (h : Below B w w1) (hB : B ≤ w.heap.size) : Below B w (w1.alloc o) := h.alloc (Nat.le_trans hB h.size) o
theorem below_drew {B : Nat} {w w1 : World} (h : Below B w w1) : Below B w w1.drew := ⟨h.os, h.tape, h.output, h.size, h.block⟩
theorem below_drewN {B n : Nat} {w w1 : World} (h : Below B w w1) : Below B w (w1.drewN n) := ⟨h.os, h.tape, h.output, h.size, h.block⟩
/-- A world of the class that a region leaves. -/
theorem below_grown {w w' : World} (h : ∃ p : Regrown, w' = grow (redrawn w p.d) p.os) : Below w.heap.size w w' := by
  obtain ⟨p, rfl⟩ := h
  exact below_regrown w p.d p.os
theorem blk_grown {w : World} {b : Nat} {x : Obj} (h : w.heap[b]? = some x) (d : Nat) (os : Array Obj) : (grow (redrawn w d) os).heap[b]? = some x := blk_keep (below_regrown w d os) h

/-! rows of the call's own -/
theorem below_of_grown {w w' : World} (h : w.grownBy w' none) : Below w.heap.size w w' := (Below.refl _ _).grown h (Nat.le_refl _) (fun _ h => by cases h)
theorem blk_of_row {w : World} {base g n cap : Nat} {e : TypeId} {xs : List Value} (h : w.ownsRow base e 1 (.slice (some ⟨g, 0, none⟩) n cap) n xs) (hc : cap = n) :
    w.heap[g]? = some (.cells xs.toArray e (0, 0)) := by
  rcases h.2 with ⟨h', _⟩ | ⟨g', cap', cur, h', _, hg, _, _, hs, ht⟩
  · simp at h'
  · simp only [Value.slice.injEq, Option.some.injEq, Addr.mk.injEq, and_true, true_and] at h'
    obtain ⟨rfl, rfl⟩ := h'
    subst hc
    rw [hg, ← ht, List.take_of_length_le (by simp; omega)]
theorem ownsRow_keep {w w' : World} {base size n : Nat} {e : TypeId} {v : Value} {xs : List Value} (hb : Below w.heap.size w w') (h : w.ownsRow base e size v n xs) : w'.ownsRow base e size v n xs := by
  refine ⟨h.1, ?_⟩
  rcases h.2 with h0 | ⟨g, cap, cur, hv, hb0, hg, r⟩
  · exact .inl h0
  · exact .inr ⟨g, cap, cur, hv, hb0, blk_keep hb hg, r⟩

/-! max and min of two, as Lean's own -/
theorem go_max2 (k k' : IntKind) (x y : Int) : Builtin.max2 (.int k x) (.int k' y) = pure (.int k (max x y)) := by
  simp only [Builtin.max2]
  congr 2
  rw [Int.max_def]
  by_cases h : y > x
  · rw [if_pos h, if_pos (by omega)]
  · rw [if_neg h]
    split
    · omega
    · rfl
theorem go_min2 (k k' : IntKind) (x y : Int) : Builtin.min2 (.int k x) (.int k' y) = pure (.int k (min x y)) := by
  simp only [Builtin.min2]
  congr 2
  rw [Int.min_def]
  by_cases h : y < x
  · rw [if_pos h, if_neg (by omega)]
  · rw [if_neg h, if_pos (by omega)]
theorem go_max_two (ats : Array TypeId) (ty : TypeId) (a b : Value) : Builtin.max_ ats ty #[a, b] = (Builtin.max2 a b >>= fun s => pure s) := by simp only [Builtin.max_, List.foldlM_cons, List.foldlM_nil]
theorem go_min_two (ats : Array TypeId) (ty : TypeId) (a b : Value) : Builtin.min_ ats ty #[a, b] = (Builtin.min2 a b >>= fun s => pure s) := by simp only [Builtin.min_, List.foldlM_cons, List.foldlM_nil]
end Go.Proofs.Ytjkfkgpdlflbhaa.Tr
