/- Several texts in one: Heap, AbJ, MapsK, Ab0. -/
import Derived.WalkKit
import Derived.Below
import Derived.Lib.QuietBelow
import Derived.BigQuiet
import Derived.RegionTactic
import Derived.ChangeAlike
import Derived.Deep.DeepCutAuto
import Derived.Deep.LoopGhost
import Derived.Lib.Hide
import Derived.OwnWalk
import Derived.Laws.OwnMore
import Derived.LoopTactic
import Derived.Laws.Rows
import Derived.WalkSpells
import Derived.Maps.RangeRun
section
namespace Go.Proofs.Yteakfibolfapiaa.Tr
open Go.RowKit Go.Sort
set_option linter.unusedVariables false
set_option linter.unusedSimpArgs false

theorem cell_blk {w : World} {b o : Nat} {cs : Array Value} {t : TypeId} {fr : Nat × Nat} (h : w.heap[b]? = some (.cells cs t fr)) : w.cell? ⟨b, o, none⟩ = cs[o]? := by
  simp [World.cell?, h]
theorem frozen_blk {w : World} {b o : Nat} {cs : Array Value} {t : TypeId} (h : w.heap[b]? = some (.cells cs t (0, 0))) : w.frozen? ⟨b, o, none⟩ = false := by
  simp [World.frozen?, h]
theorem blk_lt {w : World} {b : Nat} {o : Obj} (h : w.heap[b]? = some o) : b < w.heap.size := by
  rcases Nat.lt_or_ge b w.heap.size with g | g
  · exact g
  · rw [Array.getElem?_eq_none g] at h; cases h
theorem blk_below {w w' : World} {B b : Nat} {o : Obj} (hb : Below B w w') (h : w.heap[b]? = some o) (hlt : b < B) : w'.heap[b]? = some o := by rw [hb.block b hlt]; exact h
/-- What was there at a call that makes memory alone is there behind it. -/
theorem blk_keep {w w' : World} {b : Nat} {o : Obj} (hb : Below w.heap.size w w') (h : w.heap[b]? = some o) : w'.heap[b]? = some o := blk_below hb h (blk_lt h)
theorem blk_new (w : World) (o : Obj) : (w.alloc o).heap[w.heap.size]? = some o := by
  show (w.heap.push o)[w.heap.size]? = some o
  simp
theorem blk_at {w : World} {b : Nat} {o : Obj} (h : b = w.heap.size) : (w.alloc o).heap[b]? = some o := by subst h; exact blk_new w o
theorem blk_old {w : World} {b : Nat} {o x : Obj} (h : w.heap[b]? = some o) : (w.alloc x).heap[b]? = some o := by
  have := blk_lt h
  show (w.heap.push x)[b]? = some o
  rw [Array.getElem?_push_lt this, ← h, Array.getElem?_eq_getElem]
theorem blk_set {w : World} {b o : Nat} {cs : Array Value} {t : TypeId} {fr : Nat × Nat} (h : w.heap[b]? = some (.cells cs t fr)) (v : Value) :
    (w.setCell ⟨b, o, none⟩ v).heap[b]? = some (.cells (cs.setIfInBounds o v) t fr) := by
  simp [World.setCell, Array.getElem?_modify, h]
theorem blk_set_ne {w : World} {a : Addr} {b : Nat} {x : Obj} (h : w.heap[b]? = some x) (v : Value) (hne : a.block ≠ b) : (w.setCell a v).heap[b]? = some x := by
  simp [World.setCell, Array.getElem?_modify, h, hne]
def setObj (o : Nat) (v : Value) : Obj → Obj
  | .cells c e f => .cells (c.setIfInBounds o v) e f
  | x => x
theorem heap_set_same (w : World) (b o : Nat) (v : Value) : (w.setCell ⟨b, o, none⟩ v).heap[b]? = (w.heap[b]?).map (setObj o v) := by
  simp only [World.setCell, Array.getElem?_modify, if_true]
  cases w.heap[b]? with
  | none => rfl
  | some x => cases x <;> rfl
theorem heap_set_other (w : World) (a : Addr) (k : Nat) (v : Value) (h : a.block ≠ k) : (w.setCell a v).heap[k]? = w.heap[k]? := by
  simp [World.setCell, Array.getElem?_modify, h]
theorem blk_drew {w : World} {b : Nat} {x : Obj} (h : w.heap[b]? = some x) : w.drew.heap[b]? = some x := h
theorem blk_drewN {w : World} {b n : Nat} {x : Obj} (h : w.heap[b]? = some x) : (w.drewN n).heap[b]? = some x := h

theorem below_trans {B : Nat} {w w1 w2 : World} (h : Below B w w1) (g : Below w1.heap.size w1 w2) (hB : B ≤ w.heap.size := by first | exact Nat.le_refl _ | assumption | omega) : Below B w w2 :=
  ⟨g.os.trans h.os, g.tape.trans h.tape, g.output.trans h.output, Nat.le_trans h.size g.size, fun k hk => by
    rw [g.block k (Nat.lt_of_lt_of_le hk (Nat.le_trans hB h.size)), h.block k hk]⟩
theorem below_set {B : Nat} {w w1 : World} {a : Addr} {v : Value} (h : Below B w w1) (hB : B ≤ a.block) : Below B w (w1.setCell a v) := h.setCell hB v
theorem below_alloc {B : Nat} {w w1 : World} {o : Obj} (h : Below B w w1) (hB : B ≤ w.heap.size) : Below B w (w1.alloc o) := h.alloc (Nat.le_trans hB h.size) o
theorem below_drew {B : Nat} {w w1 : World} (h : Below B w w1) : Below B w w1.drew := ⟨h.os, h.tape, h.output, h.size, h.block⟩
theorem below_drewN {B n : Nat} {w w1 : World} (h : Below B w w1) : Below B w (w1.drewN n) := ⟨h.os, h.tape, h.output, h.size, h.block⟩
/-- A world of the class that a region leaves. -/
theorem below_grown {w w' : World} (h : ∃ p : Regrown, w' = grow (redrawn w p.d) p.os) : Below w.heap.size w w' := by
  obtain ⟨p, rfl⟩ := h
  exact below_regrown w p.d p.os
theorem blk_grown {w : World} {b : Nat} {x : Obj} (h : w.heap[b]? = some x) (d : Nat) (os : Array Obj) : (grow (redrawn w d) os).heap[b]? = some x := blk_keep (below_regrown w d os) h

/-! rows of the call's own -/
theorem below_of_grown {w w' : World} (h : w.grownBy w' none) : Below w.heap.size w w' := (Below.refl _ _).grown h (Nat.le_refl _) (fun _ h => by cases h)
theorem blk_of_row {w : World} {base g n cap : Nat} {e : TypeId} {xs : List Value} (h : w.ownsRow base e 1 (.slice (some ⟨g, 0, none⟩) n cap) n xs) (hc : cap = n) :
    w.heap[g]? = some (.cells xs.toArray e (0, 0)) := by
  rcases h.2 with ⟨h', _⟩ | ⟨g', cap', cur, h', _, hg, _, _, hs, ht⟩
  · simp at h'
  · simp only [Value.slice.injEq, Option.some.injEq, Addr.mk.injEq, and_true, true_and] at h'
    obtain ⟨rfl, rfl⟩ := h'
    subst hc
    rw [hg, ← ht, List.take_of_length_le (by simp; omega)]
theorem ownsRow_base {w : World} {base size n : Nat} {e : TypeId} {v : Value} {xs : List Value} (h : w.ownsRow base e size v n xs) {k : Nat} (hk : v.ownBlock = some k) : base ≤ k := by
  rcases h.2 with ⟨h0, _⟩ | ⟨g, cap, cur, hv, hb0, hg, r⟩
  · rw [h0] at hk; cases hk
  · rw [hv] at hk; simp [Value.ownBlock] at hk; omega
theorem ownsRow_keep {w w' : World} {base size n : Nat} {e : TypeId} {v : Value} {xs : List Value} (hb : Below w.heap.size w w') (h : w.ownsRow base e size v n xs) : w'.ownsRow base e size v n xs := by
  refine ⟨h.1, ?_⟩
  rcases h.2 with h0 | ⟨g, cap, cur, hv, hb0, hg, r⟩
  · exact .inl h0
  · exact .inr ⟨g, cap, cur, hv, hb0, blk_keep hb hg, r⟩

theorem news_blk {w : World} {g : Nat} {cs : Array Value} {t : TypeId} {fr : Nat × Nat} {news : List Value} (h : w.heap[g]? = some (.cells cs t fr)) (hc : cs = news.toArray) :
    ∀ (j : Nat) (u : Value), news[j]? = some u → w.cell? ((⟨g, 0, none⟩ : Addr).add j) = some u := by
  intro j u hj
  subst hc
  have e : (⟨g, 0, none⟩ : Addr).add j = ⟨g, j, none⟩ := by unfold Addr.add; split <;> simp_all
  rw [e, cell_blk h]
  simpa using hj
/-- A row of one's own out of a block that is known whole. -/
theorem ownsRow_of_blk {w : World} {base g n size : Nat} {e : TypeId} {cs : Array Value} {xs : List Value} (h : w.heap[g]? = some (.cells cs e (0, 0))) (hb : base ≤ g) (hc : cs = xs.toArray) (hn : xs.length = n * size) (hm : n ≤ maxLen) :
    w.ownsRow base e size (.slice (some ⟨g, 0, none⟩) n n) n xs := by
  subst hc
  exact ⟨hn, .inr ⟨g, n, _, rfl, hb, h, Nat.le_refl _, hm, by simpa using hn, by simp [← hn]⟩⟩
/-- What is owned is there, cell by cell. -/
theorem ownsRow_cells {w : World} {base size n : Nat} {e : TypeId} {v : Value} {xs : List Value} (h : w.ownsRow base e size v n xs) :
    ∃ a cap, v = .slice a n cap ∧ (0 < n → ∃ b, a = some ⟨b, 0, none⟩ ∧ b < w.heap.size ∧ base ≤ b ∧ ∀ j, j < n * size → w.cell? ⟨b, j, none⟩ = xs[j]?) := by
  have h' := h
  rcases h.2 with ⟨h0, hn⟩ | ⟨g, cap, cur, hv, hb, hg, hcap, hm, hs, ht⟩
  · exact ⟨none, 0, by rw [h0, hn], fun h => by omega⟩
  · subst hv
    exact ⟨_, cap, rfl, fun _ => ⟨g, rfl, blk_lt hg, hb, fun j hj => h'.cellAt j hj⟩⟩

theorem cell_alloc {w : World} {a : Addr} {u : Value} (h : w.cell? a = some u) (o : Obj) : (w.alloc o).cell? a = some u := by rw [World.cell?_alloc_lt _ _ _ (block_lt_of_cell h)]; exact h
/-- A slice of n elements of c cells each, readable. -/
def Sl (e c : Nat) (w : World) (v : Value) (n : Nat) (xs : List Value) : Prop :=
  ∃ a cap, v = .slice a n cap ∧ n ≤ cap ∧ xs.length = n * c ∧ (∀ u ∈ xs, u.oneCell' = true) ∧
    (0 < n → ∃ b off cs fz, a = some ⟨b, off, none⟩ ∧ w.heap[b]? = some (.cells cs e fz) ∧ ∀ j, j < n * c → cs[off + j]? = xs[j]?)
theorem Sl.keep {e c n : Nat} {w w' : World} {v : Value} {xs : List Value} (hb : Below w.heap.size w w') (h : Sl e c w v n xs) : Sl e c w' v n xs := by
  obtain ⟨a, cap, hv, hcap, hl, h1, h⟩ := h
  refine ⟨a, cap, hv, hcap, hl, h1, fun h0 => ?_⟩
  obtain ⟨b, off, cs, fz, ha, hg, hc⟩ := h h0
  exact ⟨b, off, cs, fz, ha, blk_keep hb hg, hc⟩
theorem Sl.of_row {w : World} {base e c n : Nat} {v : Value} {xs : List Value} (h : w.ownsRow base e c v n xs) (h1 : ∀ u ∈ xs, u.oneCell' = true) : Sl e c w v n xs := by
  rcases h.2 with ⟨hv, hn⟩ | ⟨g, cap, cur, hv, hb, hg, hcap, hm, hs, ht⟩
  · subst hv hn
    exact ⟨none, 0, rfl, Nat.le_refl _, h.1, h1, fun h => by omega⟩
  · refine ⟨_, cap, hv, hcap, h.1, h1, fun _ => ⟨g, 0, cur, _, rfl, hg, fun j hj => ?_⟩⟩
    rw [← ht, List.getElem?_take, if_pos hj]
    simp
/-- The last ones of a slice. -/
theorem Sl.drop {e c n : Nat} {w : World} {xs : List Value} {b off cap k : Nat} (h : Sl e c w (.slice (some ⟨b, off, none⟩) n cap) n xs) (hk : k ≤ n) (a' : Option Addr) (ha : k < n → a' = some ⟨b, off + k * c, none⟩) (cap' : Nat) (hc' : n - k ≤ cap') :
    Sl e c w (.slice a' (n - k) cap') (n - k) (xs.drop (k * c)) := by
  obtain ⟨a, cap0, hv, hcap, hl, h1, h⟩ := h
  simp only [Value.slice.injEq] at hv
  obtain ⟨rfl, _, rfl⟩ := hv
  refine ⟨a', cap', rfl, hc', by rw [List.length_drop, hl, Nat.sub_mul], fun u hu => h1 u (List.mem_of_mem_drop hu), fun h0 => ?_⟩
  obtain ⟨b', off', cs, fz, ha', hg, hc⟩ := h (by omega)
  simp only [Option.some.injEq, Addr.mk.injEq, and_true] at ha'
  obtain ⟨rfl, rfl⟩ := ha'
  refine ⟨b, off + k * c, cs, fz, ha (by omega), hg, fun j hj => ?_⟩
  have hj2 : k * c + j < n * c := by
    have : (n - k) * c = n * c - k * c := Nat.sub_mul ..
    have : k * c ≤ n * c := Nat.mul_le_mul_right c hk
    omega
  rw [Nat.add_assoc, hc _ hj2, List.getElem?_drop]
theorem Sl.src {e c n cap : Nat} {w : World} {p : Addr} {xs : List Value} (h : Sl e c w (.slice (some p) n cap) n xs) : ∀ (j : Nat) (u : Value), xs[j]? = some u → w.cell? (p.add j) = some u := by
  obtain ⟨a, cap0, hv, hcap, hl, h1, h⟩ := h
  simp only [Value.slice.injEq] at hv
  obtain ⟨rfl, _, rfl⟩ := hv
  intro j u hj
  have hjl : j < n * c := by rw [← hl]; rcases Nat.lt_or_ge j xs.length with g | g; exact g; rw [List.getElem?_eq_none g] at hj; cases hj
  have h0 : 0 < n := by rcases Nat.eq_zero_or_pos n with g | g; subst g; simp at hjl; exact g
  obtain ⟨b', off', cs, fz, ha', hg, hc⟩ := h h0
  cases ha'
  have e1 : (⟨b', off', none⟩ : Addr).add j = ⟨b', off' + j, none⟩ := by unfold Addr.add; split <;> simp_all
  rw [e1, cell_blk hg, hc j hjl, hj]
theorem Sl.move {e c n cap g off : Nat} {w w' : World} {xs : List Value} (h : Sl e c w (.slice (some ⟨g, off, none⟩) n cap) n xs) (he : ∀ o : Obj, w.heap[g]? = some o → w'.heap[g]? = some o) : Sl e c w' (.slice (some ⟨g, off, none⟩) n cap) n xs := by
  obtain ⟨a, cap0, hv, hcap, hl, h1, h⟩ := h
  simp only [Value.slice.injEq] at hv
  obtain ⟨rfl, _, rfl⟩ := hv
  refine ⟨_, cap, rfl, hcap, hl, h1, fun h0 => ?_⟩
  obtain ⟨b', off', cs, fz, ha', hg, hc⟩ := h h0
  simp only [Option.some.injEq, Addr.mk.injEq, and_true] at ha'
  obtain ⟨rfl, rfl⟩ := ha'
  exact ⟨g, off, cs, fz, rfl, he _ hg, hc⟩
theorem Sl.nil {e c n cap : Nat} {w : World} {xs : List Value} (h : Sl e c w (.slice none n cap) n xs) : n = 0 ∧ xs = [] := by
  obtain ⟨a, cap0, hv, hcap, hl, h1, h⟩ := h
  simp only [Value.slice.injEq] at hv
  obtain ⟨rfl, _, rfl⟩ := hv
  have hn : n = 0 := by
    rcases Nat.eq_zero_or_pos n with g | g
    · exact g
    · obtain ⟨b', off', cs, fz, ha', _⟩ := h g; cases ha'
  subst hn
  exact ⟨rfl, List.eq_nil_of_length_eq_zero (by simpa using hl)⟩
/-- One cell of an element. -/
theorem Sl.cell {e c n cap b off : Nat} {w : World} {xs : List Value} (h : Sl e c w (.slice (some ⟨b, off, none⟩) n cap) n xs) (j : Nat) (hj : j < n * c) : w.cell? ⟨b, off + j, none⟩ = xs[j]? := by
  obtain ⟨a, cap0, hv, hcap, hl, h1, h⟩ := h
  simp only [Value.slice.injEq] at hv
  obtain ⟨rfl, _, rfl⟩ := hv
  have h0 : 0 < n := by rcases Nat.eq_zero_or_pos n with g | g; subst g; simp at hj; exact g
  obtain ⟨b', off', cs, fz, ha', hg, hc⟩ := h h0
  cases ha'
  rw [cell_blk hg, hc j hj]

/-- Of what was there, one block alone may be another. -/
structure Chg (b : Nat) (w w' : World) : Prop where
  os : w'.os = w.os
  tape : w'.tape = w.tape
  output : w'.output = w.output
  size : w.heap.size ≤ w'.heap.size
  block : ∀ k, k < w.heap.size → k ≠ b → w'.heap[k]? = w.heap[k]?
theorem Chg.of_below {b : Nat} {w w' : World} (h : Below w.heap.size w w') : Chg b w w' := ⟨h.os, h.tape, h.output, h.size, fun k hk _ => h.block k hk⟩
theorem Chg.refl (b : Nat) (w : World) : Chg b w w := ⟨rfl, rfl, rfl, Nat.le_refl _, fun _ _ _ => rfl⟩
theorem Chg.trans {b : Nat} {w w1 w2 : World} (h : Chg b w w1) (g : Chg b w1 w2) : Chg b w w2 :=
  ⟨g.os.trans h.os, g.tape.trans h.tape, g.output.trans h.output, Nat.le_trans h.size g.size, fun k hk hne => by rw [g.block k (Nat.lt_of_lt_of_le hk h.size) hne, h.block k hk hne]⟩
theorem Chg.set {b : Nat} {w w1 : World} (h : Chg b w w1) (o : Nat) (v : Value) : Chg b w (w1.setCell ⟨b, o, none⟩ v) :=
  ⟨h.os, h.tape, h.output, by have := h.size; simpa [World.setCell] using this, fun k hk hne => by
    rw [← h.block k hk hne]; simp [World.setCell, Array.getElem?_modify, Ne.symm hne]⟩
/-- A store into a block that was not there. -/
theorem Chg.set_new {b : Nat} {w w1 : World} {a : Addr} (h : Chg b w w1) (v : Value) (ha : w.heap.size ≤ a.block) : Chg b w (w1.setCell a v) :=
  ⟨h.os, h.tape, h.output, by have := h.size; simpa [World.setCell] using this, fun k hk hne => by
    rw [← h.block k hk hne]; simp [World.setCell, Array.getElem?_modify]; omega⟩
theorem Chg.alloc {b : Nat} {w w1 : World} (h : Chg b w w1) (o : Obj) : Chg b w (w1.alloc o) :=
  ⟨h.os, h.tape, h.output, by have := h.size; show _ ≤ (w1.heap.push o).size; simp; omega, fun k hk hne => by
    rw [← h.block k hk hne]
    show (w1.heap.push o)[k]? = _
    have := h.size
    rw [Array.getElem?_push_lt (by omega), Array.getElem?_eq_getElem]⟩
theorem Chg.drew {b : Nat} {w w1 : World} (h : Chg b w w1) : Chg b w w1.drew := ⟨h.os, h.tape, h.output, h.size, h.block⟩
theorem Chg.drewN {b n : Nat} {w w1 : World} (h : Chg b w w1) : Chg b w (w1.drewN n) := ⟨h.os, h.tape, h.output, h.size, h.block⟩
theorem Chg.grown {b : Nat} {w w1 w2 : World} (h : Chg b w w1) (g : Below w1.heap.size w1 w2) : Chg b w w2 := h.trans (Chg.of_below g)
theorem Chg.below {b B : Nat} {w0 w w' : World} (h : Chg b w w') (g : Below B w0 w) (hB : B ≤ b) (hs : B ≤ w0.heap.size) : Below B w0 w' :=
  ⟨h.os.trans g.os, h.tape.trans g.tape, h.output.trans g.output, Nat.le_trans g.size h.size, fun k hk => by rw [h.block k (by have := g.size; omega) (by omega), g.block k hk]⟩
theorem Chg.keep {b k : Nat} {o : Obj} {w w' : World} (h : Chg b w w') (hk : w.heap[k]? = some o) (hne : k ≠ b) : w'.heap[k]? = some o := by rw [h.block k (blk_lt hk) hne]; exact hk
/-- A slice whose elements are of another type than the block's. -/
theorem Sl.chg {e c n b T : Nat} {w w' : World} {v : Value} {xs : List Value} {cs0 : Array Value} {f0 : Nat × Nat} (h : Sl e c w v n xs) (hc : Chg b w w') (hb : w.heap[b]? = some (.cells cs0 T f0)) (hT : T ≠ e) : Sl e c w' v n xs := by
  obtain ⟨a, cap, hv, hcap, hl, h1, h⟩ := h
  refine ⟨a, cap, hv, hcap, hl, h1, fun h0 => ?_⟩
  obtain ⟨b', off, cs, fz, ha, hg, hcc⟩ := h h0
  refine ⟨b', off, cs, fz, ha, hc.keep hg (fun e => ?_), hcc⟩
  subst e
  rw [hg] at hb
  simp at hb
  exact hT hb.2.1.symm

/-! results, some of them in cells -/
def ResVals (P : Program) (tmps : Array Value) (w : World) : List ResultVar → List Value → Prop
  | [], vs => vs = []
  | .tmp t :: rs, vs => ∃ v r, vs = v :: r ∧ tmps.getD t undef = v ∧ ResVals P tmps w rs r
  | .cell a t :: rs, vs => ∃ v r, vs = v :: r ∧ (∃ p, tmps.getD a undef = .pointer (some p) ∧ (loadVar t p).run P w = .ok v w) ∧ ResVals P tmps w rs r
def resOne (tmps : Array Value) : ResultVar → Sem Value
  | .tmp t => pure (tmps.getD t undef)
  | .cell a t => do loadVar t (← asAddr (tmps.getD a undef))
theorem results_list {P : Program} {tmps : Array Value} {w : World} : ∀ (rs : List ResultVar) (vs : List Value), ResVals P tmps w rs vs →
    Sem.run P (rs.mapM (resOne tmps)) w = .ok vs w := by
  intro rs
  induction rs with
  | nil => intro vs h; cases h; rfl
  | cons r rs ih =>
    intro vs h
    rw [List.mapM_cons]
    cases r with
    | tmp t =>
      obtain ⟨v, r, rfl, hv, hr⟩ := h
      simp only [Sem.run_bind, Sem.run_pure, Result.andThen, resOne, hv]
      rw [ih r hr]
    | cell a t =>
      obtain ⟨v, r, rfl, ⟨p, hp, hl⟩, hr⟩ := h
      have e : Sem.run P (asAddr (tmps.getD a undef)) w = .ok p w := by rw [hp]; rfl
      simp only [Sem.run_bind, Sem.run_pure, Result.andThen, resOne, e, hl]
      rw [ih r hr]
theorem results_run {fn : Func} {P : Program} {tmps : Array Value} {w : World} (rs : List ResultVar) (vs : List Value) (hf : fn.results = rs.toArray) (h : ResVals P tmps w rs vs) (v : Value)
    (hv : v = if h : vs.toArray.size = 1 then vs.toArray[0] else .tuple vs.toArray) : (results fn tmps).run P w = .ok v w := by
  have h1 := results_list rs vs h
  have e : results fn tmps = (do let vs ← fn.results.mapM (resOne tmps); pure (if h : vs.size = 1 then vs[0] else .tuple vs)) := by
    unfold results; rfl
  rw [e, hf, List.mapM_toArray]
  rw [show (List.toArray <$> rs.mapM (resOne tmps)) = (rs.mapM (resOne tmps) >>= fun a => pure a.toArray) from rfl]
  simp only [Sem.run_bind, h1, Result.andThen, Sem.run_pure]
  rw [hv]
theorem load_blk {P : Program} {w : World} {g : Nat} {t ty : TypeId} {cs : Array Value} {fr : Nat × Nat} {d : TypeDesc} (hg : w.heap[g]? = some (.cells cs t fr))
    (hu : P.underlying ty = some d) (hd : (match d with | .struct _ | .array _ _ => true | _ => false) = true) (hi : (P.info? ty).map (·.size) = some cs.size) :
    (loadVar ty ⟨g, 0, none⟩).run P w = .ok (.agg cs) w := run_loadVar_row w g t ty cs fr d hg hu hd hi

theorem run_eql_slice_nil_any {P : Program} (w : World) (t e : TypeId) (a : Option Addr) (n c n' c' : Nat) (h : P.underlying t = some (.slice e)) :
    (binOp .eql t (.slice a n c) (.slice none n' c')).run P w = .ok (.bool a.isNone) w := by
  simp only [binOp]
  simp [Op.equal, Op.maxDepth, Lib.run_equalIn_slice_nil w 9999 t e a n c n' c' h]

/-! max and min of two, as Lean's own -/
theorem go_max2 (k k' : IntKind) (x y : Int) : Builtin.max2 (.int k x) (.int k' y) = pure (.int k (max x y)) := by
  simp only [Builtin.max2]
  congr 2
  rw [Int.max_def]
  by_cases h : y > x
  · rw [if_pos h, if_pos (by omega)]
  · rw [if_neg h]
    split
    · omega
    · rfl
theorem go_min2 (k k' : IntKind) (x y : Int) : Builtin.min2 (.int k x) (.int k' y) = pure (.int k (min x y)) := by
  simp only [Builtin.min2]
  congr 2
  rw [Int.min_def]
  by_cases h : y < x
  · rw [if_pos h, if_neg (by omega)]
  · rw [if_neg h, if_pos (by omega)]
theorem go_max_two (ats : Array TypeId) (ty : TypeId) (a b : Value) : Builtin.max_ ats ty #[a, b] = (Builtin.max2 a b >>= fun s => pure s) := by simp only [Builtin.max_, List.foldlM_cons, List.foldlM_nil]
theorem go_min_two (ats : Array TypeId) (ty : TypeId) (a b : Value) : Builtin.min_ ats ty #[a, b] = (Builtin.min2 a b >>= fun s => pure s) := by simp only [Builtin.min_, List.foldlM_cons, List.foldlM_nil]
end Go.Proofs.Yteakfibolfapiaa.Tr
end
section
namespace Go.Proofs.Yteakfibolfapiaa.Ab
def J (_ : World) : Prop := True
/-- The structs that may be compared. -/
def eqT (t : Nat) : Bool := t == 31
/-- The variables of the program that may be read: type, number. -/
def globs (t _g : Nat) : Bool := t == 1 && t == 2
end Go.Proofs.Yteakfibolfapiaa.Ab
end
section
namespace Go.Proofs.Yteakfibolfapiaa.Mk
open Go.Proofs.Yteakfibolfapiaa.Tr
open Go.RowKit Go.Sort
open Go.ChangeMaps (setBlock)
set_option linter.unusedVariables false
set_option linter.unusedSimpArgs false

abbrev IL := List (Int × Value)
def ik (κ : IntKind) (p : Int × Value) : Value × Value := (.int κ p.1, p.2)
def look (l : IL) (k : Int) : Option Value := (l.find? (·.1 == k)).map (·.2)
def put (l : IL) (k : Int) (v : Value) : IL := match l.findIdx? (·.1 == k) with | some i => l.set i (k, v) | none => l ++ [(k, v)]
def del (l : IL) (k : Int) : IL := match l.findIdx? (·.1 == k) with | some i => l.eraseIdx i | none => l

variable {κ : IntKind}
/-! plain facts -/
theorem look_put (l : IL) (k j : Int) (v : Value) : look (put l k v) j = if j = k then some v else look l j := by
  unfold look put
  induction l with
  | nil =>
    by_cases h : j = k
    · simp [h]
    · have : ¬ k = j := fun e => h e.symm
      simp [h, this]
  | cons p l ih =>
    obtain ⟨a, b⟩ := p
    by_cases ha : a = k
    · subst ha
      simp only [List.findIdx?_cons, beq_self_eq_true, if_true, List.set_cons_zero, List.find?_cons]
      by_cases h : j = a
      · subst h; simp
      · have : (a == j) = false := by simpa using fun e : a = j => h e.symm
        simp [h, this]
    · have hak : (a == k) = false := by simpa using ha
      simp only [List.findIdx?_cons, hak, Bool.false_eq_true, if_false]
      cases hf : l.findIdx? (fun x => x.1 == k) with
      | none =>
        rw [hf] at ih
        simp only [Option.map_none, List.cons_append, List.find?_cons] at ih ⊢
        by_cases h : a = j
        · subst h; simp [ha]
        · have : (a == j) = false := by simpa using h
          simpa [this] using ih
      | some i =>
        rw [hf] at ih
        simp only [Option.map_some, List.set_cons_succ, List.find?_cons] at ih ⊢
        by_cases h : a = j
        · subst h; simp [ha]
        · have : (a == j) = false := by simpa using h
          simpa [this] using ih
theorem put_keys_mem (l : IL) (k : Int) (v : Value) (j : Int) : j ∈ (put l k v).map (·.1) ↔ j = k ∨ j ∈ l.map (·.1) := by
  unfold put
  cases hf : l.findIdx? (fun x => x.1 == k) with
  | none => simp; constructor <;> (intro h; rcases h with h | h <;> simp_all)
  | some i =>
    obtain ⟨hi, hk, _⟩ := List.findIdx?_eq_some_iff_getElem.1 hf
    have hk' : l[i].1 = k := by simpa using hk
    have e : (l.set i (k, v)).map (·.1) = l.map (·.1) := by
      rw [List.map_set]
      apply List.ext_getElem (by simp)
      intro n h1 h2
      rw [List.getElem_set]
      split
      · rename_i h; subst h; simpa using hk'.symm
      · rfl
    rw [show (match some i with | some i => l.set i (k, v) | none => l ++ [(k, v)]) = l.set i (k, v) from rfl, e]
    constructor
    · exact fun h => .inr h
    · rintro (rfl | h)
      · exact List.mem_map.2 ⟨l[i], List.getElem_mem _, hk'⟩
      · exact h
theorem put_nodup (l : IL) (k : Int) (v : Value) (h : (l.map (·.1)).Nodup) : ((put l k v).map (·.1)).Nodup := by
  unfold put
  cases hf : l.findIdx? (fun x => x.1 == k) with
  | none =>
    have hn : ∀ p ∈ l, p.1 ≠ k := by
      intro p hp
      have := List.findIdx?_eq_none_iff.1 hf p hp
      simpa using this
    simp only [List.map_append, List.map_cons, List.map_nil]
    rw [List.nodup_append]
    refine ⟨h, by simp, ?_⟩
    intro a ha b hb
    simp at hb
    subst hb
    obtain ⟨p, hp, rfl⟩ := List.mem_map.1 ha
    exact hn p hp
  | some i =>
    obtain ⟨hi, hk, _⟩ := List.findIdx?_eq_some_iff_getElem.1 hf
    have hk' : l[i].1 = k := by simpa using hk
    have e : (l.set i (k, v)).map (·.1) = l.map (·.1) := by
      rw [List.map_set]
      apply List.ext_getElem (by simp)
      intro n h1 h2
      rw [List.getElem_set]
      split
      · rename_i h; subst h; simpa using hk'.symm
      · rfl
    show ((l.set i (k, v)).map (·.1)).Nodup
    rw [e]; exact h
theorem look_mem {l : IL} {k : Int} {v : Value} (hn : (l.map (·.1)).Nodup) : look l k = some v ↔ (k, v) ∈ l := by
  unfold look
  induction l with
  | nil => simp
  | cons p l ih =>
    obtain ⟨a, b⟩ := p
    simp only [List.map_cons, List.nodup_cons] at hn
    simp only [List.find?_cons]
    by_cases h : a = k
    · subst h
      simp only [beq_self_eq_true, Option.map_some, Option.some.injEq, List.mem_cons, Prod.mk.injEq, true_and]
      constructor
      · exact fun h => .inl h.symm
      · rintro (h | h)
        · exact h.symm
        · exact absurd (List.mem_map.2 ⟨_, h, rfl⟩) hn.1
    · have : (a == k) = false := by simpa using h
      simp only [this, List.mem_cons, Prod.mk.injEq]
      rw [ih hn.2]
      constructor
      · exact fun h => .inr h
      · rintro (⟨h1, _⟩ | h1)
        · exact absurd h1.symm h
        · exact h1

/-- A map's block. -/
def IMap (κ : IntKind) (w : World) (r : Nat) (l : IL) : Prop :=
  (l.map (·.1)).Nodup ∧ ∃ E clock, w.heap[r]? = some (.map E clock) ∧ E.toList.map (fun e => (e.key, e.val)) = l.map (ik κ) ∧ (E.toList.map (·.born)).Nodup ∧ ∀ e ∈ E.toList, e.born < clock
theorem IMap.lt {w : World} {r : Nat} {l : IL} (h : IMap κ w r l) : r < w.heap.size := by
  obtain ⟨_, E, c, h1, _⟩ := h
  exact blk_lt h1
theorem IMap.keep {w w' : World} {r : Nat} {l : IL} (hb : Below w.heap.size w w') (h : IMap κ w r l) : IMap κ w' r l := by
  obtain ⟨hn, E, c, h1, h2⟩ := h
  exact ⟨hn, E, c, blk_keep hb h1, h2⟩
theorem IMap.chg {b : Nat} {w w' : World} {r : Nat} {l : IL} (hb : Chg b w w') (h : IMap κ w r l) (hne : r ≠ b) : IMap κ w' r l := by
  obtain ⟨hn, E, c, h1, h2⟩ := h
  exact ⟨hn, E, c, hb.keep h1 hne, h2⟩
theorem IMap.move {w w' : World} {r : Nat} {l : IL} (h : IMap κ w r l) (he : ∀ o : Obj, w.heap[r]? = some o → w'.heap[r]? = some o) : IMap κ w' r l := by
  obtain ⟨hn, E, c, h1, h2⟩ := h
  exact ⟨hn, E, c, he _ h1, h2⟩
theorem IMap.made {w : World} {r : Nat} (h : w.heap[r]? = some (.map #[] 0)) : IMap κ w r [] := ⟨by simp, #[], 0, h, rfl, by simp, by simp⟩

section
variable {P : Program} {w : World} {r : Nat} {l : IL} {T K e : TypeId}

theorem findNow_ik (k : Int) : ∀ (E : List MapEntry) (l : IL) (i : Nat), E.map (fun e => (e.key, e.val)) = l.map (ik κ) →
    Instr.findNow (.int κ) (.int κ k) E i = some ((l.findIdx? (·.1 == k)).bind fun j => (l[j]?).map fun p => (i + j, p.2)) := by
  intro E
  induction E with
  | nil => intro l i h; cases l with
    | nil => rfl
    | cons p l => simp at h
  | cons x E ih =>
    intro l i h
    cases l with
    | nil => simp at h
    | cons p l =>
      simp only [List.map_cons, List.cons.injEq] at h
      obtain ⟨h0, h1⟩ := h
      simp only [ik, Prod.mk.injEq] at h0
      obtain ⟨hk, hv⟩ := h0
      rw [Instr.findNow, hk]
      simp only [Instr.sameNow, if_true]
      by_cases hh : k = p.1
      · subst hh
        simp [List.findIdx?_cons, hv]
      · have h2 : (k == p.1) = false := by simpa using hh
        have h3 : (p.1 == k) = false := by simpa using fun e : p.1 = k => hh e.symm
        simp only [h2, List.findIdx?_cons, h3, Bool.false_eq_true, if_false]
        rw [ih l (i + 1) h1]
        cases l.findIdx? (fun x => x.1 == k) with
        | none => rfl
        | some j =>
          simp only [Option.map_some, Option.bind_some, List.getElem?_cons_succ]
          cases l[j]? with
          | none => rfl
          | some q => simp; omega

theorem run_findKey (hK : P.underlying K = some (.int κ)) (k : Int) (E : List MapEntry) (l : IL) (h : E.map (fun e => (e.key, e.val)) = l.map (ik κ)) (w : World) :
    (Instr.findKey K (.int κ k) E).run P w = .ok ((l.findIdx? (·.1 == k)).bind fun j => (l[j]?).map fun p => (j, p.2)) w := by
  unfold Instr.findKey
  rw [Sem.run_bind, run_underlying hK w]
  simp only [Result.andThen, findNow_ik k E l 0 h, Nat.zero_add]
  rfl
theorem run_checkKey (hK : P.underlying K = some (.int κ)) (b : Bool) (n : Nat) (k : Int) (w : World) : (Instr.checkKey b (n + 1) K (.int κ k)).run P w = .ok () w := by
  unfold Instr.checkKey
  rw [Sem.run_bind, run_underlying hK w]
  rfl
theorem idx_look (l : IL) (k : Int) : ((l.findIdx? (·.1 == k)).bind fun j => (l[j]?).map fun p => (j, p.2)).map (·.2) = look l k := by
  unfold look
  induction l with
  | nil => rfl
  | cons p l ih =>
    simp only [List.findIdx?_cons, List.find?_cons]
    cases hp : p.1 == k with
    | true => simp
    | false =>
      simp only [Bool.false_eq_true, if_false]
      rw [← ih]
      cases l.findIdx? (fun x => x.1 == k) with
      | none => rfl
      | some j =>
        simp only [Option.map_some, Option.bind_some, List.getElem?_cons_succ]
        cases l[j]? <;> rfl

/-- m[k], and 'v, ok := m[k]'. -/
theorem run_lookup (h : IMap κ w r l) (ht : P.underlying T = some (.map K e)) (hK : P.underlying K = some (.int κ)) {z : Value} (hz : (zeroValue e).run P w = .ok z w) (k : Int) (c : Bool) :
    (Instr.lookup T (.map (some r)) (.int κ k) c).run P w = .ok (if c then .tuple #[(look l k).getD z, .bool (look l k).isSome] else (look l k).getD z) w := by
  obtain ⟨hn, E, clock, hb, hE, _⟩ := h
  unfold Instr.lookup
  rw [Sem.run_bind, run_underlying ht w]
  simp only [Result.andThen]
  have hg : (getObj r).run P w = .ok (.map E clock) w := by simp [getObj, Sem.run, hb]
  simp only [Sem.run_bind, hg, Result.andThen, Sem.run_pure]
  have hc : (Instr.checkKey E.isEmpty 10000 K (.int κ k)).run P w = .ok () w := run_checkKey hK _ 9999 k w
  have hf := run_findKey hK k E.toList l hE w
  have hil := idx_look l k
  simp only [hc, hf, Sem.run_bind, Result.andThen]
  cases hx : ((l.findIdx? (·.1 == k)).bind fun j => (l[j]?).map fun p => (j, p.2)) with
  | none =>
    rw [hx] at hil
    rw [← hil]
    cases c <;> simp [Sem.run_bind, hz, Result.andThen]
  | some p =>
    rw [hx] at hil
    rw [← hil]
    cases c <;> simp [Sem.run_bind, Result.andThen]

theorem chg_setBlock {w : World} {r : Nat} (o : Obj) : Chg r w (setBlock w r o) :=
  ⟨rfl, rfl, rfl, by simp [setBlock], fun k hk hne => by simp [setBlock, Array.getElem?_setIfInBounds, Ne.symm hne]⟩
theorem blk_setBlock {w : World} {r : Nat} {o x : Obj} (h : w.heap[r]? = some x) : (setBlock w r o).heap[r]? = some o := by
  have := blk_lt h
  simp [setBlock, Array.getElem?_setIfInBounds, this]

/-- m[k] = v. -/
theorem run_update (h : IMap κ w r l) (ht : P.underlying T = some (.map K e)) (hK : P.underlying K = some (.int κ)) (k : Int) (v : Value) :
    ∃ w', (Instr.mapUpdate T (.map (some r)) (.int κ k) v).run P w = .ok () w' ∧ IMap κ w' r (put l k v) ∧ Chg r w w' ∧ w'.heap.size = w.heap.size := by
  obtain ⟨hn, E, clock, hb, hE, hbn, hlt⟩ := h
  have hg : (getObj r).run P w = .ok (.map E clock) w := by simp [getObj, Sem.run, hb]
  have hs : ∀ o : Obj, (Go.setObj r o).run P w = .ok () (setBlock w r o) := fun o => by simp [Go.setObj, Sem.run, hb, setBlock]
  have hc : (Instr.checkKey false 10000 K (.int κ k)).run P w = .ok () w := run_checkKey hK _ 9999 k w
  have hf := run_findKey hK k E.toList l hE w
  have hnd := put_nodup l k v hn
  cases hx : l.findIdx? (·.1 == k) with
  | none =>
    rw [hx] at hf
    refine ⟨setBlock w r (.map (E.push { key := .int κ k, val := v, born := clock }) (clock + 1)), ?_, ⟨hnd, _, _, blk_setBlock hb, ?_, ?_, ?_⟩, chg_setBlock _, by simp [setBlock]⟩
    · unfold Instr.mapUpdate
      rw [Sem.run_bind, run_underlying ht w]
      simp only [Result.andThen, Sem.run_bind, hg, hc, hf, Option.bind_none, hs]
    · unfold put; rw [hx]
      simp [hE, ik]
    · simp only [Array.toList_push, List.map_append, List.map_cons, List.map_nil]
      rw [List.nodup_append]
      refine ⟨hbn, by simp, ?_⟩
      intro a ha b hb'
      simp at hb'
      subst hb'
      obtain ⟨x, hx, rfl⟩ := List.mem_map.1 ha
      have := hlt x hx
      omega
    · intro x hx
      simp only [Array.toList_push, List.mem_append, List.mem_singleton] at hx
      rcases hx with hx | rfl
      · have := hlt x hx; omega
      · simp
  | some i =>
    obtain ⟨hi, hk, _⟩ := List.findIdx?_eq_some_iff_getElem.1 hx
    have hk' : l[i].1 = k := by simpa using hk
    have hlen : E.size = l.length := by have := congrArg List.length hE; simpa using this
    have hiE : i < E.size := by omega
    have hkey : E[i].key = .int κ k ∧ E[i].val = l[i].2 := by
      have := congrArg (fun z => z[i]?) hE
      simp [hiE, hi, ik] at this
      exact ⟨by rw [this.1, hk'], this.2⟩
    rw [hx] at hf
    refine ⟨setBlock w r (.map (E.modify i fun x => { x with key := .int κ k, val := v }) clock), ?_, ⟨hnd, _, _, blk_setBlock hb, ?_, ?_, ?_⟩, chg_setBlock _, by simp [setBlock]⟩
    · unfold Instr.mapUpdate
      rw [Sem.run_bind, run_underlying ht w]
      have hst : (Instr.keyThatStays (.int κ k) (.int κ k)).run P w = .ok (.int κ k) w := by
        unfold Instr.keyThatStays
        have : Instr.sameBits 10000 (.int κ k) (.int κ k) = true := by simp [Instr.sameBits]
        rw [if_pos this]; rfl
      simp only [Result.andThen, Sem.run_bind, hg, hc, hf, Option.bind_some, List.getElem?_eq_getElem hi, Option.map_some, Array.getElem?_eq_getElem hiE, Option.getD_some, hkey.1, hst, hs]
    · unfold put; rw [hx]
      apply List.ext_getElem
      · simp [hlen]
      · intro n h1 h2
        simp only [List.getElem_map, Array.getElem_toList, Array.getElem_modify, List.getElem_set]
        have hnE : n < E.size := by simpa using h1
        have hnl : n < l.length := by omega
        have := congrArg (fun z => z[n]?) hE
        simp [hnE, hnl] at this
        by_cases he : i = n
        · subst he; simp [ik]
        · simp [he, this]
    · have e : ((E.modify i fun x => { x with key := .int κ k, val := v }).toList.map (·.born)) = E.toList.map (·.born) := by
        apply List.ext_getElem
        · simp
        · intro n h1 h2
          simp only [List.getElem_map, Array.getElem_toList, Array.getElem_modify]
          split <;> simp_all
      rw [e]; exact hbn
    · intro x hx
      obtain ⟨n, hn', rfl⟩ := List.getElem_of_mem hx
      simp only [Array.getElem_toList, Array.getElem_modify]
      have hnE : n < E.size := by simpa using hn'
      split
      · show E[n].born < clock
        exact hlt E[n] (by rw [← Array.getElem_toList]; exact List.getElem_mem _)
      · exact hlt E[n] (by rw [← Array.getElem_toList]; exact List.getElem_mem _)

/-- len(m). -/
theorem IMap.size {w : World} {r : Nat} {l : IL} (h : IMap κ w r l) : ∃ E clock, w.heap[r]? = some (.map E clock) ∧ E.size = l.length := by
  obtain ⟨hn, E, clock, hb, hE, hbn, hlt⟩ := h
  exact ⟨E, clock, hb, by have := congrArg List.length hE; simpa using this⟩

/-! going through a map that isn't written meanwhile -/
/-- An iterator over a map of which some entries are still to come. -/
def IIter (κ : IntKind) (w : World) (r it : Nat) (left : IL) : Prop :=
  ∃ E clock seen, w.heap[r]? = some (.map E clock) ∧ w.heap[it]? = some (.mapIter (some r) clock seen clock) ∧ (∀ e ∈ E.toList, e.born < clock) ∧ (E.toList.map (·.born)).Nodup ∧
    (leftOf E seen).toList.map (fun e => (e.key, e.val)) = left.map (ik κ)
theorem IIter.keep {w w' : World} {r it : Nat} {left : IL} (hb : Below w.heap.size w w') (h : IIter κ w r it left) : IIter κ w' r it left := by
  obtain ⟨E, c, s, h1, h2, h3⟩ := h
  exact ⟨E, c, s, blk_keep hb h1, blk_keep hb h2, h3⟩
theorem IIter.move {w w' : World} {r it : Nat} {left : IL} (h : IIter κ w r it left) (he : ∀ k, k = r ∨ k = it → ∀ o : Obj, w.heap[k]? = some o → w'.heap[k]? = some o) : IIter κ w' r it left := by
  obtain ⟨E, c, s, h1, h2, h3⟩ := h
  exact ⟨E, c, s, he r (.inl rfl) _ h1, he it (.inr rfl) _ h2, h3⟩
theorem IIter.lt {w : World} {r it : Nat} {left : IL} (h : IIter κ w r it left) : it < w.heap.size := by
  obtain ⟨E, c, s, h1, h2, h3⟩ := h
  exact blk_lt h2

/-- The same, and the entry that came last. -/
def IIterC (κ : IntKind) (w : World) (r it : Nat) (left : IL) (cur : Option (Int × Value)) : Prop :=
  ∃ E clock seen, w.heap[r]? = some (.map E clock) ∧ w.heap[it]? = some (.mapIter (some r) clock seen clock) ∧ (∀ e ∈ E.toList, e.born < clock) ∧ (E.toList.map (·.born)).Nodup ∧
    (leftOf E seen).toList.map (fun e => (e.key, e.val)) = left.map (ik κ) ∧
    ∀ p, cur = some p → ∀ (P : Program) (u : World), u.heap[r]? = some (.map E clock) → u.heap[it]? = some (.mapIter (some r) clock seen clock) → (Instr.entry (.pointer (some ⟨it, 0, none⟩))).run P u = .ok (.tuple #[.int κ p.1, p.2]) u
theorem IIterC.it {w : World} {r i : Nat} {left : IL} {cur : Option (Int × Value)} (h : IIterC κ w r i left cur) : IIter κ w r i left := by
  obtain ⟨E, c, s, h1, h2, h3, h4, h5, -⟩ := h
  exact ⟨E, c, s, h1, h2, h3, h4, h5⟩
theorem IIter.c {w : World} {r i : Nat} {left : IL} (h : IIter κ w r i left) : IIterC κ w r i left none := by
  obtain ⟨E, c, s, h1, h2, h3, h4, h5⟩ := h
  exact ⟨E, c, s, h1, h2, h3, h4, h5, fun p hp => by cases hp⟩
theorem IIterC.entry {w : World} {r i : Nat} {left : IL} {p : Int × Value} (h : IIterC κ w r i left (some p)) (P : Program) : (Instr.entry (.pointer (some ⟨i, 0, none⟩))).run P w = .ok (.tuple #[.int κ p.1, p.2]) w := by
  obtain ⟨E, c, s, h1, h2, h3, h4, h5, h6⟩ := h
  exact h6 p rfl P w h1 h2
/-- How many are still to come. -/
def itLeft (w : World) (it : Nat) : Nat :=
  match w.heap[it]? with
  | some (.mapIter (some r) _ seen _) => (match w.heap[r]? with | some (.map E _) => (leftOf E seen).size | _ => 0)
  | _ => 0
theorem IIter.left_eq {w : World} {r it : Nat} {left : IL} (h : IIter κ w r it left) : itLeft w it = left.length := by
  obtain ⟨E, c, s, h1, h2, h3, h4, h5⟩ := h
  unfold itLeft
  rw [h2]
  dsimp only
  rw [h1]
  have := congrArg List.length h5
  simpa using this
theorem run_range (h : IMap κ w r l) (ht : P.underlying T = some (.map K e)) :
    ∃ w', (Instr.range T (.map (some r))).run P w = .ok (.pointer (some ⟨w.heap.size, 0, none⟩)) w' ∧ IIter κ w' r w.heap.size l ∧ Below w.heap.size w w' := by
  obtain ⟨hn, E, clock, hb, hE, hbn, hlt⟩ := h
  have hg : (getObj r).run P w = .ok (.map E clock) w := by simp [getObj, Sem.run, hb]
  refine ⟨w.alloc (.mapIter (some r) clock #[] clock), ?_, ⟨E, clock, #[], blk_old hb, blk_new _ _, hlt, hbn, ?_⟩, (Below.refl _ _).alloc (Nat.le_refl _) _⟩
  · unfold Instr.range
    rw [Sem.run_bind, run_underlying ht w]
    simp only [Result.andThen, Sem.run_bind, hg, Sem.run_pure, newObj, Sem.run]
    rfl
  · have e : leftOf E #[] = E := by unfold leftOf; rw [Array.filter_eq_self]; simp
    rw [e]; exact hE

theorem filter_erase {α : Type} (f : α → Nat) : ∀ (L : List α) (n : Nat) (hn : n < L.length), (L.map f).Nodup → L.filter (fun e => !(f e == f L[n])) = L.eraseIdx n := by
  intro L
  induction L with
  | nil => intro n hn; simp at hn
  | cons a L ih =>
    intro n hn hd
    simp only [List.map_cons, List.nodup_cons] at hd
    cases n with
    | zero =>
      simp only [List.getElem_cons_zero, List.filter_cons, beq_self_eq_true, Bool.not_true, Bool.false_eq_true, if_false, List.eraseIdx_zero, List.tail_cons]
      rw [List.filter_eq_self]
      intro x hx
      have : f x ≠ f a := fun e => hd.1 (e ▸ List.mem_map.2 ⟨x, hx, rfl⟩)
      simpa using this
    | succ n =>
      have hn' : n < L.length := by simpa using hn
      have hne : f a ≠ f L[n] := fun e => hd.1 (e ▸ List.mem_map.2 ⟨_, List.getElem_mem _, rfl⟩)
      have hb : (!(f a == f L[n])) = true := by simpa using hne
      simp only [List.getElem_cons_succ, List.filter_cons, hb, if_true, List.eraseIdx_cons_succ]
      rw [ih n hn' hd.2]
theorem mem_erase {α : Type} : ∀ (L : List α) (n : Nat) (hn : n < L.length) (q : α), q ∈ L ↔ q = L[n] ∨ q ∈ L.eraseIdx n := by
  intro L
  induction L with
  | nil => intro n hn; simp at hn
  | cons a L ih =>
    intro n hn q
    cases n with
    | zero => simp
    | succ n =>
      have := ih n (by simpa using hn) q
      simp only [List.mem_cons, List.getElem_cons_succ, List.eraseIdx_cons_succ]
      rw [this]
      constructor
      · rintro (h | h | h)
        · exact .inr (.inl h)
        · exact .inl h
        · exact .inr (.inr h)
      · rintro (h | h | h)
        · exact .inr (.inl h)
        · exact .inl h
        · exact .inr (.inr h)
theorem erase_perm {α : Type} : ∀ (L : List α) (n : Nat) (hn : n < L.length), L.Perm (L[n] :: L.eraseIdx n)
  | [], n, hn => by simp at hn
  | a :: L, 0, hn => by simp
  | a :: L, n + 1, hn => by
    have := erase_perm L n (by simpa using hn)
    simp only [List.getElem_cons_succ, List.eraseIdx_cons_succ]
    exact (List.Perm.cons a this).trans (List.Perm.swap _ _ _)
theorem leftOf_push (E : Array MapEntry) (seen : Array Nat) (b : Nat) : (leftOf E (seen.push b)).toList = (leftOf E seen).toList.filter (fun e => !(e.born == b)) := by
  unfold leftOf
  simp only [Array.toList_filter, List.filter_filter]
  apply List.filter_congr
  intro x _
  by_cases h : x.born = b <;> simp [h]

/-- A step: nothing is left; or one of those that are left, whichever. -/
theorem run_next {it : Nat} {left : IL} (h : IIter κ w r it left) (ty : TypeId) :
    (left = [] ∧ (Instr.next (.pointer (some ⟨it, 0, none⟩)) false ty).run P w = .ok (.tuple #[.bool false]) w) ∨
    ∃ p left' w', left.Perm (p :: left') ∧
      (Instr.next (.pointer (some ⟨it, 0, none⟩)) false ty).run P w = .ok (.tuple #[.bool true, .int κ p.1, p.2]) w' ∧ IIterC κ w' r it left' (some p) ∧ (Chg it w w' ∧ w'.heap.size = w.heap.size) ∧
      (Instr.entry (.pointer (some ⟨it, 0, none⟩))).run P w' = .ok (.tuple #[.int κ p.1, p.2]) w' := by
  obtain ⟨E, clock, seen, hb, hr, hlt, hbn, hE⟩ := h
  have hne : r ≠ it := by rintro rfl; rw [hb] at hr; simp at hr
  rcases run_next_at (P := P) w ty it r clock clock seen E clock hr hb hlt (Nat.le_refl _) with ⟨h0, hrun⟩ | ⟨x, hx, w1, hw1, hrun⟩
  · left
    refine ⟨?_, hrun⟩
    have := congrArg List.length hE
    simp [h0] at this
    exact List.eq_nil_of_length_eq_zero this.symm
  · right
    obtain ⟨n, hn, rfl⟩ := List.getElem_of_mem hx
    have hlen : (leftOf E seen).toList.length = left.length := by have := congrArg List.length hE; simpa using this
    have hnl : n < left.length := by omega
    have hp : (leftOf E seen).toList[n].key = .int κ left[n].1 ∧ (leftOf E seen).toList[n].val = left[n].2 := by
      have := congrArg (fun z => z[n]?) hE
      rw [List.getElem?_map, List.getElem?_map, List.getElem?_eq_getElem hn, List.getElem?_eq_getElem hnl] at this
      simp only [Option.map_some, Option.some.injEq, Prod.mk.injEq, ik] at this
      exact this
    have hmemE : (leftOf E seen).toList[n] ∈ E.toList := by
      have hsub' : ∀ y, y ∈ (leftOf E seen).toList → y ∈ E.toList := by
        intro y hy
        unfold leftOf at hy
        rw [Array.toList_filter] at hy
        exact (List.mem_filter.1 hy).1
      exact hsub' _ hx
    have hsub : ((leftOf E seen).toList.map (·.born)).Nodup := by
      unfold leftOf
      rw [Array.toList_filter]
      exact hbn.sublist (List.filter_sublist.map _)
    have hr1 : w1.heap[it]? = some (.mapIter (some r) clock seen clock) := by rcases hw1 with rfl | rfl <;> exact hr
    have hb1 : w1.heap[r]? = some (.map E clock) := by rcases hw1 with rfl | rfl <;> exact hb
    have hc1 : Chg it w w1 := by rcases hw1 with rfl | rfl <;> first | exact Chg.refl _ _ | exact Chg.drew (Chg.refl _ _)
    generalize hx' : (leftOf E seen).toList[n] = x at *
    have hset := blk_setBlock (o := .mapIter (some r) clock (seen.push x.born) clock) hr1
    have hmap : (setBlock w1 it (.mapIter (some r) clock (seen.push x.born) clock)).heap[r]? = some (.map E clock) := (chg_setBlock _).keep hb1 hne
    refine ⟨left[n], left.eraseIdx n, setBlock w1 it (.mapIter (some r) clock (seen.push x.born) clock), ?_, ?_, ⟨E, clock, _, hmap, hset, hlt, hbn, ?_, ?_⟩, ⟨hc1.trans (chg_setBlock _), by rw [show (setBlock w1 it (.mapIter (some r) clock (seen.push x.born) clock)).heap.size = w1.heap.size by simp [setBlock]]; rcases hw1 with rfl | rfl <;> rfl⟩, ?_⟩
    · exact erase_perm left n hnl
    · rw [hrun, hp.1, hp.2]
    · rw [leftOf_push, ← hx', filter_erase (·.born) _ n hn hsub]
      have e : ∀ {α β : Type} (f : α → β) (L : List α) (n : Nat), (L.eraseIdx n).map f = (L.map f).eraseIdx n := by
        intro α β f L
        induction L with
        | nil => intro n; rfl
        | cons a L ih => intro n; cases n with
          | zero => rfl
          | succ n => simp [ih]
      rw [e, e, hE]
    · intro q hq P' u g1 g2
      cases hq
      rw [run_entry_at (P := P') u it r clock seen E clock x g2 g1 hmemE hbn, hp.1, hp.2]
    · have := run_entry_at (P := P) (setBlock w1 it (.mapIter (some r) clock (seen.push x.born) clock)) it r clock seen E clock x hset hmap hmemE hbn
      rw [this, hp.1, hp.2]

end
end Go.Proofs.Yteakfibolfapiaa.Mk
end
section
namespace Go.Proofs.Yteakfibolfapiaa.Ab
open Go.RowKit Go.Sort
set_option linter.unusedVariables false
set_option linter.unusedSimpArgs false

/-- Data without places of its own: what never turns any more. -/
inductive D where
  | int (k : IntKind) (n : Int)
  | bool (b : Bool)
  | str (s : List UInt8)
  | nilp
  | nilsl
  | nilm
  | nili
  | agg (l : List D)
  | imm (l : List (List D))
  | fm (k : IntKind) (l : List (Int × Value))
  deriving Inhabited
/-- Values: data, and places by their numbers. -/
inductive AV where
  | d (x : D)
  | ptr (id off : Nat)
  | iptr (l : List (List D)) (i : Int) (f : Nat)
  | rptr (id c : Nat) (i : Int) (f : Nat)
  | aptr (id off n c : Nat) (i : Int) (f : Nat)
  | sl (id : Nat)
  | map (id : Nat)
  | iter (id : Nat)
  | agg (l : List AV)
  | tup (l : List AV)
  | fn (f : Nat) (caps : List AV)
  | ifc (t : Nat) (x : AV)
  | top
  | raw (v : Value)
  deriving Inhabited
/-- What stands in a place. -/
inductive Ob where
  | cells (l : List AV)
  | row (c : Nat) (l : List (List D))
  | mp (k : IntKind) (l : List (Int × Value))
  | it (k : IntKind) (e : Nat) (l : List (Int × Value)) (cur : Option (Int × Value))
  | sit (s : List UInt8) (pos : Int)
  | bag (c : Nat) (l : List (Value × List (List D)))
  deriving Inhabited
abbrev Hp := List (Nat × Ob)

mutual
def RelD (w : World) (M : Nat → Prop) : D → Value → Prop
  | .int k n, v => v = .int k n
  | .bool b, v => v = .bool b
  | .str s, v => v = .string ⟨s.toArray⟩
  | .nilp, v => v = .pointer none
  | .nilsl, v => v = .slice none 0 0
  | .nilm, v => v = .map none
  | .nili, v => v = .nilIface
  | .agg l, v => ∃ cs, v = .agg cs ∧ RelDs w M l cs.toList
  | .imm l, v => ∃ a cap, v = .slice a l.length cap ∧ l.length ≤ cap ∧
      (l = [] ∨ ∃ b off cs e fz c, a = some ⟨b, off, none⟩ ∧ w.heap[b]? = some (.cells cs e fz) ∧ ¬ M b ∧ (∀ r ∈ l, r.length = c) ∧ RelRows w M l (cs.toList.drop off))
  | .fm k l, v => ∃ r, v = .map (some r) ∧ Mk.IMap k w r l ∧ ¬ M r
def RelDs (w : World) (M : Nat → Prop) : List D → List Value → Prop
  | [], vs => vs = []
  | d :: ds, vs => ∃ v r, vs = v :: r ∧ RelD w M d v ∧ RelDs w M ds r
def RelRows (w : World) (M : Nat → Prop) : List (List D) → List Value → Prop
  | [], _ => True
  | r :: rest, vs => RelDs w M r (vs.take r.length) ∧ RelRows w M rest (vs.drop r.length)
end
/-- What a world has to keep of another one, for data to stay. -/
def Keeps (w : World) (M : Nat → Prop) (w' : World) (M' : Nat → Prop) : Prop := ∀ b o, w.heap[b]? = some o → ¬ M b → w'.heap[b]? = some o ∧ ¬ M' b
theorem Keeps.refl (w : World) (M : Nat → Prop) : Keeps w M w M := fun b o h hm => ⟨h, hm⟩
theorem Keeps.trans {w1 w2 w3 : World} {M1 M2 M3 : Nat → Prop} (h : Keeps w1 M1 w2 M2) (g : Keeps w2 M2 w3 M3) : Keeps w1 M1 w3 M3 :=
  fun b o hb hm => let ⟨h1, h2⟩ := h b o hb hm; g b o h1 h2
mutual
theorem RelD.mono {w w' : World} {M M' : Nat → Prop} (h : Keeps w M w' M') : ∀ (d : D) (v : Value), RelD w M d v → RelD w' M' d v
  | .int k n, v, r => r
  | .bool b, v, r => r
  | .str s, v, r => r
  | .nilp, v, r => r
  | .nilsl, v, r => r
  | .nilm, v, r => r
  | .nili, v, r => r
  | .agg l, v, ⟨cs, hv, r⟩ => ⟨cs, hv, RelDs.mono h l _ r⟩
  | .imm l, v, ⟨a, cap, hv, hc, r⟩ => ⟨a, cap, hv, hc, by
      rcases r with r | ⟨b, off, cs, e, fz, c, ha, hb, hm, hl, hr⟩
      · exact .inl r
      · obtain ⟨h1, h2⟩ := h b _ hb hm
        exact .inr ⟨b, off, cs, e, fz, c, ha, h1, h2, hl, RelRows.mono h l _ hr⟩⟩
  | .fm k l, v, ⟨r, hv, hm, hn⟩ => by
      obtain ⟨hd, E, c, hb, rest⟩ := hm
      obtain ⟨h1, h2⟩ := h r _ hb hn
      exact ⟨r, hv, ⟨hd, E, c, h1, rest⟩, h2⟩
theorem RelDs.mono {w w' : World} {M M' : Nat → Prop} (h : Keeps w M w' M') : ∀ (l : List D) (vs : List Value), RelDs w M l vs → RelDs w' M' l vs
  | [], vs, r => r
  | d :: ds, vs, ⟨v, rest, hv, r1, r2⟩ => ⟨v, rest, hv, RelD.mono h d v r1, RelDs.mono h ds rest r2⟩
theorem RelRows.mono {w w' : World} {M M' : Nat → Prop} (h : Keeps w M w' M') : ∀ (l : List (List D)) (vs : List Value), RelRows w M l vs → RelRows w' M' l vs
  | [], vs, r => r
  | r :: rest, vs, ⟨r1, r2⟩ => ⟨RelDs.mono h r _ r1, RelRows.mono h rest _ r2⟩
end
/-- The places by their numbers, the blocks that are others'. -/
structure Env where
  f : Nat → Option Value
  F : Nat → Prop
instance : CoeFun Env (fun _ => Nat → Option Value) := ⟨Env.f⟩
mutual
/-- A value, by the places' numbers. -/
def RelV (ρ : Env) (w : World) (M : Nat → Prop) : AV → Value → Prop
  | .d x, v => RelD w M x v
  | .ptr id off, v => ∃ b, ρ id = some (.pointer (some ⟨b, 0, none⟩)) ∧ v = .pointer (some ⟨b, off, none⟩)
  | .iptr l i f, v => ∃ b off cs e fz c, v = .pointer (some ⟨b, off + i.toNat * c + f, none⟩) ∧ 0 ≤ i ∧ w.heap[b]? = some (.cells cs e fz) ∧ ¬ M b ∧ (∀ r ∈ l, r.length = c) ∧ RelRows w M l (cs.toList.drop off)
  | .rptr id c i f, v => ∃ g n cap, ρ id = some (.slice (some ⟨g, 0, none⟩) n cap) ∧ 0 ≤ i ∧ v = .pointer (some ⟨g, i.toNat * c + f, none⟩)
  | .aptr id off n c i f, v => ∃ b, ρ id = some (.pointer (some ⟨b, 0, none⟩)) ∧ 0 ≤ i ∧ i < n ∧ v = .pointer (some ⟨b, off + i.toNat * c + f, none⟩)
  | .sl id, v => ρ id = some v ∧ ∃ a n cap, v = .slice a n cap
  | .map id, v => ρ id = some v ∧ ∃ r, v = .map (some r)
  | .iter id, v => ρ id = some v ∧ ∃ r, v = .pointer (some ⟨r, 0, none⟩)
  | .agg l, v => ∃ cs, v = .agg cs ∧ RelVs ρ w M l cs.toList
  | .tup l, v => ∃ cs, v = .tuple cs ∧ RelVs ρ w M l cs.toList
  | .fn f caps, v => ∃ cs, v = .func (.func f) #[] cs ∧ RelVs ρ w M caps cs.toList
  | .ifc t x, v => ∃ y, v = .iface t y ∧ RelV ρ w M x y
  | .top, _ => True
  | .raw v0, v => v = v0 ∧ ∃ a n cap, v0 = .slice a n cap
def RelVs (ρ : Env) (w : World) (M : Nat → Prop) : List AV → List Value → Prop
  | [], vs => vs = []
  | d :: ds, vs => ∃ v r, vs = v :: r ∧ RelV ρ w M d v ∧ RelVs ρ w M ds r
end
def EnvExt (n : Nat) (ρ ρ' : Env) : Prop := ∀ id, id < n → ρ' id = ρ id
/-- All that an environment knows stands in another one. -/
def EnvSub (ρ ρ' : Env) : Prop := ∀ id v, ρ id = some v → ρ' id = some v
theorem EnvSub.refl (ρ : Env) : EnvSub ρ ρ := fun _ _ h => h
theorem EnvSub.trans {ρ ρ' ρ'' : Env} (h : EnvSub ρ ρ') (g : EnvSub ρ' ρ'') : EnvSub ρ ρ'' := fun id v hv => g id v (h id v hv)
mutual
theorem RelV.mono {ρ ρ' : Env} {w w' : World} {M M' : Nat → Prop} (hs : EnvSub ρ ρ') (h : Keeps w M w' M') : ∀ (d : AV) (v : Value), RelV ρ w M d v → RelV ρ' w' M' d v
  | .d x, v, r => RelD.mono h x v r
  | .ptr id off, v, ⟨b, hb, hv⟩ => ⟨b, hs _ _ hb, hv⟩
  | .iptr l i f, v, ⟨b, off, cs, e, fz, c, hv, h0, hb, hm, hl, hr⟩ => by
      obtain ⟨h1, h2⟩ := h b _ hb hm
      exact ⟨b, off, cs, e, fz, c, hv, h0, h1, h2, hl, RelRows.mono h l _ hr⟩
  | .rptr id c i f, v, ⟨g, n, cap, hb, h0, hv⟩ => ⟨g, n, cap, hs _ _ hb, h0, hv⟩
  | .aptr id off n c i f, v, ⟨b, hb, h0, h1, hv⟩ => ⟨b, hs _ _ hb, h0, h1, hv⟩
  | .sl id, v, ⟨r, h2⟩ => ⟨hs _ _ r, h2⟩
  | .map id, v, ⟨r, h2⟩ => ⟨hs _ _ r, h2⟩
  | .iter id, v, ⟨r, h2⟩ => ⟨hs _ _ r, h2⟩
  | .agg l, v, ⟨cs, hv, r⟩ => ⟨cs, hv, RelVs.mono hs h l _ r⟩
  | .tup l, v, ⟨cs, hv, r⟩ => ⟨cs, hv, RelVs.mono hs h l _ r⟩
  | .fn f caps, v, ⟨cs, hv, r⟩ => ⟨cs, hv, RelVs.mono hs h caps _ r⟩
  | .ifc t x, v, ⟨y, hv, r⟩ => ⟨y, hv, RelV.mono hs h x _ r⟩
  | .top, v, r => trivial
  | .raw v0, v, r => r
theorem RelVs.mono {ρ ρ' : Env} {w w' : World} {M M' : Nat → Prop} (hs : EnvSub ρ ρ') (h : Keeps w M w' M') : ∀ (l : List AV) (vs : List Value), RelVs ρ w M l vs → RelVs ρ' w' M' l vs
  | [], vs, r => r
  | d :: ds, vs, ⟨v, rest, hv, r1, r2⟩ => ⟨v, rest, hv, RelV.mono hs h d v r1, RelVs.mono hs h ds rest r2⟩
end
/-- The block that a place's value names. -/
def blkOf : Value → Option Nat
  | .pointer (some a) => some a.block
  | .slice (some a) _ _ => some a.block
  | .map r => r
  | _ => none
/-- A block that a place's value names: of a tuple each part's. -/
def blkIn : Value → Nat → Prop
  | .tuple vs, b => ∃ v ∈ vs.toList, blkOf v = some b
  | v, b => blkOf v = some b
/-- The blocks of the places. -/
def Loc (ρ : Env) (h : Hp) (b : Nat) : Prop := ∃ id o v, (id, o) ∈ h ∧ ρ id = some v ∧ blkIn v b
/-- The blocks that may turn, or are others'. -/
def Mut (ρ : Env) (h : Hp) (b : Nat) : Prop := ρ.F b ∨ Loc ρ h b
def RelO (ρ : Env) (w : World) (M : Nat → Prop) (id : Nat) : Ob → Prop
  | .cells l => ∃ b cs ty, ρ id = some (.pointer (some ⟨b, 0, none⟩)) ∧ w.heap[b]? = some (.cells cs ty (0, 0)) ∧ RelVs ρ w M l cs.toList
  | .row c l => ∃ v xs ty, ρ id = some v ∧ 0 < c ∧ w.ownsRow 0 ty c v l.length xs ∧ (∀ r ∈ l, r.length = c) ∧ RelRows w M l xs
  | .mp k l => ∃ r, ρ id = some (.map (some r)) ∧ Mk.IMap k w r l
  | .it k e l c => ∃ b r, ρ id = some (.pointer (some ⟨b, 0, none⟩)) ∧ Mk.IIterC k w r b l c ∧ ¬ M r
  | .sit s p => ∃ b, ρ id = some (.pointer (some ⟨b, 0, none⟩)) ∧ 0 ≤ p ∧ w.heap[b]? = some (.stringIter ⟨s.toArray⟩ p.toNat)
  | .bag c l => ∃ vs, ρ id = some (.tuple vs) ∧ vs.toList = l.map (·.1) ∧ 0 < c ∧ (∀ p ∈ l, ∃ xs ty, w.ownsRow 0 ty c p.1 p.2.length xs ∧ (∀ r ∈ p.2, r.length = c) ∧ RelRows w M p.2 xs) ∧
      l.Pairwise (fun p q => ∀ b, blkOf p.1 = some b → blkOf q.1 ≠ some b)
/-- What is others' stands as it stood. -/
structure Old (ρ : Env) (w : World) : Prop where
  lt : ∀ b, ρ.F b → b < w.heap.size
  inv : J w
  stab : ∀ u u' : World, J u → (∀ b, ρ.F b → u'.heap[b]? = u.heap[b]?) → J u'
theorem Old.go {ρ : Env} {w w' : World} (o : Old ρ w) (h : ∀ b, b < w.heap.size → ρ.F b → w'.heap[b]? = w.heap[b]?) : Old ρ w' := by
  have h' : ∀ b, ρ.F b → w'.heap[b]? = w.heap[b]? := fun b hb => h b (o.lt b hb) hb
  refine ⟨fun b hb => ?_, o.stab w w' o.inv h', o.stab⟩
  have h1 := h' b hb
  rw [Array.getElem?_eq_getElem (o.lt b hb)] at h1
  exact (Array.getElem?_eq_some_iff.1 h1).1
theorem Old.as {ρ ρ' : Env} {w : World} (o : Old ρ w) (hF : ρ'.F = ρ.F) : Old ρ' w := by
  refine ⟨fun b hb => o.lt b (hF ▸ hb), o.inv, ?_⟩
  rw [hF]
  exact o.stab
structure Rep (ρ : Env) (n : Nat) (h : Hp) (w : World) : Prop where
  nodup : (h.map (·.1)).Nodup
  objs : ∀ id o, (id, o) ∈ h → RelO ρ w (Mut ρ h) id o
  inj : ∀ i o j o' v v' b, (i, o) ∈ h → (j, o') ∈ h → ρ i = some v → ρ j = some v' → blkIn v b → blkIn v' b → i = j
  fresh : ∀ id, n ≤ id → ρ id = none
  sep : ∀ id o v b, (id, o) ∈ h → ρ id = some v → blkIn v b → ¬ ρ.F b
  old : Old ρ w
/-- From one state to a later one: n0: the numbers that stay. -/
structure Goes (n0 : Nat) (ρ : Env) (h : Hp) (w : World) (ρ' : Env) (h' : Hp) (w' : World) : Prop where
  os : w'.os = w.os
  tape : w'.tape = w.tape
  output : w'.output = w.output
  size : w.heap.size ≤ w'.heap.size
  block : ∀ b, b < w.heap.size → ¬ Loc ρ h b → w'.heap[b]? = w.heap[b]?
  muts : ∀ b, b < w.heap.size → Loc ρ' h' b → Loc ρ h b
  ext : ∀ id, id < n0 → ρ' id = ρ id
  own : ρ'.F = ρ.F
theorem Goes.refl (n0 : Nat) (ρ : Env) (h : Hp) (w : World) : Goes n0 ρ h w ρ h w := ⟨rfl, rfl, rfl, Nat.le_refl _, fun _ _ _ => rfl, fun _ _ h => h, fun _ _ => rfl, rfl⟩
theorem Goes.trans {n0 : Nat} {ρ ρ1 ρ2 : Env} {h h1 h2 : Hp} {w w1 w2 : World} (g : Goes n0 ρ h w ρ1 h1 w1) (k : Goes n0 ρ1 h1 w1 ρ2 h2 w2) : Goes n0 ρ h w ρ2 h2 w2 :=
  ⟨k.os.trans g.os, k.tape.trans g.tape, k.output.trans g.output, Nat.le_trans g.size k.size,
   fun b hb hm => (k.block b (Nat.lt_of_lt_of_le hb g.size) (fun m => hm (g.muts b hb m))).trans (g.block b hb hm),
   fun b hb hm => g.muts b hb (k.muts b (Nat.lt_of_lt_of_le hb g.size) hm),
   fun id hid => (k.ext id hid).trans (g.ext id hid), k.own.trans g.own⟩
theorem lt_of_get {w : World} {b : Nat} {o : Obj} (h : w.heap[b]? = some o) : b < w.heap.size := Tr.blk_lt h
theorem Goes.keeps {n0 : Nat} {ρ ρ' : Env} {h h' : Hp} {w w' : World} (g : Goes n0 ρ h w ρ' h' w') : Keeps w (Mut ρ h) w' (Mut ρ' h') := fun b o hb hm =>
  ⟨by rw [g.block b (lt_of_get hb) (fun m => hm (.inr m))]; exact hb, fun m => hm (m.imp (fun f => by rw [g.own] at f; exact f) (g.muts b (lt_of_get hb)))⟩
theorem Goes.mono {n0 n1 : Nat} {ρ ρ' : Env} {h h' : Hp} {w w' : World} (g : Goes n1 ρ h w ρ' h' w') (hn : n0 ≤ n1) : Goes n0 ρ h w ρ' h' w' :=
  { g with ext := fun id hid => g.ext id (Nat.lt_of_lt_of_le hid hn) }
/-- Environments that only grow. -/
theorem Goes.sub {n : Nat} {ρ ρ' : Env} {h h' : Hp} {w w' : World} (g : Goes n ρ h w ρ' h' w') (hf : ∀ id, n ≤ id → ρ id = none) : EnvSub ρ ρ' := fun id v hv => by
  rcases Nat.lt_or_ge id n with hl | hl
  · rw [g.ext id hl]; exact hv
  · rw [hf id hl] at hv; cases hv

/-! lists of values -/
theorem RelVs.length {ρ : Env} {w : World} {M : Nat → Prop} : ∀ (l : List AV) (vs : List Value), RelVs ρ w M l vs → l.length = vs.length
  | [], vs, r => by rw [show vs = [] from r]; rfl
  | d :: ds, vs, ⟨v, rest, hv, r1, r2⟩ => by rw [hv, List.length_cons, List.length_cons, RelVs.length ds rest r2]
theorem RelDs.length {w : World} {M : Nat → Prop} : ∀ (l : List D) (vs : List Value), RelDs w M l vs → l.length = vs.length
  | [], vs, r => by rw [show vs = [] from r]; rfl
  | d :: ds, vs, ⟨v, rest, hv, r1, r2⟩ => by rw [hv, List.length_cons, List.length_cons, RelDs.length ds rest r2]
theorem RelVs.get {ρ : Env} {w : World} {M : Nat → Prop} : ∀ (l : List AV) (vs : List Value), RelVs ρ w M l vs → ∀ (i : Nat) (a : AV), l[i]? = some a → ∃ v, vs[i]? = some v ∧ RelV ρ w M a v
  | [], vs, r, i, a, h => by simp at h
  | d :: ds, vs, ⟨v, rest, hv, r1, r2⟩, 0, a, h => by simp at h; subst h hv; exact ⟨v, rfl, r1⟩
  | d :: ds, vs, ⟨v, rest, hv, r1, r2⟩, i + 1, a, h => by
    subst hv
    simp at h
    obtain ⟨x, hx, hr⟩ := RelVs.get ds rest r2 i a h
    exact ⟨x, by simpa using hx, hr⟩
theorem RelDs.get {w : World} {M : Nat → Prop} : ∀ (l : List D) (vs : List Value), RelDs w M l vs → ∀ (i : Nat) (a : D), l[i]? = some a → ∃ v, vs[i]? = some v ∧ RelD w M a v
  | [], vs, r, i, a, h => by simp at h
  | d :: ds, vs, ⟨v, rest, hv, r1, r2⟩, 0, a, h => by simp at h; subst h hv; exact ⟨v, rfl, r1⟩
  | d :: ds, vs, ⟨v, rest, hv, r1, r2⟩, i + 1, a, h => by
    subst hv
    simp at h
    obtain ⟨x, hx, hr⟩ := RelDs.get ds rest r2 i a h
    exact ⟨x, by simpa using hx, hr⟩
theorem RelVs.set {ρ : Env} {w : World} {M : Nat → Prop} {a : AV} {x : Value} (hx : RelV ρ w M a x) : ∀ (l : List AV) (vs : List Value), RelVs ρ w M l vs → ∀ i, RelVs ρ w M (l.set i a) (vs.set i x)
  | [], vs, r, i => by rw [r]; exact rfl
  | d :: ds, vs, ⟨v, rest, hv, r1, r2⟩, 0 => by subst hv; exact ⟨x, rest, rfl, hx, r2⟩
  | d :: ds, vs, ⟨v, rest, hv, r1, r2⟩, i + 1 => by subst hv; exact ⟨v, rest.set i x, rfl, r1, RelVs.set hx ds rest r2 i⟩
theorem RelVs.append {ρ : Env} {w : World} {M : Nat → Prop} : ∀ (l : List AV) (vs : List Value) (l' : List AV) (vs' : List Value), RelVs ρ w M l vs → RelVs ρ w M l' vs' → RelVs ρ w M (l ++ l') (vs ++ vs')
  | [], vs, l', vs', r, r' => by rw [r]; exact r'
  | d :: ds, vs, l', vs', ⟨v, rest, hv, r1, r2⟩, r' => by subst hv; exact ⟨v, rest ++ vs', rfl, r1, RelVs.append ds rest l' vs' r2 r'⟩
theorem RelDs.append {w : World} {M : Nat → Prop} : ∀ (l : List D) (vs : List Value) (l' : List D) (vs' : List Value), RelDs w M l vs → RelDs w M l' vs' → RelDs w M (l ++ l') (vs ++ vs')
  | [], vs, l', vs', r, r' => by rw [r]; exact r'
  | d :: ds, vs, l', vs', ⟨v, rest, hv, r1, r2⟩, r' => by subst hv; exact ⟨v, rest ++ vs', rfl, r1, RelDs.append ds rest l' vs' r2 r'⟩
theorem RelDs.rels {ρ : Env} {w : World} {M : Nat → Prop} : ∀ (l : List D) (vs : List Value), RelDs w M l vs → RelVs ρ w M (l.map .d) vs
  | [], vs, r => r
  | d :: ds, vs, ⟨v, rest, hv, r1, r2⟩ => ⟨v, rest, hv, r1, RelDs.rels ds rest r2⟩
theorem RelVs.take {ρ : Env} {w : World} {M : Nat → Prop} : ∀ (l : List AV) (vs : List Value), RelVs ρ w M l vs → ∀ i, RelVs ρ w M (l.take i) (vs.take i)
  | [], vs, r, i => by rw [r]; simp; exact rfl
  | d :: ds, vs, r, 0 => by simp; exact rfl
  | d :: ds, vs, ⟨v, rest, hv, r1, r2⟩, i + 1 => by subst hv; exact ⟨v, rest.take i, rfl, r1, RelVs.take ds rest r2 i⟩
theorem RelVs.drop {ρ : Env} {w : World} {M : Nat → Prop} : ∀ (l : List AV) (vs : List Value), RelVs ρ w M l vs → ∀ i, RelVs ρ w M (l.drop i) (vs.drop i)
  | [], vs, r, i => by rw [r]; simp; exact rfl
  | d :: ds, vs, r, 0 => r
  | d :: ds, vs, ⟨v, rest, hv, r1, r2⟩, i + 1 => by subst hv; exact RelVs.drop ds rest r2 i
theorem RelVs.replicate {ρ : Env} {w : World} {M : Nat → Prop} {a : AV} {x : Value} (h : RelV ρ w M a x) : ∀ n, RelVs ρ w M (List.replicate n a) (List.replicate n x)
  | 0 => rfl
  | n + 1 => ⟨x, List.replicate n x, rfl, h, RelVs.replicate h n⟩
theorem RelDs.take {w : World} {M : Nat → Prop} : ∀ (l : List D) (vs : List Value), RelDs w M l vs → ∀ i, RelDs w M (l.take i) (vs.take i)
  | [], vs, r, i => by rw [r]; simp; exact rfl
  | d :: ds, vs, r, 0 => by simp; exact rfl
  | d :: ds, vs, ⟨v, rest, hv, r1, r2⟩, i + 1 => by subst hv; exact ⟨v, rest.take i, rfl, r1, RelDs.take ds rest r2 i⟩
theorem RelDs.drop {w : World} {M : Nat → Prop} : ∀ (l : List D) (vs : List Value), RelDs w M l vs → ∀ i, RelDs w M (l.drop i) (vs.drop i)
  | [], vs, r, i => by rw [r]; simp; exact rfl
  | d :: ds, vs, r, 0 => r
  | d :: ds, vs, ⟨v, rest, hv, r1, r2⟩, i + 1 => by subst hv; exact RelDs.drop ds rest r2 i
/-- One cell of a data row. -/
theorem RelD.oneCell {w : World} {M : Nat → Prop} {d : D} {v : Value} (h : RelD w M d v) (hn : ∀ l, d ≠ .agg l) : v.oneCell' = true := by
  cases d with
  | int k n => cases h; rfl
  | bool b => cases h; rfl
  | str s => cases h; rfl
  | nilp => cases h; rfl
  | nilsl => cases h; rfl
  | nilm => cases h; rfl
  | nili => cases h; rfl
  | agg l => exact absurd rfl (hn l)
  | imm l => obtain ⟨a, cap, rfl, -⟩ := h; rfl
  | fm k l => obtain ⟨r, rfl, -⟩ := h; rfl
theorem RelRows.get {w : World} {M : Nat → Prop} {c : Nat} : ∀ (l : List (List D)) (vs : List Value), RelRows w M l vs → (∀ r ∈ l, r.length = c) → ∀ (i : Nat) (r : List D), l[i]? = some r → RelDs w M r ((vs.drop (i * c)).take c)
  | [], vs, _, _, i, r, h => by simp at h
  | r0 :: rest, vs, ⟨r1, r2⟩, hl, 0, r, h => by
    simp at h
    subst h
    have := hl r0 (by simp)
    simpa [this] using r1
  | r0 :: rest, vs, ⟨r1, r2⟩, hl, i + 1, r, h => by
    simp at h
    have h0 := hl r0 (by simp)
    have := RelRows.get rest _ r2 (fun x hx => hl x (by simp [hx])) i r h
    rw [List.drop_drop, h0] at this
    rw [Nat.add_mul, Nat.one_mul, Nat.add_comm]
    exact this
end Go.Proofs.Yteakfibolfapiaa.Ab
end
