/- Small words on worlds: a block known whole, its cells; 'Below' over steps. No program in sight. -/
import Derived.WalkKit
import Derived.Below
import Derived.Lib.QuietBelow
import Derived.BigQuiet
import Derived.RegionTactic
import Derived.ChangeAlike
import Derived.Deep.DeepCutAuto
import Derived.Deep.LoopGhost
import Derived.Lib.Hide
import Derived.OwnWalk
import Derived.Laws.OwnMore
import Derived.LoopTactic
import Derived.Laws.Rows
import Derived.WalkSpells
namespace Go.Proofs.Yteakfibolfapiaa.Tr
open Go.RowKit Go.Sort
set_option linter.unusedVariables false
set_option linter.unusedSimpArgs false

theorem cell_blk {w : World} {b o : Nat} {cs : Array Value} {t : TypeId} {fr : Nat × Nat} (h : w.heap[b]? = some (.cells cs t fr)) : w.cell? ⟨b, o, none⟩ = cs[o]? := by
  simp [World.cell?, h]
theorem frozen_blk {w : World} {b o : Nat} {cs : Array Value} {t : TypeId} (h : w.heap[b]? = some (.cells cs t (0, 0))) : w.frozen? ⟨b, o, none⟩ = false := by
  simp [World.frozen?, h]
theorem blk_lt {w : World} {b : Nat} {o : Obj} (h : w.heap[b]? = some o) : b < w.heap.size := by
  rcases Nat.lt_or_ge b w.heap.size with g | g
  · exact g
  · rw [Array.getElem?_eq_none g] at h; cases h
theorem blk_below {w w' : World} {B b : Nat} {o : Obj} (hb : Below B w w') (h : w.heap[b]? = some o) (hlt : b < B) : w'.heap[b]? = some o := by rw [hb.block b hlt]; exact h
/-- What was there at a call that makes memory alone is there behind it. -/
theorem blk_keep {w w' : World} {b : Nat} {o : Obj} (hb : Below w.heap.size w w') (h : w.heap[b]? = some o) : w'.heap[b]? = some o := blk_below hb h (blk_lt h)
theorem blk_new (w : World) (o : Obj) : (w.alloc o).heap[w.heap.size]? = some o := by
  show (w.heap.push o)[w.heap.size]? = some o
  simp
theorem blk_at {w : World} {b : Nat} {o : Obj} (h : b = w.heap.size) : (w.alloc o).heap[b]? = some o := by subst h; exact blk_new w o
theorem blk_old {w : World} {b : Nat} {o x : Obj} (h : w.heap[b]? = some o) : (w.alloc x).heap[b]? = some o := by
  have := blk_lt h
  show (w.heap.push x)[b]? = some o
  rw [Array.getElem?_push_lt this, ← h, Array.getElem?_eq_getElem]
theorem blk_set {w : World} {b o : Nat} {cs : Array Value} {t : TypeId} {fr : Nat × Nat} (h : w.heap[b]? = some (.cells cs t fr)) (v : Value) :
    (w.setCell ⟨b, o, none⟩ v).heap[b]? = some (.cells (cs.setIfInBounds o v) t fr) := by
  simp [World.setCell, Array.getElem?_modify, h]
theorem blk_set_ne {w : World} {a : Addr} {b : Nat} {x : Obj} (h : w.heap[b]? = some x) (v : Value) (hne : a.block ≠ b) : (w.setCell a v).heap[b]? = some x := by
  simp [World.setCell, Array.getElem?_modify, h, hne]
def setObj (o : Nat) (v : Value) : Obj → Obj
  | .cells c e f => .cells (c.setIfInBounds o v) e f
  | x => x
theorem heap_set_same (w : World) (b o : Nat) (v : Value) : (w.setCell ⟨b, o, none⟩ v).heap[b]? = (w.heap[b]?).map (setObj o v) := by
  simp only [World.setCell, Array.getElem?_modify, if_true]
  cases w.heap[b]? with
  | none => rfl
  | some x => cases x <;> rfl
theorem heap_set_other (w : World) (a : Addr) (k : Nat) (v : Value) (h : a.block ≠ k) : (w.setCell a v).heap[k]? = w.heap[k]? := by
  simp [World.setCell, Array.getElem?_modify, h]
theorem blk_drew {w : World} {b : Nat} {x : Obj} (h : w.heap[b]? = some x) : w.drew.heap[b]? = some x := h
theorem blk_drewN {w : World} {b n : Nat} {x : Obj} (h : w.heap[b]? = some x) : (w.drewN n).heap[b]? = some x := h

theorem below_trans {B : Nat} {w w1 w2 : World} (h : Below B w w1) (g : Below w1.heap.size w1 w2) (hB : B ≤ w.heap.size := by first | exact Nat.le_refl _ | assumption | omega) : Below B w w2 :=
  ⟨g.os.trans h.os, g.tape.trans h.tape, g.output.trans h.output, Nat.le_trans h.size g.size, fun k hk => by
    rw [g.block k (Nat.lt_of_lt_of_le hk (Nat.le_trans hB h.size)), h.block k hk]⟩
theorem below_set {B : Nat} {w w1 : World} {a : Addr} {v : Value} (h : Below B w w1) (hB : B ≤ a.block) : Below B w (w1.setCell a v) := h.setCell hB v
theorem below_alloc {B : Nat} {w w1 : World} {o : Obj} (h : Below B w w1) (hB : B ≤ w.heap.size) : Below B w (w1.alloc o) := h.alloc (Nat.le_trans hB h.size) o
theorem below_drew {B : Nat} {w w1 : World} (h : Below B w w1) : Below B w w1.drew := ⟨h.os, h.tape, h.output, h.size, h.block⟩
theorem below_drewN {B n : Nat} {w w1 : World} (h : Below B w w1) : Below B w (w1.drewN n) := ⟨h.os, h.tape, h.output, h.size, h.block⟩
/-- A world of the class that a region leaves. -/
theorem below_grown {w w' : World} (h : ∃ p : Regrown, w' = grow (redrawn w p.d) p.os) : Below w.heap.size w w' := by
  obtain ⟨p, rfl⟩ := h
  exact below_regrown w p.d p.os
theorem blk_grown {w : World} {b : Nat} {x : Obj} (h : w.heap[b]? = some x) (d : Nat) (os : Array Obj) : (grow (redrawn w d) os).heap[b]? = some x := blk_keep (below_regrown w d os) h

/-! rows of the call's own -/
theorem below_of_grown {w w' : World} (h : w.grownBy w' none) : Below w.heap.size w w' := (Below.refl _ _).grown h (Nat.le_refl _) (fun _ h => by cases h)
theorem blk_of_row {w : World} {base g n cap : Nat} {e : TypeId} {xs : List Value} (h : w.ownsRow base e 1 (.slice (some ⟨g, 0, none⟩) n cap) n xs) (hc : cap = n) :
    w.heap[g]? = some (.cells xs.toArray e (0, 0)) := by
  rcases h.2 with ⟨h', _⟩ | ⟨g', cap', cur, h', _, hg, _, _, hs, ht⟩
  · simp at h'
  · simp only [Value.slice.injEq, Option.some.injEq, Addr.mk.injEq, and_true, true_and] at h'
    obtain ⟨rfl, rfl⟩ := h'
    subst hc
    rw [hg, ← ht, List.take_of_length_le (by simp; omega)]
theorem ownsRow_base {w : World} {base size n : Nat} {e : TypeId} {v : Value} {xs : List Value} (h : w.ownsRow base e size v n xs) {k : Nat} (hk : v.ownBlock = some k) : base ≤ k := by
  rcases h.2 with ⟨h0, _⟩ | ⟨g, cap, cur, hv, hb0, hg, r⟩
  · rw [h0] at hk; cases hk
  · rw [hv] at hk; simp [Value.ownBlock] at hk; omega
theorem ownsRow_keep {w w' : World} {base size n : Nat} {e : TypeId} {v : Value} {xs : List Value} (hb : Below w.heap.size w w') (h : w.ownsRow base e size v n xs) : w'.ownsRow base e size v n xs := by
  refine ⟨h.1, ?_⟩
  rcases h.2 with h0 | ⟨g, cap, cur, hv, hb0, hg, r⟩
  · exact .inl h0
  · exact .inr ⟨g, cap, cur, hv, hb0, blk_keep hb hg, r⟩

theorem news_blk {w : World} {g : Nat} {cs : Array Value} {t : TypeId} {fr : Nat × Nat} {news : List Value} (h : w.heap[g]? = some (.cells cs t fr)) (hc : cs = news.toArray) :
    ∀ (j : Nat) (u : Value), news[j]? = some u → w.cell? ((⟨g, 0, none⟩ : Addr).add j) = some u := by
  intro j u hj
  subst hc
  have e : (⟨g, 0, none⟩ : Addr).add j = ⟨g, j, none⟩ := by unfold Addr.add; split <;> simp_all
  rw [e, cell_blk h]
  simpa using hj
/-- A row of one's own out of a block that is known whole. -/
theorem ownsRow_of_blk {w : World} {base g n size : Nat} {e : TypeId} {cs : Array Value} {xs : List Value} (h : w.heap[g]? = some (.cells cs e (0, 0))) (hb : base ≤ g) (hc : cs = xs.toArray) (hn : xs.length = n * size) (hm : n ≤ maxLen) :
    w.ownsRow base e size (.slice (some ⟨g, 0, none⟩) n n) n xs := by
  subst hc
  exact ⟨hn, .inr ⟨g, n, _, rfl, hb, h, Nat.le_refl _, hm, by simpa using hn, by simp [← hn]⟩⟩
/-- What is owned is there, cell by cell. -/
theorem ownsRow_cells {w : World} {base size n : Nat} {e : TypeId} {v : Value} {xs : List Value} (h : w.ownsRow base e size v n xs) :
    ∃ a cap, v = .slice a n cap ∧ (0 < n → ∃ b, a = some ⟨b, 0, none⟩ ∧ b < w.heap.size ∧ base ≤ b ∧ ∀ j, j < n * size → w.cell? ⟨b, j, none⟩ = xs[j]?) := by
  have h' := h
  rcases h.2 with ⟨h0, hn⟩ | ⟨g, cap, cur, hv, hb, hg, hcap, hm, hs, ht⟩
  · exact ⟨none, 0, by rw [h0, hn], fun h => by omega⟩
  · subst hv
    exact ⟨_, cap, rfl, fun _ => ⟨g, rfl, blk_lt hg, hb, fun j hj => h'.cellAt j hj⟩⟩

theorem cell_alloc {w : World} {a : Addr} {u : Value} (h : w.cell? a = some u) (o : Obj) : (w.alloc o).cell? a = some u := by rw [World.cell?_alloc_lt _ _ _ (block_lt_of_cell h)]; exact h
/-- A slice of n elements of c cells each, readable. -/
def Sl (e c : Nat) (w : World) (v : Value) (n : Nat) (xs : List Value) : Prop :=
  ∃ a cap, v = .slice a n cap ∧ n ≤ cap ∧ xs.length = n * c ∧ (∀ u ∈ xs, u.oneCell' = true) ∧
    (0 < n → ∃ b off cs fz, a = some ⟨b, off, none⟩ ∧ w.heap[b]? = some (.cells cs e fz) ∧ ∀ j, j < n * c → cs[off + j]? = xs[j]?)
theorem Sl.keep {e c n : Nat} {w w' : World} {v : Value} {xs : List Value} (hb : Below w.heap.size w w') (h : Sl e c w v n xs) : Sl e c w' v n xs := by
  obtain ⟨a, cap, hv, hcap, hl, h1, h⟩ := h
  refine ⟨a, cap, hv, hcap, hl, h1, fun h0 => ?_⟩
  obtain ⟨b, off, cs, fz, ha, hg, hc⟩ := h h0
  exact ⟨b, off, cs, fz, ha, blk_keep hb hg, hc⟩
theorem Sl.of_row {w : World} {base e c n : Nat} {v : Value} {xs : List Value} (h : w.ownsRow base e c v n xs) (h1 : ∀ u ∈ xs, u.oneCell' = true) : Sl e c w v n xs := by
  rcases h.2 with ⟨hv, hn⟩ | ⟨g, cap, cur, hv, hb, hg, hcap, hm, hs, ht⟩
  · subst hv hn
    exact ⟨none, 0, rfl, Nat.le_refl _, h.1, h1, fun h => by omega⟩
  · refine ⟨_, cap, hv, hcap, h.1, h1, fun _ => ⟨g, 0, cur, _, rfl, hg, fun j hj => ?_⟩⟩
    rw [← ht, List.getElem?_take, if_pos hj]
    simp
/-- The last ones of a slice. -/
theorem Sl.drop {e c n : Nat} {w : World} {xs : List Value} {b off cap k : Nat} (h : Sl e c w (.slice (some ⟨b, off, none⟩) n cap) n xs) (hk : k ≤ n) (a' : Option Addr) (ha : k < n → a' = some ⟨b, off + k * c, none⟩) (cap' : Nat) (hc' : n - k ≤ cap') :
    Sl e c w (.slice a' (n - k) cap') (n - k) (xs.drop (k * c)) := by
  obtain ⟨a, cap0, hv, hcap, hl, h1, h⟩ := h
  simp only [Value.slice.injEq] at hv
  obtain ⟨rfl, _, rfl⟩ := hv
  refine ⟨a', cap', rfl, hc', by rw [List.length_drop, hl, Nat.sub_mul], fun u hu => h1 u (List.mem_of_mem_drop hu), fun h0 => ?_⟩
  obtain ⟨b', off', cs, fz, ha', hg, hc⟩ := h (by omega)
  simp only [Option.some.injEq, Addr.mk.injEq, and_true] at ha'
  obtain ⟨rfl, rfl⟩ := ha'
  refine ⟨b, off + k * c, cs, fz, ha (by omega), hg, fun j hj => ?_⟩
  have hj2 : k * c + j < n * c := by
    have : (n - k) * c = n * c - k * c := Nat.sub_mul ..
    have : k * c ≤ n * c := Nat.mul_le_mul_right c hk
    omega
  rw [Nat.add_assoc, hc _ hj2, List.getElem?_drop]
theorem Sl.src {e c n cap : Nat} {w : World} {p : Addr} {xs : List Value} (h : Sl e c w (.slice (some p) n cap) n xs) : ∀ (j : Nat) (u : Value), xs[j]? = some u → w.cell? (p.add j) = some u := by
  obtain ⟨a, cap0, hv, hcap, hl, h1, h⟩ := h
  simp only [Value.slice.injEq] at hv
  obtain ⟨rfl, _, rfl⟩ := hv
  intro j u hj
  have hjl : j < n * c := by rw [← hl]; rcases Nat.lt_or_ge j xs.length with g | g; exact g; rw [List.getElem?_eq_none g] at hj; cases hj
  have h0 : 0 < n := by rcases Nat.eq_zero_or_pos n with g | g; subst g; simp at hjl; exact g
  obtain ⟨b', off', cs, fz, ha', hg, hc⟩ := h h0
  cases ha'
  have e1 : (⟨b', off', none⟩ : Addr).add j = ⟨b', off' + j, none⟩ := by unfold Addr.add; split <;> simp_all
  rw [e1, cell_blk hg, hc j hjl, hj]
theorem Sl.move {e c n cap g off : Nat} {w w' : World} {xs : List Value} (h : Sl e c w (.slice (some ⟨g, off, none⟩) n cap) n xs) (he : ∀ o : Obj, w.heap[g]? = some o → w'.heap[g]? = some o) : Sl e c w' (.slice (some ⟨g, off, none⟩) n cap) n xs := by
  obtain ⟨a, cap0, hv, hcap, hl, h1, h⟩ := h
  simp only [Value.slice.injEq] at hv
  obtain ⟨rfl, _, rfl⟩ := hv
  refine ⟨_, cap, rfl, hcap, hl, h1, fun h0 => ?_⟩
  obtain ⟨b', off', cs, fz, ha', hg, hc⟩ := h h0
  simp only [Option.some.injEq, Addr.mk.injEq, and_true] at ha'
  obtain ⟨rfl, rfl⟩ := ha'
  exact ⟨g, off, cs, fz, rfl, he _ hg, hc⟩
theorem Sl.nil {e c n cap : Nat} {w : World} {xs : List Value} (h : Sl e c w (.slice none n cap) n xs) : n = 0 ∧ xs = [] := by
  obtain ⟨a, cap0, hv, hcap, hl, h1, h⟩ := h
  simp only [Value.slice.injEq] at hv
  obtain ⟨rfl, _, rfl⟩ := hv
  have hn : n = 0 := by
    rcases Nat.eq_zero_or_pos n with g | g
    · exact g
    · obtain ⟨b', off', cs, fz, ha', _⟩ := h g; cases ha'
  subst hn
  exact ⟨rfl, List.eq_nil_of_length_eq_zero (by simpa using hl)⟩
/-- One cell of an element. -/
theorem Sl.cell {e c n cap b off : Nat} {w : World} {xs : List Value} (h : Sl e c w (.slice (some ⟨b, off, none⟩) n cap) n xs) (j : Nat) (hj : j < n * c) : w.cell? ⟨b, off + j, none⟩ = xs[j]? := by
  obtain ⟨a, cap0, hv, hcap, hl, h1, h⟩ := h
  simp only [Value.slice.injEq] at hv
  obtain ⟨rfl, _, rfl⟩ := hv
  have h0 : 0 < n := by rcases Nat.eq_zero_or_pos n with g | g; subst g; simp at hj; exact g
  obtain ⟨b', off', cs, fz, ha', hg, hc⟩ := h h0
  cases ha'
  rw [cell_blk hg, hc j hj]

/-- Of what was there, one block alone may be another. -/
structure Chg (b : Nat) (w w' : World) : Prop where
  os : w'.os = w.os
  tape : w'.tape = w.tape
  output : w'.output = w.output
  size : w.heap.size ≤ w'.heap.size
  block : ∀ k, k < w.heap.size → k ≠ b → w'.heap[k]? = w.heap[k]?
theorem Chg.of_below {b : Nat} {w w' : World} (h : Below w.heap.size w w') : Chg b w w' := ⟨h.os, h.tape, h.output, h.size, fun k hk _ => h.block k hk⟩
theorem Chg.refl (b : Nat) (w : World) : Chg b w w := ⟨rfl, rfl, rfl, Nat.le_refl _, fun _ _ _ => rfl⟩
theorem Chg.trans {b : Nat} {w w1 w2 : World} (h : Chg b w w1) (g : Chg b w1 w2) : Chg b w w2 :=
  ⟨g.os.trans h.os, g.tape.trans h.tape, g.output.trans h.output, Nat.le_trans h.size g.size, fun k hk hne => by rw [g.block k (Nat.lt_of_lt_of_le hk h.size) hne, h.block k hk hne]⟩
theorem Chg.set {b : Nat} {w w1 : World} (h : Chg b w w1) (o : Nat) (v : Value) : Chg b w (w1.setCell ⟨b, o, none⟩ v) :=
  ⟨h.os, h.tape, h.output, by have := h.size; simpa [World.setCell] using this, fun k hk hne => by
    rw [← h.block k hk hne]; simp [World.setCell, Array.getElem?_modify, Ne.symm hne]⟩
/-- A store into a block that was not there. -/
theorem Chg.set_new {b : Nat} {w w1 : World} {a : Addr} (h : Chg b w w1) (v : Value) (ha : w.heap.size ≤ a.block) : Chg b w (w1.setCell a v) :=
  ⟨h.os, h.tape, h.output, by have := h.size; simpa [World.setCell] using this, fun k hk hne => by
    rw [← h.block k hk hne]; simp [World.setCell, Array.getElem?_modify]; omega⟩
theorem Chg.alloc {b : Nat} {w w1 : World} (h : Chg b w w1) (o : Obj) : Chg b w (w1.alloc o) :=
  ⟨h.os, h.tape, h.output, by have := h.size; show _ ≤ (w1.heap.push o).size; simp; omega, fun k hk hne => by
    rw [← h.block k hk hne]
    show (w1.heap.push o)[k]? = _
    have := h.size
    rw [Array.getElem?_push_lt (by omega), Array.getElem?_eq_getElem]⟩
theorem Chg.drew {b : Nat} {w w1 : World} (h : Chg b w w1) : Chg b w w1.drew := ⟨h.os, h.tape, h.output, h.size, h.block⟩
theorem Chg.drewN {b n : Nat} {w w1 : World} (h : Chg b w w1) : Chg b w (w1.drewN n) := ⟨h.os, h.tape, h.output, h.size, h.block⟩
theorem Chg.grown {b : Nat} {w w1 w2 : World} (h : Chg b w w1) (g : Below w1.heap.size w1 w2) : Chg b w w2 := h.trans (Chg.of_below g)
theorem Chg.below {b B : Nat} {w0 w w' : World} (h : Chg b w w') (g : Below B w0 w) (hB : B ≤ b) (hs : B ≤ w0.heap.size) : Below B w0 w' :=
  ⟨h.os.trans g.os, h.tape.trans g.tape, h.output.trans g.output, Nat.le_trans g.size h.size, fun k hk => by rw [h.block k (by have := g.size; omega) (by omega), g.block k hk]⟩
theorem Chg.keep {b k : Nat} {o : Obj} {w w' : World} (h : Chg b w w') (hk : w.heap[k]? = some o) (hne : k ≠ b) : w'.heap[k]? = some o := by rw [h.block k (blk_lt hk) hne]; exact hk
/-- A slice whose elements are of another type than the block's. -/
theorem Sl.chg {e c n b T : Nat} {w w' : World} {v : Value} {xs : List Value} {cs0 : Array Value} {f0 : Nat × Nat} (h : Sl e c w v n xs) (hc : Chg b w w') (hb : w.heap[b]? = some (.cells cs0 T f0)) (hT : T ≠ e) : Sl e c w' v n xs := by
  obtain ⟨a, cap, hv, hcap, hl, h1, h⟩ := h
  refine ⟨a, cap, hv, hcap, hl, h1, fun h0 => ?_⟩
  obtain ⟨b', off, cs, fz, ha, hg, hcc⟩ := h h0
  refine ⟨b', off, cs, fz, ha, hc.keep hg (fun e => ?_), hcc⟩
  subst e
  rw [hg] at hb
  simp at hb
  exact hT hb.2.1.symm

/-! results, some of them in cells -/
def ResVals (P : Program) (tmps : Array Value) (w : World) : List ResultVar → List Value → Prop
  | [], vs => vs = []
  | .tmp t :: rs, vs => ∃ v r, vs = v :: r ∧ tmps.getD t undef = v ∧ ResVals P tmps w rs r
  | .cell a t :: rs, vs => ∃ v r, vs = v :: r ∧ (∃ p, tmps.getD a undef = .pointer (some p) ∧ (loadVar t p).run P w = .ok v w) ∧ ResVals P tmps w rs r
def resOne (tmps : Array Value) : ResultVar → Sem Value
  | .tmp t => pure (tmps.getD t undef)
  | .cell a t => do loadVar t (← asAddr (tmps.getD a undef))
theorem results_list {P : Program} {tmps : Array Value} {w : World} : ∀ (rs : List ResultVar) (vs : List Value), ResVals P tmps w rs vs →
    Sem.run P (rs.mapM (resOne tmps)) w = .ok vs w := by
  intro rs
  induction rs with
  | nil => intro vs h; cases h; rfl
  | cons r rs ih =>
    intro vs h
    rw [List.mapM_cons]
    cases r with
    | tmp t =>
      obtain ⟨v, r, rfl, hv, hr⟩ := h
      simp only [Sem.run_bind, Sem.run_pure, Result.andThen, resOne, hv]
      rw [ih r hr]
    | cell a t =>
      obtain ⟨v, r, rfl, ⟨p, hp, hl⟩, hr⟩ := h
      have e : Sem.run P (asAddr (tmps.getD a undef)) w = .ok p w := by rw [hp]; rfl
      simp only [Sem.run_bind, Sem.run_pure, Result.andThen, resOne, e, hl]
      rw [ih r hr]
theorem results_run {fn : Func} {P : Program} {tmps : Array Value} {w : World} (rs : List ResultVar) (vs : List Value) (hf : fn.results = rs.toArray) (h : ResVals P tmps w rs vs) (v : Value)
    (hv : v = if h : vs.toArray.size = 1 then vs.toArray[0] else .tuple vs.toArray) : (results fn tmps).run P w = .ok v w := by
  have h1 := results_list rs vs h
  have e : results fn tmps = (do let vs ← fn.results.mapM (resOne tmps); pure (if h : vs.size = 1 then vs[0] else .tuple vs)) := by
    unfold results; rfl
  rw [e, hf, List.mapM_toArray]
  rw [show (List.toArray <$> rs.mapM (resOne tmps)) = (rs.mapM (resOne tmps) >>= fun a => pure a.toArray) from rfl]
  simp only [Sem.run_bind, h1, Result.andThen, Sem.run_pure]
  rw [hv]
theorem load_blk {P : Program} {w : World} {g : Nat} {t ty : TypeId} {cs : Array Value} {fr : Nat × Nat} {d : TypeDesc} (hg : w.heap[g]? = some (.cells cs t fr))
    (hu : P.underlying ty = some d) (hd : (match d with | .struct _ | .array _ _ => true | _ => false) = true) (hi : (P.info? ty).map (·.size) = some cs.size) :
    (loadVar ty ⟨g, 0, none⟩).run P w = .ok (.agg cs) w := run_loadVar_row w g t ty cs fr d hg hu hd hi

theorem run_eql_slice_nil_any {P : Program} (w : World) (t e : TypeId) (a : Option Addr) (n c n' c' : Nat) (h : P.underlying t = some (.slice e)) :
    (binOp .eql t (.slice a n c) (.slice none n' c')).run P w = .ok (.bool a.isNone) w := by
  simp only [binOp]
  simp [Op.equal, Op.maxDepth, Lib.run_equalIn_slice_nil w 9999 t e a n c n' c' h]

/-! max and min of two, as Lean's own -/
theorem go_max2 (k k' : IntKind) (x y : Int) : Builtin.max2 (.int k x) (.int k' y) = pure (.int k (max x y)) := by
  simp only [Builtin.max2]
  congr 2
  rw [Int.max_def]
  by_cases h : y > x
  · rw [if_pos h, if_pos (by omega)]
  · rw [if_neg h]
    split
    · omega
    · rfl
theorem go_min2 (k k' : IntKind) (x y : Int) : Builtin.min2 (.int k x) (.int k' y) = pure (.int k (min x y)) := by
  simp only [Builtin.min2]
  congr 2
  rw [Int.min_def]
  by_cases h : y < x
  · rw [if_pos h, if_neg (by omega)]
  · rw [if_neg h, if_pos (by omega)]
theorem go_max_two (ats : Array TypeId) (ty : TypeId) (a b : Value) : Builtin.max_ ats ty #[a, b] = (Builtin.max2 a b >>= fun s => pure s) := by simp only [Builtin.max_, List.foldlM_cons, List.foldlM_nil]
theorem go_min_two (ats : Array TypeId) (ty : TypeId) (a b : Value) : Builtin.min_ ats ty #[a, b] = (Builtin.min2 a b >>= fun s => pure s) := by simp only [Builtin.min_, List.foldlM_cons, List.foldlM_nil]
end Go.Proofs.Yteakfibolfapiaa.Tr
