/- Maps whose keys are of whatever kind of int, with whatever values, as they stand in memory: look up, store, delete, range. No program in sight. -/
import Derived.Test.YteakfibolfapiaaTrHeap
import Derived.Maps.RangeRun
namespace Go.Proofs.Yteakfibolfapiaa.Mk
open Go.Proofs.Yteakfibolfapiaa.Tr
open Go.RowKit Go.Sort
open Go.ChangeMaps (setBlock)
set_option linter.unusedVariables false
set_option linter.unusedSimpArgs false

abbrev IL := List (Int × Value)
def ik (κ : IntKind) (p : Int × Value) : Value × Value := (.int κ p.1, p.2)
def look (l : IL) (k : Int) : Option Value := (l.find? (·.1 == k)).map (·.2)
def put (l : IL) (k : Int) (v : Value) : IL := match l.findIdx? (·.1 == k) with | some i => l.set i (k, v) | none => l ++ [(k, v)]
def del (l : IL) (k : Int) : IL := match l.findIdx? (·.1 == k) with | some i => l.eraseIdx i | none => l

variable {κ : IntKind}
/-! plain facts -/
theorem look_put (l : IL) (k j : Int) (v : Value) : look (put l k v) j = if j = k then some v else look l j := by
  unfold look put
  induction l with
  | nil =>
    by_cases h : j = k
    · simp [h]
    · have : ¬ k = j := fun e => h e.symm
      simp [h, this]
  | cons p l ih =>
    obtain ⟨a, b⟩ := p
    by_cases ha : a = k
    · subst ha
      simp only [List.findIdx?_cons, beq_self_eq_true, if_true, List.set_cons_zero, List.find?_cons]
      by_cases h : j = a
      · subst h; simp
      · have : (a == j) = false := by simpa using fun e : a = j => h e.symm
        simp [h, this]
    · have hak : (a == k) = false := by simpa using ha
      simp only [List.findIdx?_cons, hak, Bool.false_eq_true, if_false]
      cases hf : l.findIdx? (fun x => x.1 == k) with
      | none =>
        rw [hf] at ih
        simp only [Option.map_none, List.cons_append, List.find?_cons] at ih ⊢
        by_cases h : a = j
        · subst h; simp [ha]
        · have : (a == j) = false := by simpa using h
          simpa [this] using ih
      | some i =>
        rw [hf] at ih
        simp only [Option.map_some, List.set_cons_succ, List.find?_cons] at ih ⊢
        by_cases h : a = j
        · subst h; simp [ha]
        · have : (a == j) = false := by simpa using h
          simpa [this] using ih
theorem put_keys_mem (l : IL) (k : Int) (v : Value) (j : Int) : j ∈ (put l k v).map (·.1) ↔ j = k ∨ j ∈ l.map (·.1) := by
  unfold put
  cases hf : l.findIdx? (fun x => x.1 == k) with
  | none => simp; constructor <;> (intro h; rcases h with h | h <;> simp_all)
  | some i =>
    obtain ⟨hi, hk, _⟩ := List.findIdx?_eq_some_iff_getElem.1 hf
    have hk' : l[i].1 = k := by simpa using hk
    have e : (l.set i (k, v)).map (·.1) = l.map (·.1) := by
      rw [List.map_set]
      apply List.ext_getElem (by simp)
      intro n h1 h2
      rw [List.getElem_set]
      split
      · rename_i h; subst h; simpa using hk'.symm
      · rfl
    rw [show (match some i with | some i => l.set i (k, v) | none => l ++ [(k, v)]) = l.set i (k, v) from rfl, e]
    constructor
    · exact fun h => .inr h
    · rintro (rfl | h)
      · exact List.mem_map.2 ⟨l[i], List.getElem_mem _, hk'⟩
      · exact h
theorem put_nodup (l : IL) (k : Int) (v : Value) (h : (l.map (·.1)).Nodup) : ((put l k v).map (·.1)).Nodup := by
  unfold put
  cases hf : l.findIdx? (fun x => x.1 == k) with
  | none =>
    have hn : ∀ p ∈ l, p.1 ≠ k := by
      intro p hp
      have := List.findIdx?_eq_none_iff.1 hf p hp
      simpa using this
    simp only [List.map_append, List.map_cons, List.map_nil]
    rw [List.nodup_append]
    refine ⟨h, by simp, ?_⟩
    intro a ha b hb
    simp at hb
    subst hb
    obtain ⟨p, hp, rfl⟩ := List.mem_map.1 ha
    exact hn p hp
  | some i =>
    obtain ⟨hi, hk, _⟩ := List.findIdx?_eq_some_iff_getElem.1 hf
    have hk' : l[i].1 = k := by simpa using hk
    have e : (l.set i (k, v)).map (·.1) = l.map (·.1) := by
      rw [List.map_set]
      apply List.ext_getElem (by simp)
      intro n h1 h2
      rw [List.getElem_set]
      split
      · rename_i h; subst h; simpa using hk'.symm
      · rfl
    show ((l.set i (k, v)).map (·.1)).Nodup
    rw [e]; exact h
theorem look_mem {l : IL} {k : Int} {v : Value} (hn : (l.map (·.1)).Nodup) : look l k = some v ↔ (k, v) ∈ l := by
  unfold look
  induction l with
  | nil => simp
  | cons p l ih =>
    obtain ⟨a, b⟩ := p
    simp only [List.map_cons, List.nodup_cons] at hn
    simp only [List.find?_cons]
    by_cases h : a = k
    · subst h
      simp only [beq_self_eq_true, Option.map_some, Option.some.injEq, List.mem_cons, Prod.mk.injEq, true_and]
      constructor
      · exact fun h => .inl h.symm
      · rintro (h | h)
        · exact h.symm
        · exact absurd (List.mem_map.2 ⟨_, h, rfl⟩) hn.1
    · have : (a == k) = false := by simpa using h
      simp only [this, List.mem_cons, Prod.mk.injEq]
      rw [ih hn.2]
      constructor
      · exact fun h => .inr h
      · rintro (⟨h1, _⟩ | h1)
        · exact absurd h1.symm h
        · exact h1

/-- A map's block. -/
def IMap (κ : IntKind) (w : World) (r : Nat) (l : IL) : Prop :=
  (l.map (·.1)).Nodup ∧ ∃ E clock, w.heap[r]? = some (.map E clock) ∧ E.toList.map (fun e => (e.key, e.val)) = l.map (ik κ) ∧ (E.toList.map (·.born)).Nodup ∧ ∀ e ∈ E.toList, e.born < clock
theorem IMap.lt {w : World} {r : Nat} {l : IL} (h : IMap κ w r l) : r < w.heap.size := by
  obtain ⟨_, E, c, h1, _⟩ := h
  exact blk_lt h1
theorem IMap.keep {w w' : World} {r : Nat} {l : IL} (hb : Below w.heap.size w w') (h : IMap κ w r l) : IMap κ w' r l := by
  obtain ⟨hn, E, c, h1, h2⟩ := h
  exact ⟨hn, E, c, blk_keep hb h1, h2⟩
theorem IMap.chg {b : Nat} {w w' : World} {r : Nat} {l : IL} (hb : Chg b w w') (h : IMap κ w r l) (hne : r ≠ b) : IMap κ w' r l := by
  obtain ⟨hn, E, c, h1, h2⟩ := h
  exact ⟨hn, E, c, hb.keep h1 hne, h2⟩
theorem IMap.move {w w' : World} {r : Nat} {l : IL} (h : IMap κ w r l) (he : ∀ o : Obj, w.heap[r]? = some o → w'.heap[r]? = some o) : IMap κ w' r l := by
  obtain ⟨hn, E, c, h1, h2⟩ := h
  exact ⟨hn, E, c, he _ h1, h2⟩
theorem IMap.made {w : World} {r : Nat} (h : w.heap[r]? = some (.map #[] 0)) : IMap κ w r [] := ⟨by simp, #[], 0, h, rfl, by simp, by simp⟩

section
variable {P : Program} {w : World} {r : Nat} {l : IL} {T K e : TypeId}

theorem findNow_ik (k : Int) : ∀ (E : List MapEntry) (l : IL) (i : Nat), E.map (fun e => (e.key, e.val)) = l.map (ik κ) →
    Instr.findNow (.int κ) (.int κ k) E i = some ((l.findIdx? (·.1 == k)).bind fun j => (l[j]?).map fun p => (i + j, p.2)) := by
  intro E
  induction E with
  | nil => intro l i h; cases l with
    | nil => rfl
    | cons p l => simp at h
  | cons x E ih =>
    intro l i h
    cases l with
    | nil => simp at h
    | cons p l =>
      simp only [List.map_cons, List.cons.injEq] at h
      obtain ⟨h0, h1⟩ := h
      simp only [ik, Prod.mk.injEq] at h0
      obtain ⟨hk, hv⟩ := h0
      rw [Instr.findNow, hk]
      simp only [Instr.sameNow, if_true]
      by_cases hh : k = p.1
      · subst hh
        simp [List.findIdx?_cons, hv]
      · have h2 : (k == p.1) = false := by simpa using hh
        have h3 : (p.1 == k) = false := by simpa using fun e : p.1 = k => hh e.symm
        simp only [h2, List.findIdx?_cons, h3, Bool.false_eq_true, if_false]
        rw [ih l (i + 1) h1]
        cases l.findIdx? (fun x => x.1 == k) with
        | none => rfl
        | some j =>
          simp only [Option.map_some, Option.bind_some, List.getElem?_cons_succ]
          cases l[j]? with
          | none => rfl
          | some q => simp; omega

theorem run_findKey (hK : P.underlying K = some (.int κ)) (k : Int) (E : List MapEntry) (l : IL) (h : E.map (fun e => (e.key, e.val)) = l.map (ik κ)) (w : World) :
    (Instr.findKey K (.int κ k) E).run P w = .ok ((l.findIdx? (·.1 == k)).bind fun j => (l[j]?).map fun p => (j, p.2)) w := by
  unfold Instr.findKey
  rw [Sem.run_bind, run_underlying hK w]
  simp only [Result.andThen, findNow_ik k E l 0 h, Nat.zero_add]
  rfl
theorem run_checkKey (hK : P.underlying K = some (.int κ)) (b : Bool) (n : Nat) (k : Int) (w : World) : (Instr.checkKey b (n + 1) K (.int κ k)).run P w = .ok () w := by
  unfold Instr.checkKey
  rw [Sem.run_bind, run_underlying hK w]
  rfl
theorem idx_look (l : IL) (k : Int) : ((l.findIdx? (·.1 == k)).bind fun j => (l[j]?).map fun p => (j, p.2)).map (·.2) = look l k := by
  unfold look
  induction l with
  | nil => rfl
  | cons p l ih =>
    simp only [List.findIdx?_cons, List.find?_cons]
    cases hp : p.1 == k with
    | true => simp
    | false =>
      simp only [Bool.false_eq_true, if_false]
      rw [← ih]
      cases l.findIdx? (fun x => x.1 == k) with
      | none => rfl
      | some j =>
        simp only [Option.map_some, Option.bind_some, List.getElem?_cons_succ]
        cases l[j]? <;> rfl

/-- m[k], and 'v, ok := m[k]'. -/
theorem run_lookup (h : IMap κ w r l) (ht : P.underlying T = some (.map K e)) (hK : P.underlying K = some (.int κ)) {z : Value} (hz : (zeroValue e).run P w = .ok z w) (k : Int) (c : Bool) :
    (Instr.lookup T (.map (some r)) (.int κ k) c).run P w = .ok (if c then .tuple #[(look l k).getD z, .bool (look l k).isSome] else (look l k).getD z) w := by
  obtain ⟨hn, E, clock, hb, hE, _⟩ := h
  unfold Instr.lookup
  rw [Sem.run_bind, run_underlying ht w]
  simp only [Result.andThen]
  have hg : (getObj r).run P w = .ok (.map E clock) w := by simp [getObj, Sem.run, hb]
  simp only [Sem.run_bind, hg, Result.andThen, Sem.run_pure]
  have hc : (Instr.checkKey E.isEmpty 10000 K (.int κ k)).run P w = .ok () w := run_checkKey hK _ 9999 k w
  have hf := run_findKey hK k E.toList l hE w
  have hil := idx_look l k
  simp only [hc, hf, Sem.run_bind, Result.andThen]
  cases hx : ((l.findIdx? (·.1 == k)).bind fun j => (l[j]?).map fun p => (j, p.2)) with
  | none =>
    rw [hx] at hil
    rw [← hil]
    cases c <;> simp [Sem.run_bind, hz, Result.andThen]
  | some p =>
    rw [hx] at hil
    rw [← hil]
    cases c <;> simp [Sem.run_bind, Result.andThen]

theorem chg_setBlock {w : World} {r : Nat} (o : Obj) : Chg r w (setBlock w r o) :=
  ⟨rfl, rfl, rfl, by simp [setBlock], fun k hk hne => by simp [setBlock, Array.getElem?_setIfInBounds, Ne.symm hne]⟩
theorem blk_setBlock {w : World} {r : Nat} {o x : Obj} (h : w.heap[r]? = some x) : (setBlock w r o).heap[r]? = some o := by
  have := blk_lt h
  simp [setBlock, Array.getElem?_setIfInBounds, this]

/-- m[k] = v. -/
theorem run_update (h : IMap κ w r l) (ht : P.underlying T = some (.map K e)) (hK : P.underlying K = some (.int κ)) (k : Int) (v : Value) :
    ∃ w', (Instr.mapUpdate T (.map (some r)) (.int κ k) v).run P w = .ok () w' ∧ IMap κ w' r (put l k v) ∧ Chg r w w' ∧ w'.heap.size = w.heap.size := by
  obtain ⟨hn, E, clock, hb, hE, hbn, hlt⟩ := h
  have hg : (getObj r).run P w = .ok (.map E clock) w := by simp [getObj, Sem.run, hb]
  have hs : ∀ o : Obj, (Go.setObj r o).run P w = .ok () (setBlock w r o) := fun o => by simp [Go.setObj, Sem.run, hb, setBlock]
  have hc : (Instr.checkKey false 10000 K (.int κ k)).run P w = .ok () w := run_checkKey hK _ 9999 k w
  have hf := run_findKey hK k E.toList l hE w
  have hnd := put_nodup l k v hn
  cases hx : l.findIdx? (·.1 == k) with
  | none =>
    rw [hx] at hf
    refine ⟨setBlock w r (.map (E.push { key := .int κ k, val := v, born := clock }) (clock + 1)), ?_, ⟨hnd, _, _, blk_setBlock hb, ?_, ?_, ?_⟩, chg_setBlock _, by simp [setBlock]⟩
    · unfold Instr.mapUpdate
      rw [Sem.run_bind, run_underlying ht w]
      simp only [Result.andThen, Sem.run_bind, hg, hc, hf, Option.bind_none, hs]
    · unfold put; rw [hx]
      simp [hE, ik]
    · simp only [Array.toList_push, List.map_append, List.map_cons, List.map_nil]
      rw [List.nodup_append]
      refine ⟨hbn, by simp, ?_⟩
      intro a ha b hb'
      simp at hb'
      subst hb'
      obtain ⟨x, hx, rfl⟩ := List.mem_map.1 ha
      have := hlt x hx
      omega
    · intro x hx
      simp only [Array.toList_push, List.mem_append, List.mem_singleton] at hx
      rcases hx with hx | rfl
      · have := hlt x hx; omega
      · simp
  | some i =>
    obtain ⟨hi, hk, _⟩ := List.findIdx?_eq_some_iff_getElem.1 hx
    have hk' : l[i].1 = k := by simpa using hk
    have hlen : E.size = l.length := by have := congrArg List.length hE; simpa using this
    have hiE : i < E.size := by omega
    have hkey : E[i].key = .int κ k ∧ E[i].val = l[i].2 := by
      have := congrArg (fun z => z[i]?) hE
      simp [hiE, hi, ik] at this
      exact ⟨by rw [this.1, hk'], this.2⟩
    rw [hx] at hf
    refine ⟨setBlock w r (.map (E.modify i fun x => { x with key := .int κ k, val := v }) clock), ?_, ⟨hnd, _, _, blk_setBlock hb, ?_, ?_, ?_⟩, chg_setBlock _, by simp [setBlock]⟩
    · unfold Instr.mapUpdate
      rw [Sem.run_bind, run_underlying ht w]
      have hst : (Instr.keyThatStays (.int κ k) (.int κ k)).run P w = .ok (.int κ k) w := by
        unfold Instr.keyThatStays
        have : Instr.sameBits 10000 (.int κ k) (.int κ k) = true := by simp [Instr.sameBits]
        rw [if_pos this]; rfl
      simp only [Result.andThen, Sem.run_bind, hg, hc, hf, Option.bind_some, List.getElem?_eq_getElem hi, Option.map_some, Array.getElem?_eq_getElem hiE, Option.getD_some, hkey.1, hst, hs]
    · unfold put; rw [hx]
      apply List.ext_getElem
      · simp [hlen]
      · intro n h1 h2
        simp only [List.getElem_map, Array.getElem_toList, Array.getElem_modify, List.getElem_set]
        have hnE : n < E.size := by simpa using h1
        have hnl : n < l.length := by omega
        have := congrArg (fun z => z[n]?) hE
        simp [hnE, hnl] at this
        by_cases he : i = n
        · subst he; simp [ik]
        · simp [he, this]
    · have e : ((E.modify i fun x => { x with key := .int κ k, val := v }).toList.map (·.born)) = E.toList.map (·.born) := by
        apply List.ext_getElem
        · simp
        · intro n h1 h2
          simp only [List.getElem_map, Array.getElem_toList, Array.getElem_modify]
          split <;> simp_all
      rw [e]; exact hbn
    · intro x hx
      obtain ⟨n, hn', rfl⟩ := List.getElem_of_mem hx
      simp only [Array.getElem_toList, Array.getElem_modify]
      have hnE : n < E.size := by simpa using hn'
      split
      · show E[n].born < clock
        exact hlt E[n] (by rw [← Array.getElem_toList]; exact List.getElem_mem _)
      · exact hlt E[n] (by rw [← Array.getElem_toList]; exact List.getElem_mem _)

/-- len(m). -/
theorem IMap.size {w : World} {r : Nat} {l : IL} (h : IMap κ w r l) : ∃ E clock, w.heap[r]? = some (.map E clock) ∧ E.size = l.length := by
  obtain ⟨hn, E, clock, hb, hE, hbn, hlt⟩ := h
  exact ⟨E, clock, hb, by have := congrArg List.length hE; simpa using this⟩

/-! going through a map that isn't written meanwhile -/
/-- An iterator over a map of which some entries are still to come. -/
def IIter (κ : IntKind) (w : World) (r it : Nat) (left : IL) : Prop :=
  ∃ E clock seen, w.heap[r]? = some (.map E clock) ∧ w.heap[it]? = some (.mapIter (some r) clock seen clock) ∧ (∀ e ∈ E.toList, e.born < clock) ∧ (E.toList.map (·.born)).Nodup ∧
    (leftOf E seen).toList.map (fun e => (e.key, e.val)) = left.map (ik κ)
theorem IIter.keep {w w' : World} {r it : Nat} {left : IL} (hb : Below w.heap.size w w') (h : IIter κ w r it left) : IIter κ w' r it left := by
  obtain ⟨E, c, s, h1, h2, h3⟩ := h
  exact ⟨E, c, s, blk_keep hb h1, blk_keep hb h2, h3⟩
theorem IIter.move {w w' : World} {r it : Nat} {left : IL} (h : IIter κ w r it left) (he : ∀ k, k = r ∨ k = it → ∀ o : Obj, w.heap[k]? = some o → w'.heap[k]? = some o) : IIter κ w' r it left := by
  obtain ⟨E, c, s, h1, h2, h3⟩ := h
  exact ⟨E, c, s, he r (.inl rfl) _ h1, he it (.inr rfl) _ h2, h3⟩
theorem IIter.lt {w : World} {r it : Nat} {left : IL} (h : IIter κ w r it left) : it < w.heap.size := by
  obtain ⟨E, c, s, h1, h2, h3⟩ := h
  exact blk_lt h2

/-- The same, and the entry that came last. -/
def IIterC (κ : IntKind) (w : World) (r it : Nat) (left : IL) (cur : Option (Int × Value)) : Prop :=
  ∃ E clock seen, w.heap[r]? = some (.map E clock) ∧ w.heap[it]? = some (.mapIter (some r) clock seen clock) ∧ (∀ e ∈ E.toList, e.born < clock) ∧ (E.toList.map (·.born)).Nodup ∧
    (leftOf E seen).toList.map (fun e => (e.key, e.val)) = left.map (ik κ) ∧
    ∀ p, cur = some p → ∀ (P : Program) (u : World), u.heap[r]? = some (.map E clock) → u.heap[it]? = some (.mapIter (some r) clock seen clock) → (Instr.entry (.pointer (some ⟨it, 0, none⟩))).run P u = .ok (.tuple #[.int κ p.1, p.2]) u
theorem IIterC.it {w : World} {r i : Nat} {left : IL} {cur : Option (Int × Value)} (h : IIterC κ w r i left cur) : IIter κ w r i left := by
  obtain ⟨E, c, s, h1, h2, h3, h4, h5, -⟩ := h
  exact ⟨E, c, s, h1, h2, h3, h4, h5⟩
theorem IIter.c {w : World} {r i : Nat} {left : IL} (h : IIter κ w r i left) : IIterC κ w r i left none := by
  obtain ⟨E, c, s, h1, h2, h3, h4, h5⟩ := h
  exact ⟨E, c, s, h1, h2, h3, h4, h5, fun p hp => by cases hp⟩
theorem IIterC.entry {w : World} {r i : Nat} {left : IL} {p : Int × Value} (h : IIterC κ w r i left (some p)) (P : Program) : (Instr.entry (.pointer (some ⟨i, 0, none⟩))).run P w = .ok (.tuple #[.int κ p.1, p.2]) w := by
  obtain ⟨E, c, s, h1, h2, h3, h4, h5, h6⟩ := h
  exact h6 p rfl P w h1 h2
/-- How many are still to come. -/
def itLeft (w : World) (it : Nat) : Nat :=
  match w.heap[it]? with
  | some (.mapIter (some r) _ seen _) => (match w.heap[r]? with | some (.map E _) => (leftOf E seen).size | _ => 0)
  | _ => 0
theorem IIter.left_eq {w : World} {r it : Nat} {left : IL} (h : IIter κ w r it left) : itLeft w it = left.length := by
  obtain ⟨E, c, s, h1, h2, h3, h4, h5⟩ := h
  unfold itLeft
  rw [h2]
  dsimp only
  rw [h1]
  have := congrArg List.length h5
  simpa using this
theorem run_range (h : IMap κ w r l) (ht : P.underlying T = some (.map K e)) :
    ∃ w', (Instr.range T (.map (some r))).run P w = .ok (.pointer (some ⟨w.heap.size, 0, none⟩)) w' ∧ IIter κ w' r w.heap.size l ∧ Below w.heap.size w w' := by
  obtain ⟨hn, E, clock, hb, hE, hbn, hlt⟩ := h
  have hg : (getObj r).run P w = .ok (.map E clock) w := by simp [getObj, Sem.run, hb]
  refine ⟨w.alloc (.mapIter (some r) clock #[] clock), ?_, ⟨E, clock, #[], blk_old hb, blk_new _ _, hlt, hbn, ?_⟩, (Below.refl _ _).alloc (Nat.le_refl _) _⟩
  · unfold Instr.range
    rw [Sem.run_bind, run_underlying ht w]
    simp only [Result.andThen, Sem.run_bind, hg, Sem.run_pure, newObj, Sem.run]
    rfl
  · have e : leftOf E #[] = E := by unfold leftOf; rw [Array.filter_eq_self]; simp
    rw [e]; exact hE

theorem filter_erase {α : Type} (f : α → Nat) : ∀ (L : List α) (n : Nat) (hn : n < L.length), (L.map f).Nodup → L.filter (fun e => !(f e == f L[n])) = L.eraseIdx n := by
  intro L
  induction L with
  | nil => intro n hn; simp at hn
  | cons a L ih =>
    intro n hn hd
    simp only [List.map_cons, List.nodup_cons] at hd
    cases n with
    | zero =>
      simp only [List.getElem_cons_zero, List.filter_cons, beq_self_eq_true, Bool.not_true, Bool.false_eq_true, if_false, List.eraseIdx_zero, List.tail_cons]
      rw [List.filter_eq_self]
      intro x hx
      have : f x ≠ f a := fun e => hd.1 (e ▸ List.mem_map.2 ⟨x, hx, rfl⟩)
      simpa using this
    | succ n =>
      have hn' : n < L.length := by simpa using hn
      have hne : f a ≠ f L[n] := fun e => hd.1 (e ▸ List.mem_map.2 ⟨_, List.getElem_mem _, rfl⟩)
      have hb : (!(f a == f L[n])) = true := by simpa using hne
      simp only [List.getElem_cons_succ, List.filter_cons, hb, if_true, List.eraseIdx_cons_succ]
      rw [ih n hn' hd.2]
theorem mem_erase {α : Type} : ∀ (L : List α) (n : Nat) (hn : n < L.length) (q : α), q ∈ L ↔ q = L[n] ∨ q ∈ L.eraseIdx n := by
  intro L
  induction L with
  | nil => intro n hn; simp at hn
  | cons a L ih =>
    intro n hn q
    cases n with
    | zero => simp
    | succ n =>
      have := ih n (by simpa using hn) q
      simp only [List.mem_cons, List.getElem_cons_succ, List.eraseIdx_cons_succ]
      rw [this]
      constructor
      · rintro (h | h | h)
        · exact .inr (.inl h)
        · exact .inl h
        · exact .inr (.inr h)
      · rintro (h | h | h)
        · exact .inr (.inl h)
        · exact .inl h
        · exact .inr (.inr h)
theorem erase_perm {α : Type} : ∀ (L : List α) (n : Nat) (hn : n < L.length), L.Perm (L[n] :: L.eraseIdx n)
  | [], n, hn => by simp at hn
  | a :: L, 0, hn => by simp
  | a :: L, n + 1, hn => by
    have := erase_perm L n (by simpa using hn)
    simp only [List.getElem_cons_succ, List.eraseIdx_cons_succ]
    exact (List.Perm.cons a this).trans (List.Perm.swap _ _ _)
theorem leftOf_push (E : Array MapEntry) (seen : Array Nat) (b : Nat) : (leftOf E (seen.push b)).toList = (leftOf E seen).toList.filter (fun e => !(e.born == b)) := by
  unfold leftOf
  simp only [Array.toList_filter, List.filter_filter]
  apply List.filter_congr
  intro x _
  by_cases h : x.born = b <;> simp [h]

/-- A step: nothing is left; or one of those that are left, whichever. -/
theorem run_next {it : Nat} {left : IL} (h : IIter κ w r it left) (ty : TypeId) :
    (left = [] ∧ (Instr.next (.pointer (some ⟨it, 0, none⟩)) false ty).run P w = .ok (.tuple #[.bool false]) w) ∨
    ∃ p left' w', left.Perm (p :: left') ∧
      (Instr.next (.pointer (some ⟨it, 0, none⟩)) false ty).run P w = .ok (.tuple #[.bool true, .int κ p.1, p.2]) w' ∧ IIterC κ w' r it left' (some p) ∧ (Chg it w w' ∧ w'.heap.size = w.heap.size) ∧
      (Instr.entry (.pointer (some ⟨it, 0, none⟩))).run P w' = .ok (.tuple #[.int κ p.1, p.2]) w' := by
  obtain ⟨E, clock, seen, hb, hr, hlt, hbn, hE⟩ := h
  have hne : r ≠ it := by rintro rfl; rw [hb] at hr; simp at hr
  rcases run_next_at (P := P) w ty it r clock clock seen E clock hr hb hlt (Nat.le_refl _) with ⟨h0, hrun⟩ | ⟨x, hx, w1, hw1, hrun⟩
  · left
    refine ⟨?_, hrun⟩
    have := congrArg List.length hE
    simp [h0] at this
    exact List.eq_nil_of_length_eq_zero this.symm
  · right
    obtain ⟨n, hn, rfl⟩ := List.getElem_of_mem hx
    have hlen : (leftOf E seen).toList.length = left.length := by have := congrArg List.length hE; simpa using this
    have hnl : n < left.length := by omega
    have hp : (leftOf E seen).toList[n].key = .int κ left[n].1 ∧ (leftOf E seen).toList[n].val = left[n].2 := by
      have := congrArg (fun z => z[n]?) hE
      rw [List.getElem?_map, List.getElem?_map, List.getElem?_eq_getElem hn, List.getElem?_eq_getElem hnl] at this
      simp only [Option.map_some, Option.some.injEq, Prod.mk.injEq, ik] at this
      exact this
    have hmemE : (leftOf E seen).toList[n] ∈ E.toList := by
      have hsub' : ∀ y, y ∈ (leftOf E seen).toList → y ∈ E.toList := by
        intro y hy
        unfold leftOf at hy
        rw [Array.toList_filter] at hy
        exact (List.mem_filter.1 hy).1
      exact hsub' _ hx
    have hsub : ((leftOf E seen).toList.map (·.born)).Nodup := by
      unfold leftOf
      rw [Array.toList_filter]
      exact hbn.sublist (List.filter_sublist.map _)
    have hr1 : w1.heap[it]? = some (.mapIter (some r) clock seen clock) := by rcases hw1 with rfl | rfl <;> exact hr
    have hb1 : w1.heap[r]? = some (.map E clock) := by rcases hw1 with rfl | rfl <;> exact hb
    have hc1 : Chg it w w1 := by rcases hw1 with rfl | rfl <;> first | exact Chg.refl _ _ | exact Chg.drew (Chg.refl _ _)
    generalize hx' : (leftOf E seen).toList[n] = x at *
    have hset := blk_setBlock (o := .mapIter (some r) clock (seen.push x.born) clock) hr1
    have hmap : (setBlock w1 it (.mapIter (some r) clock (seen.push x.born) clock)).heap[r]? = some (.map E clock) := (chg_setBlock _).keep hb1 hne
    refine ⟨left[n], left.eraseIdx n, setBlock w1 it (.mapIter (some r) clock (seen.push x.born) clock), ?_, ?_, ⟨E, clock, _, hmap, hset, hlt, hbn, ?_, ?_⟩, ⟨hc1.trans (chg_setBlock _), by rw [show (setBlock w1 it (.mapIter (some r) clock (seen.push x.born) clock)).heap.size = w1.heap.size by simp [setBlock]]; rcases hw1 with rfl | rfl <;> rfl⟩, ?_⟩
    · exact erase_perm left n hnl
    · rw [hrun, hp.1, hp.2]
    · rw [leftOf_push, ← hx', filter_erase (·.born) _ n hn hsub]
      have e : ∀ {α β : Type} (f : α → β) (L : List α) (n : Nat), (L.eraseIdx n).map f = (L.map f).eraseIdx n := by
        intro α β f L
        induction L with
        | nil => intro n; rfl
        | cons a L ih => intro n; cases n with
          | zero => rfl
          | succ n => simp [ih]
      rw [e, e, hE]
    · intro q hq P' u g1 g2
      cases hq
      rw [run_entry_at (P := P') u it r clock seen E clock x g2 g1 hmemE hbn, hp.1, hp.2]
    · have := run_entry_at (P := P) (setBlock w1 it (.mapIter (some r) clock (seen.push x.born) clock)) it r clock seen E clock x hset hmap hmemE hbn
      rw [this, hp.1, hp.2]

end
end Go.Proofs.Yteakfibolfapiaa.Mk
