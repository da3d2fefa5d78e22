/- Amounts by accounts, plainly: a map of slices, and what the slices hold. -/
import Derived.Test.YteakfibolfapiaaTrCh1
namespace Go.Proofs.Yteakfibolfapiaa.Ab
open Go Go.RowKit Go.Sort
set_option linter.unusedVariables false
set_option linter.unusedSimpArgs false
abbrev Bag := List (Value × List (List D))
def iR (xs : List Int) : List (List D) := xs.map fun x => [.int .i64 x]
/-- The amounts of an account. -/
def sel (qs : List (Int × Int)) (k : Int) : List Int := (qs.filter fun q => q.1 == k).map fun q => q.2
theorem sel_snoc (qs : List (Int × Int)) (q : Int × Int) (k : Int) : sel (qs ++ [q]) k = if q.1 = k then sel qs k ++ [q.2] else sel qs k := by
  unfold sel
  rw [List.filter_append, List.map_append]
  by_cases h : q.1 = k
  · simp [h]
  · simp [h]
theorem sel_none {qs : List (Int × Int)} {k : Int} (h : ∀ q ∈ qs, q.1 ≠ k) : sel qs k = [] := by
  unfold sel
  rw [List.filter_eq_nil_iff.2]
  · rfl
  · intro q hq
    simpa using h q hq
theorem sel_len (qs : List (Int × Int)) (k : Int) : (sel qs k).length ≤ qs.length := by
  unfold sel
  rw [List.length_map]
  exact List.length_filter_le _ _
def aF (qs : List (Int × Int)) (p : Int × Value) : Value × List (List D) := (p.2, iR (sel qs p.1))
/-- The map, the slices, and the lines that were gathered. -/
structure AMP (m : ML) (L : Bag) (qs : List (Int × Int)) : Prop where
  nd : (m.map (·.1)).Nodup
  sl : slOk m
  key : ∀ k, (Mk.look m k).isSome = true ↔ ∃ q ∈ qs, q.1 = k
  dat : L.Perm (m.map (aF qs))
theorem AMP.nil : AMP [] [] [] := ⟨List.nodup_nil, (fun p hp => by cases hp), fun k => ⟨(fun h => by cases h), (fun ⟨q, hq, _⟩ => by cases hq)⟩, List.Perm.refl _⟩
theorem look_app_none {m : ML} {k : Int} (h : Mk.look m k = none) : ∀ p ∈ m, p.1 ≠ k := by
  intro p hp e
  unfold Mk.look at h
  simp only [Option.map_eq_none_iff, List.find?_eq_none] at h
  have := h p hp
  simp [e] at this
theorem put_none {m : ML} {x : Int} {v : Value} (h : Mk.look m x = none) : Mk.put m x v = m ++ [(x, v)] := by
  unfold Mk.put
  have : m.findIdx? (fun p => p.1 == x) = none := by
    unfold Mk.look at h
    simp only [Option.map_eq_none_iff, List.find?_eq_none] at h
    rw [List.findIdx?_eq_none_iff]
    intro p hp
    simpa using h p hp
  rw [this]
theorem put_some : ∀ {A B : ML} {k : Int} {v v' : Value}, ((A ++ (k, v) :: B).map (·.1)).Nodup → Mk.put (A ++ (k, v) :: B) k v' = A ++ (k, v') :: B := by
  intro A B k v v' hn
  have hk : ∀ p ∈ A, p.1 ≠ k := by
    intro p hp e
    rw [List.map_append, List.nodup_append] at hn
    exact hn.2.2 p.1 (List.mem_map.2 ⟨p, hp, rfl⟩) k (by simp) e
  have hi : (A ++ (k, v) :: B).findIdx? (fun p => p.1 == k) = some A.length := by
    rw [List.findIdx?_append]
    have : A.findIdx? (fun p => p.1 == k) = none := by
      rw [List.findIdx?_eq_none_iff]
      intro p hp
      simpa using hk p hp
    rw [this]
    simp [List.findIdx?_cons]
  unfold Mk.put
  rw [hi]
  simp
theorem map_aF_ne {m : ML} {qs : List (Int × Int)} {k x : Int} (h : ∀ p ∈ m, p.1 ≠ k) : m.map (aF (qs ++ [(k, x)])) = m.map (aF qs) := by
  apply List.map_congr_left
  intro p hp
  unfold aF
  rw [sel_snoc, if_neg (fun e => h p hp e.symm)]
theorem key_put {m : ML} {qs : List (Int × Int)} {k x : Int} {v : Value} (h : ∀ j, (Mk.look m j).isSome = true ↔ ∃ q ∈ qs, q.1 = j) (j : Int) : (Mk.look (Mk.put m k v) j).isSome = true ↔ ∃ q ∈ qs ++ [(k, x)], q.1 = j := by
  rw [Mk.look_put]
  by_cases e : j = k
  · subst e
    simp
  · rw [if_neg e, h j]
    constructor
    · rintro ⟨q, hq, e2⟩
      exact ⟨q, by simp [hq], e2⟩
    · rintro ⟨q, hq, e2⟩
      rcases List.mem_append.1 hq with hq | hq
      · exact ⟨q, hq, e2⟩
      · simp only [List.mem_singleton] at hq
        subst hq
        exact absurd e2.symm e
/-- A line more. -/
theorem AMP.step {m : ML} {L : Bag} {qs : List (Int × Int)} (h : AMP m L qs) {k x : Int} {v : Value} (hv : v = mraw m k) :
    ∃ xs L', ((v = .slice none 0 0 ∧ xs = [] ∧ L' = L) ∨ ∃ A B, L = A ++ (v, xs) :: B ∧ L' = A ++ B) ∧ xs.length ≤ qs.length ∧ (∀ r ∈ xs, ∃ z, r = [.int .i64 z]) ∧
      ∀ v', (∃ a n cap, v' = .slice a n cap) → AMP (Mk.put m k v') ((v', xs ++ [[.int .i64 x]]) :: L') (qs ++ [(k, x)]) := by
  cases hl : Mk.look m k with
  | none =>
    have hno : ∀ q ∈ qs, q.1 ≠ k := fun q hq e => by
      have := (h.key k).2 ⟨q, hq, e⟩
      rw [hl] at this
      cases this
    have hne := look_app_none hl
    refine ⟨[], L, .inl ⟨by rw [hv, mraw, hl]; rfl, rfl, rfl⟩, Nat.zero_le _, (fun r hr => by cases hr), fun v' hs => ⟨Mk.put_nodup m k v' h.nd, ?_, key_put h.key, ?_⟩⟩
    · rw [put_none hl]
      intro p hp
      rcases List.mem_append.1 hp with hp | hp
      · exact h.sl p hp
      · simp only [List.mem_singleton] at hp; subst hp; exact hs
    · rw [put_none hl, List.map_append, map_aF_ne hne]
      refine (List.Perm.cons _ h.dat).trans ?_
      have e : aF (qs ++ [(k, x)]) (k, v') = (v', [] ++ [[.int .i64 x]]) := by
        unfold aF
        rw [sel_snoc, if_pos rfl, sel_none hno]
        rfl
      rw [List.map_cons, List.map_nil, e]
      exact List.perm_append_comm (l₁ := [_])
  | some u =>
    have hm := (Mk.look_mem h.nd).1 hl
    obtain ⟨A, B, rfl⟩ := List.append_of_mem hm
    have hvu : v = u := by rw [hv, mraw, hl]; rfl
    subst hvu
    have hd := h.dat
    rw [List.map_append, List.map_cons] at hd
    have hin : (v, iR (sel qs k)) ∈ L := hd.mem_iff.2 (by simp [aF])
    obtain ⟨A', B', rfl⟩ := List.append_of_mem hin
    refine ⟨iR (sel qs k), A' ++ B', .inr ⟨A', B', rfl, rfl⟩, by simpa [iR] using sel_len qs k, ?_, fun v' hs => ⟨Mk.put_nodup _ k v' h.nd, ?_, key_put h.key, ?_⟩⟩
    · intro r hr
      obtain ⟨z, -, rfl⟩ := List.mem_map.1 hr
      exact ⟨z, rfl⟩
    · rw [put_some h.nd]
      intro p hp
      rcases List.mem_append.1 hp with hp | hp
      · exact h.sl p (by simp [hp])
      · rcases List.mem_cons.1 hp with rfl | hp
        · exact hs
        · exact h.sl p (by simp [hp])
    · have hn := h.nd
      rw [List.map_append, List.map_cons, List.nodup_append, List.nodup_cons] at hn
      obtain ⟨n1, ⟨n2, n3⟩, n4⟩ := hn
      have hA : ∀ p ∈ A, p.1 ≠ k := fun p hp e => n4 p.1 (List.mem_map.2 ⟨p, hp, rfl⟩) k (by simp) e
      have hB : ∀ p ∈ B, p.1 ≠ k := fun p hp e => n2 (List.mem_map.2 ⟨p, hp, e⟩)
      rw [put_some h.nd, List.map_append, List.map_cons, map_aF_ne hA, map_aF_ne hB]
      have e : aF (qs ++ [(k, x)]) (k, v') = (v', iR (sel qs k) ++ [[.int .i64 x]]) := by
        unfold aF
        rw [sel_snoc, if_pos rfl]
        simp [iR]
      rw [e]
      have h1 : (A' ++ B').Perm (A.map (aF qs) ++ B.map (aF qs)) := by
        have h2 := (List.perm_middle.symm.trans hd).trans List.perm_middle
        exact List.Perm.cons_inv h2
      exact (List.Perm.cons _ h1).trans List.perm_middle.symm
end Go.Proofs.Yteakfibolfapiaa.Ab
