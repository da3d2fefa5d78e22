/- Lists of accounts, plainly: two sorted lists of the same accounts are one. -/
import Derived.Test.YteakfibolfapiaaTrCh2
namespace Go.Proofs.Yteakfibolfapiaa.Ab
open Go Go.RowKit Go.Sort
set_option linter.unusedVariables false
set_option linter.unusedSimpArgs false
theorem perm_of_sub : ∀ (a b : List Int), a.Nodup → (∀ x ∈ a, x ∈ b) → a.length = b.length → a.Perm b
  | [], b, _, _, hl => by
    have : b = [] := List.eq_nil_of_length_eq_zero hl.symm
    rw [this]
  | x :: a, b, hn, hs, hl => by
    have hx : x ∈ b := hs x (by simp)
    have hn' := List.nodup_cons.1 hn
    have hp := List.perm_cons_erase hx
    refine (List.Perm.cons x (perm_of_sub a (b.erase x) hn'.2 (fun y hy => ?_) ?_)).trans hp.symm
    · have hne : y ≠ x := fun e => hn'.1 (e ▸ hy)
      exact (List.mem_erase_of_ne hne).2 (hs y (by simp [hy]))
    · rw [List.length_erase_of_mem hx]
      simp at hl
      omega
/-- Sorted lists of the same numbers without doubles are one. -/
theorem acc_eq : ∀ (a b : List It.Acc), a.Perm b → (a.Pairwise fun x y => x.c ≤ y.c) → (b.Pairwise fun x y => x.c ≤ y.c) → (∀ x ∈ a, ∀ y ∈ a, x.c = y.c → x = y) → a = b
  | [], b, hp, _, _, _ => by simpa using hp.symm
  | x :: a, [], hp, _, _, _ => by simp at hp
  | x :: a, y :: b, hp, ha, hb, hu => by
    have hxb : x ∈ y :: b := hp.mem_iff.1 (by simp)
    have hya : y ∈ x :: a := hp.mem_iff.2 (by simp)
    have h1 : x.c ≤ y.c := by
      rcases List.mem_cons.1 hya with e | hm
      · rw [e]; omega
      · exact (List.pairwise_cons.1 ha).1 y hm
    have h2 : y.c ≤ x.c := by
      rcases List.mem_cons.1 hxb with e | hm
      · rw [e]; omega
      · exact (List.pairwise_cons.1 hb).1 x hm
    have e : x = y := hu x (by simp) y hya (by omega)
    subst e
    rw [acc_eq a b (List.Perm.cons_inv hp) (List.pairwise_cons.1 ha).2 (List.pairwise_cons.1 hb).2 fun u hu' v hv' => hu u (by simp [hu']) v (by simp [hv'])]
def un (p : Int × Value) : It.Acc := match p.2 with
  | .agg ⟨[.int _ _, .int _ k, .string s]⟩ => ⟨p.1, k, s.data.toList⟩
  | _ => default
theorem un_pr (a : It.Acc) : un (It.pr a) = a := rfl
theorem map_inj {α : Type} (f : α → Int) : ∀ (xs : List α), (xs.map f).Nodup → ∀ x ∈ xs, ∀ y ∈ xs, f x = f y → x = y
  | [], _, x, hx, _, _, _ => by cases hx
  | a :: xs, hn, x, hx, y, hy, e => by
    rw [List.map_cons, List.nodup_cons] at hn
    rcases List.mem_cons.1 hx with e1 | h1 <;> rcases List.mem_cons.1 hy with e2 | h2
    · rw [e1, e2]
    · subst e1
      exact absurd (List.mem_map.2 ⟨y, h2, e.symm⟩) hn.1
    · subst e2
      exact absurd (List.mem_map.2 ⟨x, h1, e⟩) hn.1
    · exact map_inj f xs hn.2 x h1 y h2 e
/-- What two lists of the same accounts hold is the same, and rises. -/
theorem lists_one {m m' : ML} {r r' : List (List D)} (h : isList m r) (h' : isList m' r') (hp : m.Perm m') (hn : (m.map (·.1)).Nodup) :
    r = r' ∧ ∃ xs : List It.Acc, r = xs.map rowA ∧ xs.length = m.length ∧ xs.Pairwise fun x y => x.c < y.c := by
  obtain ⟨xs, h1, h2, rfl⟩ := h
  obtain ⟨ys, h3, h4, rfl⟩ := h'
  have hxy : (xs.map It.pr).Perm (ys.map It.pr) := h1.trans (hp.trans h3.symm)
  have hxy2 : xs.Perm ys := by
    have := hxy.map un
    rw [List.map_map, List.map_map] at this
    have e : ∀ l : List It.Acc, l.map (un ∘ It.pr) = l := fun l => by
      induction l with
      | nil => rfl
      | cons a l ih => rw [List.map_cons, ih]; rfl
    rwa [e, e] at this
  have hc : (xs.map fun x => x.c).Nodup := by
    have := (h1.map (·.1)).nodup_iff.2 hn
    rw [List.map_map] at this
    exact this
  have hu := map_inj (fun x : It.Acc => x.c) xs hc
  refine ⟨by rw [acc_eq xs ys hxy2 h2 h4 hu], xs, rfl, by simpa using h1.length_eq, ?_⟩
  have hs : xs.Pairwise fun x y => x.c ≠ y.c := by
    rw [List.Nodup, List.pairwise_map] at hc
    exact hc
  exact (h2.and hs).imp fun ⟨a, b⟩ => by omega
theorem getM {M : List Int} {i : Nat} (hi : i < M.length) : M.getD i 0 = M[i] := by simp [List.getD, hi]
theorem ne_at {M : List Int} (h : M.Nodup) {p q : Nat} (hp : p < M.length) (hq : q < M.length) (hne : p ≠ q) : M.getD p 0 ≠ M.getD q 0 := by
  rw [getM hp, getM hq]
  have hpw := List.pairwise_iff_getElem.1 h
  rcases Nat.lt_or_gt_of_ne hne with hl | hl
  · exact hpw p q hp hq hl
  · exact fun e => hpw q p hq hp hl e.symm
theorem take_no {M : List Int} (h : M.Nodup) {i : Nat} (hi : i < M.length) : M.getD i 0 ∉ M.take i := by
  intro hm
  obtain ⟨q, hq, e⟩ := List.getElem_of_mem hm
  rw [List.getElem_take] at e
  have hq' : q < i := by simp at hq; omega
  exact ne_at h (p := q) (q := i) (by omega) hi (by omega) (by rw [getM (by omega), e])
theorem rot_no {M : List Int} (h : M.Nodup) {i t : Nat} (hi : i < M.length) : M.getD ((i + t) % M.length) 0 ∉ (List.range i).map fun q => M.getD ((q + t) % M.length) 0 := by
  intro hm
  obtain ⟨q, hq, e⟩ := List.mem_map.1 hm
  have hq' : q < i := List.mem_range.1 hq
  refine ne_at h (Nat.mod_lt _ (by omega)) (Nat.mod_lt _ (by omega)) (fun hab => ?_) e
  have h1 := Nat.sub_mod_eq_zero_of_mod_eq hab.symm
  rw [show i + t - (q + t) = i - q by omega, Nat.mod_eq_of_lt (by omega)] at h1
  omega
theorem rot_nodup {M : List Int} (h : M.Nodup) (t : Nat) : ∀ i, i ≤ M.length → ((List.range i).map fun q => M.getD ((q + t) % M.length) 0).Nodup
  | 0, _ => List.nodup_nil
  | i + 1, hi => by
    rw [List.range_succ, List.map_append, List.nodup_append]
    refine ⟨rot_nodup h t i (by omega), by simp, fun a ha b hb e => ?_⟩
    simp only [List.map_cons, List.map_nil, List.mem_singleton] at hb
    subst hb
    subst e
    exact rot_no h (by omega) ha
theorem rot_perm {M : List Int} (h : M.Nodup) (t : Nat) : ((List.range M.length).map fun q => M.getD ((q + t) % M.length) 0).Perm M := by
  refine perm_of_sub _ _ (rot_nodup h t _ (Nat.le_refl _)) (fun x hx => ?_) (by simp)
  obtain ⟨q, hq, rfl⟩ := List.mem_map.1 hx
  have hq' : q < M.length := List.mem_range.1 hq
  have hm : (q + t) % M.length < M.length := Nat.mod_lt _ (by omega)
  rw [getM hm]
  exact List.getElem_mem _
end Go.Proofs.Yteakfibolfapiaa.Ab
