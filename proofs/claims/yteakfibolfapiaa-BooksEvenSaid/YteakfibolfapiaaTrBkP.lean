/- Balances, plainly. -/
import Derived.Test.YteakfibolfapiaaTrBk1
namespace Go.Proofs.Yteakfibolfapiaa.Ab
open Go Go.RowKit Go.Sort
set_option linter.unusedVariables false
set_option linter.unusedSimpArgs false
def valI : Option Value → Int
  | some (.int _ z) => z
  | _ => 0
theorem look_in {m : ML} {k : Int} {v : Value} (h : Mk.look m k = some v) : (k, v) ∈ m := by
  unfold Mk.look at h
  simp only [Option.map_eq_some_iff] at h
  obtain ⟨p, hp, rfl⟩ := h
  have h1 := List.mem_of_find?_eq_some hp
  have h2 := List.find?_some hp
  simp only [beq_iff_eq] at h2
  rw [← h2]; exact h1
theorem bal_look {m : ML} (h : gB m) (k : Int) : bal m k = valI (Mk.look m k) := by
  simp only [bal, real, mcell]
  cases hl : Mk.look m k with
  | none => rfl
  | some v =>
    obtain ⟨z, hz, -⟩ := h.h _ (look_in hl)
    have hz : v = .int .i64 z := hz
    subst hz
    rfl
theorem bal_in {m : ML} (h : gB m) {k z : Int} (hm : (k, .int .i64 z) ∈ m) : bal m k = z := by
  rw [bal_look h, (Mk.look_mem h.nd).2 hm]; rfl
theorem bal_no {m : ML} (h : gB m) {k : Int} (hk : ∀ p ∈ m, p.1 ≠ k) : bal m k = 0 := by
  rw [bal_look h]
  cases hl : Mk.look m k with
  | none => rfl
  | some v => exact absurd rfl (hk _ (look_in hl))
theorem bal_I {m : ML} (h : gB m) (k : Int) : I64 (bal m k) := by
  rw [bal_look h]
  cases hl : Mk.look m k with
  | none => exact ⟨by decide, by decide⟩
  | some v =>
    obtain ⟨z, hz, -, hi⟩ := h.h _ (look_in hl)
    have hz : v = .int .i64 z := hz
    subst hz
    exact hi
theorem del_eq {k : Int} : ∀ (l : ML), (l.map (·.1)).Nodup → Mk.del l k = l.filter (fun p => !(p.1 == k))
  | [], _ => rfl
  | a :: l, hn => by
    rw [List.map_cons, List.nodup_cons] at hn
    have ih := del_eq (k := k) l hn.2
    unfold Mk.del at ih ⊢
    rw [List.findIdx?_cons]
    by_cases e : a.1 = k
    · have e' : (a.1 == k) = true := by simpa using e
      simp only [e', if_true, List.eraseIdx_cons_zero]
      rw [List.filter_cons, e']
      simp only [Bool.not_true, Bool.false_eq_true, if_false]
      rw [List.filter_eq_self.2]
      intro p hp
      have : p.1 ≠ k := fun e2 => hn.1 (List.mem_map.2 ⟨p, hp, e2.trans e.symm⟩)
      simpa using this
    · have e' : (a.1 == k) = false := by simpa using e
      rw [List.filter_cons, e']
      simp only [Bool.not_false, if_true, Bool.false_eq_true, if_false]
      rw [← ih]
      cases l.findIdx? (fun x => x.1 == k) <;> simp
theorem find_filter {k j : Int} (h : j ≠ k) : ∀ l : ML, (l.filter (fun p => !(p.1 == k))).find? (fun p => p.1 == j) = l.find? (fun p => p.1 == j)
  | [] => rfl
  | a :: l => by
    have ih := find_filter h l
    rw [List.filter_cons]
    by_cases e : a.1 = k
    · have e1 : (a.1 == k) = true := by simpa using e
      have e2 : (a.1 == j) = false := by
        have : a.1 ≠ j := fun e3 => h (e3.symm.trans e)
        simpa using this
      simp only [e1, Bool.not_true, Bool.false_eq_true, if_false]
      rw [ih, List.find?_cons, e2]
    · have e1 : (a.1 == k) = false := by simpa using e
      simp only [e1, Bool.not_false, if_true]
      rw [List.find?_cons, List.find?_cons, ih]
theorem look_del {m : ML} (hn : (m.map (·.1)).Nodup) (k j : Int) : Mk.look (Mk.del m k) j = if j = k then none else Mk.look m j := by
  rw [del_eq m hn]
  unfold Mk.look
  by_cases e : j = k
  · subst e
    rw [if_pos rfl, Option.map_eq_none_iff, List.find?_eq_none]
    intro p hp
    have := (List.mem_filter.1 hp).2
    simpa using this
  · rw [if_neg e, find_filter e]
theorem gB_nil : gB [] := ⟨(fun p hp => by cases hp), List.nodup_nil, (fun p hp => by cases hp)⟩
theorem gB.set {m : ML} (h : gB m) {k z : Int} (hk : 0 ≤ k ∧ k ≤ 65535) (hz : I64 z) : gB (setM m k z) := by
  unfold setM
  split
  · rw [del_eq m h.nd]
    refine ⟨fun p hp => h.h p (List.mem_filter.1 hp).1, ?_, fun p hp => h.rg p (List.mem_filter.1 hp).1⟩
    exact List.Nodup.sublist (List.Sublist.map _ List.filter_sublist) h.nd
  · rename_i hz0
    have hn := Mk.put_nodup m k (.int .i64 z) h.nd
    have key : ∀ p ∈ Mk.put m k (.int .i64 z), p = (k, .int .i64 z) ∨ p ∈ m := by
      intro p hp
      have h1 := (Mk.look_mem hn (k := p.1) (v := p.2)).2 hp
      rw [Mk.look_put] at h1
      split at h1
      · rename_i e
        left
        have := Option.some.inj h1
        exact Prod.ext e this.symm
      · right
        exact (Mk.look_mem h.nd).1 h1
    refine ⟨fun p hp => ?_, hn, fun p hp => ?_⟩
    · rcases key p hp with rfl | h1
      · exact ⟨z, rfl, hz0, hz⟩
      · exact h.h p h1
    · rcases key p hp with rfl | h1
      · exact hk
      · exact h.rg p h1
theorem bal_set {m : ML} (h : gB m) {k z : Int} (hk : 0 ≤ k ∧ k ≤ 65535) (hz : I64 z) (j : Int) : bal (setM m k z) j = if j = k then z else bal m j := by
  rw [bal_look (h.set hk hz), bal_look h]
  unfold setM
  split
  · rename_i e
    subst e
    rw [look_del h.nd]
    split <;> rfl
  · rw [Mk.look_put]
    split <;> rfl
/-- Numbers without doubles below a bound are no more. -/
theorem nodup_le : ∀ (N : Nat) (l : List Int), l.Nodup → (∀ x ∈ l, 0 ≤ x ∧ x < N) → l.length ≤ N
  | 0, [], _, _ => Nat.le_refl _
  | 0, x :: l, _, h => by have := h x (by simp); omega
  | N + 1, l, hn, h => by
    have h1 := nodup_le N (l.erase N) (hn.erase _) (fun x hx => by
      have h2 := h x (List.mem_of_mem_erase hx)
      have h3 : x ≠ N := fun e => by
        subst e
        exact (List.Nodup.not_mem_erase hn) hx
      omega)
    have h4 := List.length_erase (a := (N : Int)) (l := l)
    split at h4 <;> omega
theorem gB.len {m : ML} (h : gB m) : m.length ≤ 65536 := by
  have := nodup_le 65536 (m.map (·.1)) h.nd (fun x hx => by
    obtain ⟨p, hp, rfl⟩ := List.mem_map.1 hx
    have := h.rg p hp
    omega)
  simpa using this
/-! what Apply does -/
def tot (m : ML) (qs : List (Int × Int)) (k : Int) : Int := (sel qs k).sum + bal m k
def inR (qs : List (Int × Int)) : Prop := ∀ q ∈ qs, 0 ≤ q.1 ∧ q.1 ≤ 65535
structure AppOk (m : ML) (qs : List (Int × Int)) (m' : ML) : Prop where
  g : gB m'
  b : ∀ k, bal m' k = tot m qs k
def AppR (m : ML) (qs : List (Int × Int)) (e : Int) (m' : ML) : Prop :=
  (e = 3 ∧ m' = m ∧ ¬ inR qs) ∨ (e = 6 ∧ m' = m ∧ inR qs ∧ ∃ q ∈ qs, ¬ I64 (tot m qs q.1)) ∨ (e = 0 ∧ inR qs ∧ (∀ q ∈ qs, I64 (tot m qs q.1)) ∧ AppOk m qs m')
def nF (m : ML) (qs : List (Int × Int)) (p : Int × Value) : Int × Value := (p.1, .int .i64 (tot m qs p.1))
/-- In the second loop. -/
structure LP2 (m am : ML) (qs : List (Int × Int)) (left : ML) (L : Bag) (nx : ML) : Prop where
  ex : ∃ done, am.Perm (done ++ left) ∧ (∃ R, L.Perm (left.map (aF qs) ++ R)) ∧ nx = done.map (nF m qs) ∧ ∀ p ∈ done, I64 (tot m qs p.1)
theorem LP2.start {m am : ML} {qs : List (Int × Int)} {L : Bag} (h : AMP am L qs) : LP2 m am qs am L [] :=
  ⟨[], List.Perm.refl _, ⟨[], by simpa using h.dat⟩, rfl, fun p hp => by cases hp⟩
theorem LP2.bag {m am nx : ML} {qs : List (Int × Int)} {left left' : ML} {L : Bag} {p : Int × Value} (h : LP2 m am qs left L nx) (hp : left.Perm (p :: left')) :
    ∃ A B, L = A ++ (p.2, iR (sel qs p.1)) :: B ∧ p ∈ am := by
  obtain ⟨done, h1, ⟨R, h2⟩, -, -⟩ := h
  have hin : (p.2, iR (sel qs p.1)) ∈ L := h2.mem_iff.2 (by
    refine List.mem_append_left _ (List.mem_map.2 ⟨p, hp.mem_iff.2 (by simp), rfl⟩))
  obtain ⟨A, B, e⟩ := List.append_of_mem hin
  exact ⟨A, B, e, h1.mem_iff.2 (by simp [hp.mem_iff])⟩
theorem LP2.go {m am nx : ML} {qs : List (Int × Int)} {left left' : ML} {A B : Bag} {p : Int × Value} (h : LP2 m am qs left (A ++ (p.2, iR (sel qs p.1)) :: B) nx) (hn : (am.map (·.1)).Nodup) (hp : left.Perm (p :: left')) (hi : I64 (tot m qs p.1)) (y : Value × List (List D)) :
    LP2 m am qs left' (y :: (A ++ B)) (Mk.put nx p.1 (.int .i64 (tot m qs p.1))) := by
  obtain ⟨done, h1, ⟨R, h2⟩, rfl, h3⟩ := h
  have h4 : am.Perm ((done ++ [p]) ++ left') := by
    rw [List.append_assoc]
    exact h1.trans (List.Perm.append_left _ hp)
  refine ⟨done ++ [p], h4, ⟨y :: R, ?_⟩, ?_, ?_⟩
  · have h5 : (A ++ (p.2, iR (sel qs p.1)) :: B).Perm ((p.2, iR (sel qs p.1)) :: (left'.map (aF qs) ++ R)) := h2.trans (List.Perm.append_right _ (hp.map (aF qs)))
    have h6 : (A ++ B).Perm (left'.map (aF qs) ++ R) := List.Perm.cons_inv (List.perm_middle.symm.trans h5)
    exact (List.Perm.cons _ h6).trans List.perm_middle.symm
  · have hno : Mk.look (done.map (nF m qs)) p.1 = none := by
      cases hl : Mk.look (done.map (nF m qs)) p.1 with
      | none => rfl
      | some v =>
        have h7 := look_in hl
        obtain ⟨q, hq, e⟩ := List.mem_map.1 h7
        have e0 : (nF m qs q).1 = p.1 := by rw [e]
        have e : q.1 = p.1 := e0
        have h8 := (h4.map (·.1)).nodup_iff.1 hn
        rw [List.map_append, List.map_append, List.nodup_append, List.nodup_append] at h8
        exact absurd e (h8.1.2.2 q.1 (List.mem_map.2 ⟨q, hq, rfl⟩) p.1 (by simp))
    rw [put_none hno, List.map_append]
    rfl
  · intro q hq
    rcases List.mem_append.1 hq with hq | hq
    · exact h3 q hq
    · simp only [List.mem_singleton] at hq
      subst hq
      exact hi
/-- In the third loop. -/
structure LP3 (m : ML) (qs : List (Int × Int)) (left m' : ML) : Prop where
  g : gB m'
  l : ∀ p ∈ left, p.2 = .int .i64 (tot m qs p.1) ∧ I64 (tot m qs p.1) ∧ 0 ≤ p.1 ∧ p.1 ≤ 65535
  n : (left.map (·.1)).Nodup
  b : ∀ k, bal m' k = if k ∈ left.map (·.1) then bal m k else tot m qs k
theorem LP3.start {m am nx : ML} {qs : List (Int × Int)} {L L' : Bag} (hm : gB m) (hA : AMP am L qs) (hr : inR qs) (h : LP2 m am qs [] L' nx) : LP3 m qs nx m := by
  obtain ⟨done, h1, -, rfl, h3⟩ := h
  rw [List.append_nil] at h1
  have hk : ∀ k, k ∈ done.map (·.1) ↔ ∃ q ∈ qs, q.1 = k := by
    intro k
    rw [← hA.key k, ← (h1.map (·.1)).mem_iff]
    constructor
    · intro hx
      obtain ⟨p, hp, rfl⟩ := List.mem_map.1 hx
      rw [(Mk.look_mem hA.nd (k := p.1) (v := p.2)).2 hp]
      rfl
    · intro hx
      obtain ⟨v, hv⟩ := Option.isSome_iff_exists.1 hx
      exact List.mem_map.2 ⟨_, look_in hv, rfl⟩
  have hmap : (done.map (nF m qs)).map (·.1) = done.map (·.1) := by rw [List.map_map]; rfl
  refine ⟨hm, fun p hp => ?_, ?_, fun k => ?_⟩
  · obtain ⟨q, hq, rfl⟩ := List.mem_map.1 hp
    obtain ⟨q2, hq2, e⟩ := (hk q.1).1 (List.mem_map.2 ⟨q, hq, rfl⟩)
    have := hr q2 hq2
    rw [e] at this
    exact ⟨rfl, h3 q hq, this⟩
  · rw [hmap]
    exact (h1.map (·.1)).nodup_iff.1 hA.nd
  · rw [hmap]
    split
    · rfl
    · rename_i hno
      have : sel qs k = [] := sel_none (fun q hq e => hno ((hk k).2 ⟨q, hq, e⟩))
      simp [tot, this]
theorem LP3.go {m m' : ML} {qs : List (Int × Int)} {left left' : ML} {p : Int × Value} {z : Int} (h : LP3 m qs left m') (hp : left.Perm (p :: left')) (hz : p.2 = .int .i64 z) : LP3 m qs left' (setM m' p.1 z) := by
  obtain ⟨e, hi, hr⟩ := h.l p (hp.mem_iff.2 (by simp))
  rw [hz] at e
  obtain rfl : z = tot m qs p.1 := by injection e
  have hn : ((p :: left').map (·.1)).Nodup := (hp.map (·.1)).nodup_iff.1 h.n
  rw [List.map_cons, List.nodup_cons] at hn
  refine ⟨h.g.set hr hi, fun q hq => h.l q (hp.mem_iff.2 (by simp [hq])), hn.2, fun k => ?_⟩
  rw [bal_set h.g hr hi, h.b k]
  have h1 : k ∈ left.map (·.1) ↔ k = p.1 ∨ k ∈ left'.map (·.1) := by
    rw [(hp.map (·.1)).mem_iff, List.map_cons, List.mem_cons]
  by_cases e1 : k = p.1
  · subst e1
    rw [if_pos rfl, if_neg hn.1]
  · rw [if_neg e1]
    by_cases e2 : k ∈ left'.map (·.1)
    · rw [if_pos (h1.2 (.inr e2)), if_pos e2]
    · rw [if_neg (fun h2 => (h1.1 h2).elim e1 e2), if_neg e2]
theorem LP3.fin {m m' : ML} {qs : List (Int × Int)} (h : LP3 m qs [] m') : AppOk m qs m' := ⟨h.g, fun k => by rw [h.b k]; simp⟩
end Go.Proofs.Yteakfibolfapiaa.Ab
