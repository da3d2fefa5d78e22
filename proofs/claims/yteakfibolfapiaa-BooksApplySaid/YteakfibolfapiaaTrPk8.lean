/- Several texts in one: Ab18, Ab19. -/
import Derived.Test.YteakfibolfapiaaTrPk7
import Derived.Orders
section
namespace Go.Proofs.Yteakfibolfapiaa.Ab
open Go.RowKit Go.Sort
set_option linter.unusedVariables false
set_option linter.unusedSimpArgs false

section
variable {P : Program} {T : Nat → TI} {ρ : Env} {w w' : World} {M : Nat → Prop} {n : Nat} {h : Hp}
variable {ops : Array Oper} {Q : Exit → Act → World → Prop}
/-- All orders, each world on the way of a kind. -/
def wpAnyW (P : Program) (ops : Array Oper) (Q : Exit → Act → World → Prop) (W : World → Prop) : Nat → Array Bool → Act → World → Prop
  | 0, listed, a, w => Region.ready .any ops listed = [] ∧ Q .normal a w
  | fuel + 1, listed, a, w => (Region.ready .any ops listed = [] → Q .normal a w) ∧
      ∀ i ∈ Region.ready .any ops listed, wpOp P ops Q i (fun a' w' => W w' ∧ wpAnyW P ops Q W fuel (listed.setIfInBounds i true) a' w') a w
theorem wpAnyW_mono {W W' : World → Prop} (hW : ∀ u, W u → W' u) : ∀ (fuel : Nat) (listed : Array Bool) (a : Act) (w : World), wpAnyW P ops Q W fuel listed a w → wpAnyW P ops Q W' fuel listed a w
  | 0, _, _, _, h => h
  | fuel + 1, listed, a, w, h => ⟨h.1, fun i hi => wpOp_mono (fun a' w' q => ⟨hW _ q.1, wpAnyW_mono hW fuel _ _ _ q.2⟩) (h.2 i hi)⟩
theorem wpAnyW_any {W : World → Prop} : ∀ (fuel : Nat) (listed : Array Bool) (a : Act) (w : World), wpAnyW P ops Q W fuel listed a w → wpAny P .any ops Q fuel listed a w
  | 0, _, _, _, h => h
  | fuel + 1, listed, a, w, h => ⟨h.1, fun i hi => wpOp_mono (fun a' w' q => wpAnyW_any fuel _ _ _ q.2) (h.2 i hi)⟩
/-- An operation that gives a value in each world of a kind. -/
def YieldsW (P : Program) (W : World → Prop) (o : Oper) (v : Value) (a : Act) : Prop := ∀ u, W u → (execOp a.eval o).run P u = .ok (.value v) u
theorem YieldsW.wpOp {W : World → Prop} {i : Nat} {o : Oper} {v : Value} {a : Act} (hi : ops[i]? = some o) (hg : o.guard = none) (hy : YieldsW P W o v a) (hw : W w) {K : Act → World → Prop} (h : K (a.put o.dst v) w) : wpOp P ops Q i K a w := by
  unfold Go.wpOp
  have hwt : Region.wanted o (yielded ops a.tmps) = true := by unfold Region.wanted; rw [hg]
  simp only [hi, hwt, if_true, Oper.wp, hy w hw, Oper.upon]
  exact .inl h
/-- Two that are apart may be exchanged. -/
theorem wpOp_late {W : World → Prop} {j : Nat} {oi oj : Oper} {v : Value} (hj : ops[j]? = some oj) (hap : oi.apart ops oj = true) (hsi : ∀ cs b, oi.op ≠ .select cs b) (hsj : ∀ cs b, oj.op ≠ .select cs b)
    (hQ : ∀ c a w, ¬ Q (.panic c) a w) (hL : ¬ LetsOut Q) {K : Act → World → Prop} {a : Act} (hy : YieldsW P W oi v a) (h : wpOp P ops Q j K (a.put oi.dst v) w) :
    wpOp P ops Q j (fun a' w' => YieldsW P W oi v a' ∧ K (a'.put oi.dst v) w') a w := by
  obtain ⟨h1, h2, h3⟩ := Oper.apart_spec hap
  have keep : ∀ (b : Act) (u : Value), YieldsW P W oi v b → YieldsW P W oi v (b.put oj.dst u) := fun b u q x hx => by rw [execOp_put oi hsi b oj.dst u h3]; exact q x hx
  unfold Go.wpOp at *
  simp only [hj, wanted_put oj a oi.dst v h1] at h ⊢
  cases hw : Region.wanted oj (yielded ops a.tmps) with
  | false =>
    simp only [hw, Bool.false_eq_true, if_false] at h ⊢
    exact ⟨keep a _ hy, by rw [← Act.put_comm a v undef h2]; exact h⟩
  | true =>
    simp only [hw, if_true] at h ⊢
    refine .inl ?_
    replace h := h.resolve_right (fun q => hL q.2)
    unfold Oper.wp at *
    rw [execOp_put oj hsj a oi.dst v h1] at h
    generalize (execOp a.eval oj).run P w = r at *
    have fin : ∀ (b : Act) (u : Value) (x : World), YieldsW P W oi v b → K ((b.put oi.dst v).put oj.dst u) x → YieldsW P W oi v (b.put oj.dst u) ∧ K ((b.put oj.dst u).put oi.dst v) x := fun b u x q k =>
      ⟨keep b u q, by rw [← Act.put_comm b v u h2]; exact k⟩
    cases r with
    | halt x w' =>
      cases x with
      | panic u => exact (hQ _ _ _ h).elim
      | _ => exact h.elim
    | ok nx w' =>
      cases nx with
      | value u => exact fin a u w' hy h
      | skip => exact fin a undef w' hy h
      | defer d =>
        simp only [Oper.upon, Act.put_defers] at h
        exact fin { a with defers := d :: a.defers } undef w' hy h
      | enter f args =>
        refine Calls.mono h (fun e w2 he => ?_)
        cases e with
        | returned u => exact fin a u w2 hy he
        | panicked c => exact (hQ _ _ _ he).elim
        | outgrown => exact he
      | row row args => exact Rows.mono h fun u w2 he => fin a u w2 hy he
      | _ => exact h.elim
theorem ready_after {i j : Nat} {listed : Array Bool} (hi : i ∈ Region.ready .any ops listed) (hj : j ∈ Region.ready .any ops listed) {o : Oper} (ho : ops[j]? = some o) : ∀ e ∈ o.after, Region.binds .any e = true → e.on ≠ i := by
  intro e he hb heq
  obtain ⟨-, o', ho', hall⟩ := mem_ready.1 hj
  rw [ho] at ho'
  obtain rfl := Option.some.inj ho'
  have h1 := hall e he hb
  rw [heq] at h1
  obtain ⟨h0, o2, ho2, -⟩ := mem_ready.1 hi
  rcases Nat.lt_or_ge i listed.size with hl | hl
  · simp [hl] at h0 h1; rw [h0] at h1; cases h1
  · simp [Array.getElem?_eq_none hl] at h1
/-- An easy operation that is ready may be run at once. -/
theorem wpAnyW_first {W : World → Prop} {i : Nat} {oi : Oper} {v : Value} (hi : ops[i]? = some oi) (hg : oi.guard = none) (hsel : ∀ (j : Nat) (o : Oper) cs b, ops[j]? = some o → o.op ≠ .select cs b)
    (hap : ∀ j oj, ops[j]? = some oj → j ≠ i → (∀ e ∈ oj.after, Region.binds .any e = true → e.on ≠ i) → (∀ e ∈ oi.after, Region.binds .any e = true → e.on ≠ j) → oi.apart ops oj = true)
    (hQ : ∀ c a w, ¬ Q (.panic c) a w) (hL : ¬ LetsOut Q) :
    ∀ (fuel : Nat) (listed : Array Bool) (a : Act) (w : World), i ∈ Region.ready .any ops listed → YieldsW P W oi v a → W w →
      wpAnyW P ops Q W fuel (listed.setIfInBounds i true) (a.put oi.dst v) w → wpAnyW P ops Q W (fuel + 1) listed a w := by
  intro fuel
  induction fuel with
  | zero =>
    intro listed a w hr hy hw H
    refine ⟨fun h => absurd (h ▸ hr) (by simp), fun j hj => ?_⟩
    by_cases hji : j = i
    · subst hji
      exact hy.wpOp hi hg hw ⟨hw, H⟩
    · have := ready_mono hj hji
      rw [H.1] at this
      cases this
  | succ fuel ih =>
    intro listed a w hr hy hw H
    refine ⟨fun h => absurd (h ▸ hr) (by simp), fun j hj => ?_⟩
    by_cases hji : j = i
    · subst hji
      exact hy.wpOp hi hg hw ⟨hw, H⟩
    · obtain ⟨-, oj, hoj, -⟩ := mem_ready.1 hj
      have h1 := wpOp_late (W := W) hoj (hap j oj hoj hji (ready_after hr hj hoj) (ready_after hj hr hi)) (fun cs b => hsel i oi cs b hi) (fun cs b => hsel j oj cs b hoj) hQ hL hy (H.2 j (ready_mono hj hji))
      refine wpOp_mono (fun a' w' q => ⟨q.2.1, ?_⟩) h1
      refine ih _ a' w' (ready_mono hr (Ne.symm hji)) q.1 q.2.1 ?_
      rw [Array.setIfInBounds_comm _ _ hji]
      exact q.2.2

/-- An operation that runs and gives a value wherever it stands, or that does not run. -/
def Late (P : Program) (ops : Array Oper) (W : World → Prop) (o : Oper) (v : Value) (a : Act) : Prop :=
  (Region.wanted o (yielded ops a.tmps) = true ∧ YieldsW P W o v a) ∨ (Region.wanted o (yielded ops a.tmps) = false ∧ v = undef)
theorem Late.wpOp {W : World → Prop} {i : Nat} {o : Oper} {v : Value} {a : Act} (hi : ops[i]? = some o) (hy : Late P ops W o v a) (hw : W w) {K : Act → World → Prop} (h : K (a.put o.dst v) w) : wpOp P ops Q i K a w := by
  unfold Go.wpOp
  rcases hy with ⟨hwt, hy⟩ | ⟨hwt, rfl⟩
  · simp only [hi, hwt, if_true, Oper.wp, hy w hw, Oper.upon]
    exact .inl h
  · simp only [hi, hwt, Bool.false_eq_true, if_false]
    exact h
theorem wpOp_late2 {W : World → Prop} {j : Nat} {oi oj : Oper} {v : Value} (hj : ops[j]? = some oj) (hap : oi.apart ops oj = true) (hsi : ∀ cs b, oi.op ≠ .select cs b) (hsj : ∀ cs b, oj.op ≠ .select cs b)
    (hQ : ∀ c a w, ¬ Q (.panic c) a w) (hL : ¬ LetsOut Q) {K : Act → World → Prop} {a : Act} (hy : Late P ops W oi v a) (h : wpOp P ops Q j K (a.put oi.dst v) w) :
    wpOp P ops Q j (fun a' w' => Late P ops W oi v a' ∧ K (a'.put oi.dst v) w') a w := by
  obtain ⟨h1, h2, h3⟩ := Oper.apart_spec hap
  have keep : ∀ (b : Act) (u : Value), Late P ops W oi v b → Late P ops W oi v (b.put oj.dst u) := fun b u q => by
    unfold Late at q ⊢
    rw [wanted_put oi b oj.dst u h3]
    rcases q with ⟨q1, q2⟩ | q
    · exact .inl ⟨q1, fun x hx => by rw [execOp_put oi hsi b oj.dst u h3]; exact q2 x hx⟩
    · exact .inr q
  unfold Go.wpOp at *
  simp only [hj, wanted_put oj a oi.dst v h1] at h ⊢
  cases hw : Region.wanted oj (yielded ops a.tmps) with
  | false =>
    simp only [hw, Bool.false_eq_true, if_false] at h ⊢
    exact ⟨keep a _ hy, by rw [← Act.put_comm a v undef h2]; exact h⟩
  | true =>
    simp only [hw, if_true] at h ⊢
    refine .inl ?_
    replace h := h.resolve_right (fun q => hL q.2)
    unfold Oper.wp at *
    rw [execOp_put oj hsj a oi.dst v h1] at h
    generalize (execOp a.eval oj).run P w = r at *
    have fin : ∀ (b : Act) (u : Value) (x : World), Late P ops W oi v b → K ((b.put oi.dst v).put oj.dst u) x → Late P ops W oi v (b.put oj.dst u) ∧ K ((b.put oj.dst u).put oi.dst v) x := fun b u x q k =>
      ⟨keep b u q, by rw [← Act.put_comm b v u h2]; exact k⟩
    cases r with
    | halt x w' =>
      cases x with
      | panic u => exact (hQ _ _ _ h).elim
      | _ => exact h.elim
    | ok nx w' =>
      cases nx with
      | value u => exact fin a u w' hy h
      | skip => exact fin a undef w' hy h
      | defer d =>
        simp only [Oper.upon, Act.put_defers] at h
        exact fin { a with defers := d :: a.defers } undef w' hy h
      | enter f args =>
        refine Calls.mono h (fun e w2 he => ?_)
        cases e with
        | returned u => exact fin a u w2 hy he
        | panicked c => exact (hQ _ _ _ he).elim
        | outgrown => exact he
      | row row args => exact Rows.mono h fun u w2 he => fin a u w2 hy he
      | _ => exact h.elim
/-- The same with a guard. -/
theorem wpAnyW_first2 {W : World → Prop} {i : Nat} {oi : Oper} {v : Value} (hi : ops[i]? = some oi) (hsel : ∀ (j : Nat) (o : Oper) cs b, ops[j]? = some o → o.op ≠ .select cs b)
    (hap : ∀ j oj, ops[j]? = some oj → j ≠ i → (∀ e ∈ oj.after, Region.binds .any e = true → e.on ≠ i) → (∀ e ∈ oi.after, Region.binds .any e = true → e.on ≠ j) → oi.apart ops oj = true)
    (hQ : ∀ c a w, ¬ Q (.panic c) a w) (hL : ¬ LetsOut Q) :
    ∀ (fuel : Nat) (listed : Array Bool) (a : Act) (w : World), i ∈ Region.ready .any ops listed → Late P ops W oi v a → W w →
      wpAnyW P ops Q W fuel (listed.setIfInBounds i true) (a.put oi.dst v) w → wpAnyW P ops Q W (fuel + 1) listed a w := by
  intro fuel
  induction fuel with
  | zero =>
    intro listed a w hr hy hw H
    refine ⟨fun h => absurd (h ▸ hr) (by simp), fun j hj => ?_⟩
    by_cases hji : j = i
    · subst hji
      exact hy.wpOp hi hw ⟨hw, H⟩
    · have := ready_mono hj hji
      rw [H.1] at this
      cases this
  | succ fuel ih =>
    intro listed a w hr hy hw H
    refine ⟨fun h => absurd (h ▸ hr) (by simp), fun j hj => ?_⟩
    by_cases hji : j = i
    · subst hji
      exact hy.wpOp hi hw ⟨hw, H⟩
    · obtain ⟨-, oj, hoj, -⟩ := mem_ready.1 hj
      have h1 := wpOp_late2 (W := W) hoj (hap j oj hoj hji (ready_after hr hj hoj) (ready_after hj hr hi)) (fun cs b => hsel i oi cs b hi) (fun cs b => hsel j oj cs b hoj) hQ hL hy (H.2 j (ready_mono hj hji))
      refine wpOp_mono (fun a' w' q => ⟨q.2.1, ?_⟩) h1
      refine ih _ a' w' (ready_mono hr (Ne.symm hji)) q.1 q.2.1 ?_
      rw [Array.setIfInBounds_comm _ _ hji]
      exact q.2.2
/-! the lists -/
theorem getB_eq : ∀ (l : List Bool) (i : Nat), getB l i = (l[i]?).getD true
  | [], i => by simp [getB]
  | b :: r, 0 => by simp [getB]
  | b :: r, i + 1 => by simp [getB, getB_eq r i]
theorem setB_eq : ∀ (l : List Bool) (i : Nat), setB l i = l.set i true
  | [], i => by simp [setB]
  | b :: r, 0 => by simp [setB]
  | b :: r, i + 1 => by simp [setB, setB_eq r i]
theorem setB_arr (l : List Bool) (i : Nat) : (setB l i).toArray = l.toArray.setIfInBounds i true := by rw [setB_eq]; simp
theorem getF_eq : ∀ (l : List Bool) (i : Nat), getF l i = (l[i]?).getD false
  | [], i => by simp [getF]
  | b :: r, 0 => by simp [getF]
  | b :: r, i + 1 => by simp [getF, getF_eq r i]
theorem afters_iff {l : List Bool} : ∀ (es : List Edge), (afters l es = true ↔ ∀ e ∈ es, Region.binds .any e = true → l.toArray.getD e.on false = true)
  | [] => by simp [afters]
  | e :: r => by
    have ih := afters_iff (l := l) r
    simp only [afters]
    cases hb : Region.binds .any e with
    | false => simp only [cond_false, ih]; simp [hb]
    | true =>
      have h1 : l.toArray.getD e.on false = getF l e.on := by
        rw [getF_eq]
        simp
      cases hg : getF l e.on with
      | false =>
        simp only [cond_true, cond_false, Bool.false_eq_true, false_iff]
        intro q
        have := q e (by simp) hb
        rw [h1, hg] at this
        cases this
      | true =>
        simp only [cond_true, ih]
        constructor
        · intro q x hx hb'
          rcases List.mem_cons.1 hx with rfl | hx
          · rw [h1, hg]
          · exact q x hx hb'
        · intro q x hx hb'
          exact q x (by simp [hx]) hb'
theorem readyA_iff {listed : List Bool} : ∀ (l : List Oper) (i j : Nat) (o : Oper), (j, o) ∈ readyA listed i l ↔ i ≤ j ∧ l[j - i]? = some o ∧ getB listed j = false ∧ afters listed o.after.toList = true
  | [], i, j, o => by simp [readyA]
  | x :: r, i, j, o => by
    have ih := readyA_iff (listed := listed) r (i + 1) j o
    have next : (i + 1 ≤ j ∧ r[j - (i + 1)]? = some o ∧ getB listed j = false ∧ afters listed o.after.toList = true) → (i ≤ j ∧ (x :: r)[j - i]? = some o ∧ getB listed j = false ∧ afters listed o.after.toList = true) := by
      rintro ⟨h1, h2, h3⟩
      refine ⟨by omega, ?_, h3⟩
      rw [show j - i = (j - (i + 1)) + 1 by omega]
      simpa using h2
    have prev : (i ≤ j ∧ (x :: r)[j - i]? = some o ∧ getB listed j = false ∧ afters listed o.after.toList = true) → (j = i ∧ o = x) ∨ (i + 1 ≤ j ∧ r[j - (i + 1)]? = some o ∧ getB listed j = false ∧ afters listed o.after.toList = true) := by
      rintro ⟨h1, h2, h3⟩
      rcases Nat.eq_or_lt_of_le h1 with e | hlt
      · subst e
        simp at h2
        exact .inl ⟨rfl, h2.symm⟩
      · rw [show j - i = (j - (i + 1)) + 1 by omega] at h2
        exact .inr ⟨hlt, by simpa using h2, h3⟩
    simp only [readyA]
    cases hg : getB listed i with
    | true =>
      simp only [cond_true, ih]
      constructor
      · exact next
      · intro q
        rcases prev q with ⟨rfl, rfl⟩ | q'
        · rw [hg] at q; simp at q
        · exact q'
    | false =>
      cases ha : afters listed x.after.toList with
      | false =>
        simp only [cond_false, ih]
        constructor
        · exact next
        · intro q
          rcases prev q with ⟨rfl, rfl⟩ | q'
          · rw [ha] at q; simp at q
          · exact q'
      | true =>
        simp only [cond_false, cond_true, List.mem_cons, Prod.mk.injEq, ih]
        constructor
        · rintro (⟨rfl, rfl⟩ | q)
          · exact ⟨Nat.le_refl _, by simp, hg, ha⟩
          · exact next q
        · intro q
          rcases prev q with ⟨rfl, rfl⟩ | q'
          · exact .inl ⟨rfl, rfl⟩
          · exact .inr q'
theorem ready_iff {listed : List Bool} {j : Nat} {o : Oper} : (j, o) ∈ readyA listed 0 ops.toList ↔ (j ∈ Region.ready .any ops listed.toArray ∧ ops[j]? = some o) := by
  rw [readyA_iff, mem_ready]
  have h1 : listed.toArray.getD j true = getB listed j := by rw [getB_eq]; simp
  rw [h1]
  constructor
  · rintro ⟨-, h2, h3, h4⟩
    rw [Nat.sub_zero, Array.getElem?_toList] at h2
    exact ⟨⟨h3, o, h2, fun e he => (afters_iff _).1 h4 e (by simpa using he)⟩, h2⟩
  · rintro ⟨⟨h3, o', h2, h4⟩, h5⟩
    rw [h5] at h2
    obtain rfl := Option.some.inj h2
    exact ⟨Nat.zero_le _, by rw [Nat.sub_zero, Array.getElem?_toList]; exact h5, h3, (afters_iff _).2 (fun e he => h4 e (by simpa using he))⟩
theorem ready_nil {listed : List Bool} (h : readyA listed 0 ops.toList = []) : Region.ready .any ops listed.toArray = [] := by
  cases hr : Region.ready .any ops listed.toArray with
  | nil => rfl
  | cons i r =>
    have hm : i ∈ Region.ready .any ops listed.toArray := by rw [hr]; simp
    obtain ⟨-, o, ho, -⟩ := mem_ready.1 hm
    have := ready_iff.2 ⟨hm, ho⟩
    rw [h] at this
    cases this
theorem firstEasy_spec {H : Hints} {reg : Nat} {st : St} {i : Nat} {o : Oper} : ∀ (l : List (Nat × Oper)), firstEasy T H reg st l = some (i, o) → (i, o) ∈ l ∧ o.guard = none ∧ easyOp T (frzs st (lkup (reg, i) H.fz)) o.op = true
  | [], h => by cases h
  | (j, x) :: r, h => by
    simp only [firstEasy] at h
    have next : firstEasy T H reg st r = some (i, o) → (i, o) ∈ (j, x) :: r ∧ o.guard = none ∧ easyOp T (frzs st (lkup (reg, i) H.fz)) o.op = true := fun q => by
      obtain ⟨h1, h2⟩ := firstEasy_spec r q
      exact ⟨by simp [h1], h2⟩
    cases hg : x.guard with
    | some g => rw [hg] at h; exact next h
    | none =>
      rw [hg] at h
      dsimp only at h
      cases he : easyOp T (frzs st (lkup (reg, j) H.fz)) x.op with
      | false => rw [he] at h; exact next h
      | true =>
        rw [he] at h
        simp only [cond_true, Option.some.injEq, Prod.mk.injEq] at h
        obtain ⟨rfl, rfl⟩ := h
        exact ⟨by simp, hg, he⟩
theorem eachA_mem {f : Nat × Oper → Prop} : ∀ (l : List (Nat × Oper)), eachA f l → ∀ p ∈ l, f p
  | [], _, p, hp => by cases hp
  | [q], h, p, hp => by simp at hp; rw [hp]; exact h
  | q :: x :: r, h, p, hp => by
    rcases List.mem_cons.1 hp with rfl | hp
    · exact h.1
    · exact eachA_mem (x :: r) h.2 p hp

/-! what is apart -/
theorem onB_iff {i : Nat} : ∀ es : List Edge, onB i es = false → ∀ e ∈ es, Region.binds .any e = true → e.on ≠ i
  | [], _, e, he, _ => by cases he
  | x :: r, h, e, he, hb => by
    simp only [onB] at h
    cases hx : (Region.binds .any x && x.on == i) with
    | true => rw [hx] at h; cases h
    | false =>
      rw [hx] at h
      rcases List.mem_cons.1 he with rfl | he
      · intro q
        rw [hb, q] at hx
        simp at hx
      · exact onB_iff r h e he hb
theorem onB_true {i : Nat} : ∀ es : List Edge, onB i es = true → ∃ e ∈ es, Region.binds .any e = true ∧ e.on = i
  | [], h => by cases h
  | x :: r, h => by
    simp only [onB] at h
    cases hx : (Region.binds .any x && x.on == i) with
    | true =>
      simp only [Bool.and_eq_true, beq_iff_eq] at hx
      exact ⟨x, by simp, hx⟩
    | false =>
      rw [hx] at h
      obtain ⟨e, he, h2⟩ := onB_true r h
      exact ⟨e, by simp [he], h2⟩
theorem tmpIn_iff {t : Nat} : ∀ l : List Operand, tmpIn t l = false → t ∉ l.filterMap (fun | .tmp t => some t | _ => none)
  | [], _ => by simp
  | x :: r, h => by
    cases x with
    | tmp u =>
      simp only [tmpIn] at h
      cases hb : u == t with
      | true => rw [hb] at h; cases h
      | false =>
        rw [hb] at h
        have := tmpIn_iff r h
        have hne : u ≠ t := by simpa using hb
        simp only [List.filterMap_cons, List.mem_cons, not_or]
        exact ⟨fun e => hne e.symm, this⟩
    | const v => simp only [tmpIn] at h; simpa using tmpIn_iff r h
    | global g => simp only [tmpIn] at h; simpa using tmpIn_iff r h
    | func f => simp only [tmpIn] at h; simpa using tmpIn_iff r h
theorem looks_iff {d : Nat} {y : Oper} (h : looks ops.toList d y = false) : d ∉ y.looksAt ops := by
  unfold looks at h
  unfold Oper.looksAt
  cases ht : tmpIn d y.op.operands.toList with
  | true => rw [ht] at h; cases h
  | false =>
    rw [ht] at h
    simp only [cond_false] at h
    rw [List.mem_append]
    rintro (h1 | h1)
    · exact tmpIn_iff _ ht h1
    · cases hg : y.guard with
      | none => rw [hg] at h1; cases h1
      | some gw =>
        obtain ⟨g, w⟩ := gw
        rw [hg] at h h1
        dsimp only at h h1
        unfold slotOf at h
        rw [Array.getElem?_toList] at h
        cases ho : ops[g]? with
        | none => rw [ho] at h1; cases h1
        | some o =>
          rw [ho] at h h1
          dsimp only [Option.bind_some] at h h1
          cases hd : o.dst with
          | none => rw [hd] at h1; cases h1
          | some t =>
            rw [hd] at h h1
            simp at h h1
            exact h h1.symm
theorem apartA_iff {x y : Oper} (h : apartA ops.toList x y = true) : x.apart ops y = true := by
  unfold apartA at h
  unfold Oper.apart
  rw [Bool.and_eq_true] at h ⊢
  obtain ⟨h1, h2⟩ := h
  constructor
  · cases hx : x.dst with
    | none => rfl
    | some d =>
      rw [hx] at h1
      dsimp only at h1 ⊢
      cases hl : looks ops.toList d y with
      | true => rw [hl] at h1; cases h1
      | false =>
        rw [hl] at h1
        simp only [cond_false] at h1
        have h3 := looks_iff hl
        cases hy : y.dst with
        | none => simp [h3]
        | some e =>
          rw [hy] at h1
          have hne : e ≠ d := by simpa using h1
          simp [h3, hne]
  · cases hy : y.dst with
    | none => rfl
    | some d =>
      rw [hy] at h2
      have h3 : looks ops.toList d x = false := by simpa using h2
      have h4 := looks_iff h3
      simp [h4]
theorem pairs_spec {i : Nat} {x : Oper} : ∀ (l : List Oper) (j : Nat), pairs ops.toList i x j l = true → ∀ k y, l[k]? = some y → (i = j + k ∨ onB i y.after.toList = true ∨ onB (j + k) x.after.toList = true ∨ apartA ops.toList x y = true)
  | [], j, _, k, y, hk => by simp at hk
  | z :: r, j, h, k, y, hk => by
    simp only [pairs] at h
    obtain ⟨h1, h2⟩ : (i == j || onB i z.after.toList || onB j x.after.toList || apartA ops.toList x z) = true ∧ pairs ops.toList i x (j + 1) r = true := by
      cases hb : (i == j || onB i z.after.toList || onB j x.after.toList || apartA ops.toList x z) with
      | false => rw [hb] at h; cases h
      | true => rw [hb] at h; exact ⟨rfl, h⟩
    cases k with
    | zero =>
      simp at hk
      subst hk
      simp only [Bool.or_eq_true, beq_iff_eq] at h1
      rw [Nat.add_zero]
      rcases h1 with ((h1 | h1) | h1) | h1 <;> simp [h1]
    | succ k =>
      have := pairs_spec r (j + 1) h2 k y (by simpa using hk)
      rwa [show j + 1 + k = j + (k + 1) by omega] at this
theorem regOK_spec : ∀ (l : List Oper) (i : Nat), regOK ops.toList i l = true → ∀ k x, l[k]? = some x → notSel x.op = true ∧ (x.guard = none → pairs ops.toList (i + k) x 0 ops.toList = true)
  | [], i, _, k, x, hk => by simp at hk
  | z :: r, i, h, k, x, hk => by
    simp only [regOK] at h
    obtain ⟨h1, h2⟩ : (notSel z.op && (!(z.guard.isNone) || pairs ops.toList i z 0 ops.toList)) = true ∧ regOK ops.toList (i + 1) r = true := by
      cases hb : (notSel z.op && (!(z.guard.isNone) || pairs ops.toList i z 0 ops.toList)) with
      | false => rw [hb] at h; cases h
      | true => rw [hb] at h; exact ⟨rfl, h⟩
    cases k with
    | zero =>
      simp at hk
      subst hk
      rw [Bool.and_eq_true] at h1
      refine ⟨h1.1, fun hg => ?_⟩
      have := h1.2
      rw [hg] at this
      simpa using this
    | succ k =>
      have := regOK_spec r (i + 1) h2 k x (by simpa using hk)
      rwa [show i + 1 + k = i + (k + 1) by omega] at this

/-! all orders -/
theorem any_sound (hT : TysOK P T) {C : CallS} (hC : ∀ f args n h K, C f args n h K → CallE P f args n h K) {H : Hints} {reg : Nat} {K : St → Prop} (hok : regOK ops.toList 0 ops.toList = true) (hQ : ∀ c a w, ¬ Q (.panic c) a w) (hL : ¬ LetsOut Q) :
    ∀ (fuel : Nat) (listed : List Bool) {ρ : Env} {w : World} {st : St} {a : Act}, RepS ρ st a w → anyA T real C H ops.toList reg fuel listed st K → (∀ a' w', Out K st.n ρ st.h w a' w' → Q .normal a' w') →
      wpAnyW P ops Q (Stay w (Mut ρ st.h)) fuel listed.toArray a w := by
  intro fuel
  induction fuel with
  | zero =>
    intro listed ρ w st a hs h hq
    simp only [anyA] at h
    cases hr : readyA listed 0 ops.toList with
    | nil =>
      rw [hr] at h
      exact ⟨ready_nil hr, hq a w ⟨ρ, st, h, hs, Nat.le_refl _, Goes.refl _ _ _ _⟩⟩
    | cons p l => rw [hr] at h; exact h.elim
  | succ fuel ih =>
    intro listed ρ w st a hs h hq
    simp only [anyA] at h
    cases hr : readyA listed 0 ops.toList with
    | nil =>
      rw [hr] at h
      have e := ready_nil hr
      refine ⟨fun _ => hq a w ⟨ρ, st, h, hs, Nat.le_refl _, Goes.refl _ _ _ _⟩, fun i hi => ?_⟩
      rw [e] at hi
      cases hi
    | cons p l =>
      rw [hr] at h
      dsimp only at h
      cases hf : firstEasy T H reg st (p :: l) with
      | some q =>
        obtain ⟨i, o⟩ := q
        rw [hf] at h
        dsimp only at h
        obtain ⟨hm, hg, he⟩ := firstEasy_spec _ hf
        rw [← hr] at hm
        obtain ⟨hir, hio⟩ := ready_iff.1 hm
        unfold stepA guardA at h
        rw [hg] at h
        dsimp only at h
        obtain ⟨f1, f2, f3⟩ := frzs_sound (lkup (reg, i) H.fz) hs
        obtain ⟨av, v, h1, h2, h3⟩ := easy_sound hT f1 he h
        have h1 := pzA_elim h1
        generalize frzs st (lkup (reg, i) H.fz) = st1 at *
        have rs : RepS ρ (st1.put o.dst av) (a.put o.dst v) w := ⟨by rw [put_defers]; exact f1.defers, by rw [put_h]; exact put_rel o.dst f1.fr h2, by rw [put_h, put_n]; exact f1.rep⟩
        have h4 := ih (setB listed i) rs h1 (fun a' w' q => hq a' w' (by
          rw [put_n, put_h, f2] at q
          exact q.lift (f3 st.n) (Nat.le_refl _)))
        rw [put_h, setB_arr] at h4
        have stay : ∀ u, Stay w (Mut ρ st1.h) u → Stay w (Mut ρ st.h) u := fun u hu => Stay.of_keeps ((f3 st.n).keeps) hu
        have sp := regOK_spec _ _ hok
        refine wpAnyW_mono stay (fuel + 1) _ _ _ (wpAnyW_first hio hg ?_ ?_ hQ hL fuel _ _ _ hir h3 (Stay.refl _ _) h4)
        · intro j oj cs b hj hse
          have := (sp j oj (by rw [Array.getElem?_toList]; exact hj)).1
          rw [hse] at this
          cases this
        · intro j oj hj hji ha hb
          have h5 := pairs_spec _ _ ((sp i o (by rw [Array.getElem?_toList]; exact hio)).2 hg) j oj (by rw [Array.getElem?_toList]; exact hj)
          rw [Nat.zero_add, Nat.zero_add] at h5
          rcases h5 with h5 | h5 | h5 | h5
          · exact absurd h5.symm hji
          · obtain ⟨e, he1, he2, he3⟩ := onB_true _ h5
            exact absurd he3 (ha e (by simpa using he1) he2)
          · obtain ⟨e, he1, he2, he3⟩ := onB_true _ h5
            exact absurd he3 (hb e (by simpa using he1) he2)
          · exact apartA_iff h5
      | none =>
        rw [hf] at h
        dsimp only at h
        rw [← hr] at h
        refine ⟨fun e => ?_, fun i hi => ?_⟩
        · have hm : p ∈ readyA listed 0 ops.toList := by rw [hr]; simp
          obtain ⟨q1, -⟩ := ready_iff.1 (show (p.1, p.2) ∈ _ from hm)
          rw [e] at q1
          cases q1
        · obtain ⟨-, o, ho, -⟩ := mem_ready.1 hi
          have h1 := eachA_mem _ h (i, o) (ready_iff.2 ⟨hi, ho⟩)
          unfold wpOp
          simp only [ho]
          refine step_sound (K := fun st => anyA T real C H ops.toList reg fuel (setB listed i) st K) hT hC hs h1 ?_
          rintro a' w' ⟨ρ', st', k1, k2, k3, k4⟩
          refine ⟨k4.keeps.stay, ?_⟩
          have h4 := ih (setB listed i) k2 k1 (fun a2 w2 q => hq a2 w2 (q.lift k4 k3))
          rw [setB_arr] at h4
          exact wpAnyW_mono (fun u hu => Stay.of_keeps k4.keeps hu) _ _ _ _ h4
theorem getO_eq : ∀ (l : List Oper) (i : Nat), getO l i = l[i]?
  | [], i => by simp [getO]
  | o :: r, 0 => rfl
  | o :: r, i + 1 => by rw [getO, getO_eq r i]; simp
theorem ordOf_len : ∀ l : List Nat, (ordOf l).length = l.length
  | [] => rfl
  | c :: r => by simp [ordOf, ordOf_len r]
/-- The given order is enough. -/
theorem ord_sound (hT : TysOK P T) {C : CallS} (hC : ∀ f args n h K, C f args n h K → CallE P f args n h K) {H : Hints} {reg : Nat} {K : St → Prop} (hok : regOK ops.toList 0 ops.toList = true) (hQ : ∀ c a w, ¬ Q (.panic c) a w) (hL : ¬ LetsOut Q) :
    ∀ (fuel : Nat) (l : List (Nat × Bool)) (listed : List Bool) {ρ : Env} {w : World} {st : St} {a : Act}, l.length ≤ fuel → ordOK ops.toList listed l = true → RepS ρ st a w → ordA T real C H ops.toList reg l st K → (∀ a' w', Out K st.n ρ st.h w a' w' → Q .normal a' w') →
      wpAnyW P ops Q (Stay w (Mut ρ st.h)) fuel listed.toArray a w := by
  intro fuel
  induction fuel with
  | zero =>
    intro l listed ρ w st a hlen hor hs h hq
    obtain rfl : l = [] := List.length_eq_zero_iff.1 (by omega)
    simp only [ordA] at h
    simp only [ordOK] at hor
    cases hr : readyA listed 0 ops.toList with
    | nil => exact ⟨ready_nil hr, hq a w ⟨ρ, st, h, hs, Nat.le_refl _, Goes.refl _ _ _ _⟩⟩
    | cons p l => rw [hr] at hor; cases hor
  | succ fuel ih =>
    intro l listed ρ w st a hlen hor hs h hq
    cases l with
    | nil =>
      simp only [ordA] at h
      simp only [ordOK] at hor
      cases hr : readyA listed 0 ops.toList with
      | nil =>
        have e := ready_nil hr
        refine ⟨fun _ => hq a w ⟨ρ, st, h, hs, Nat.le_refl _, Goes.refl _ _ _ _⟩, fun i hi => ?_⟩
        rw [e] at hi
        cases hi
      | cons p l => rw [hr] at hor; cases hor
    | cons c l =>
      obtain ⟨i, s⟩ := c
      simp only [List.length_cons] at hlen
      simp only [ordA] at h
      simp only [ordOK] at hor
      cases hr : readyA listed 0 ops.toList with
      | nil => rw [hr] at hor; cases hor
      | cons p t =>
        rw [hr] at hor
        simp only [Bool.and_eq_true] at hor
        obtain ⟨hor1, hor2⟩ := hor
        cases ho : getO ops.toList i with
        | none => rw [ho] at h; exact h.elim
        | some o =>
          rw [ho] at h
          dsimp only at h
          have hio : ops[i]? = some o := by rw [getO_eq, Array.getElem?_toList] at ho; exact ho
          cases s with
          | false =>
            simp only [cond_false, Bool.and_eq_true] at hor1
            obtain ⟨hor1, horp⟩ := hor1
            rw [ho] at horp
            dsimp only at horp h
            have hir : i ∈ Region.ready .any ops listed.toArray := by
              rw [List.any_eq_true] at hor1
              obtain ⟨q, hq1, hq2⟩ := hor1
              rw [← hr] at hq1
              obtain ⟨q1, q2⟩ := q
              have hq2 : q1 = i := by simpa using hq2
              subst hq2
              exact (ready_iff.1 hq1).1
            obtain ⟨f1, f2, f3⟩ := frzs_sound (lkup (reg, i) H.fz) hs
            generalize frzs st (lkup (reg, i) H.fz) = st1 at *
            obtain ⟨st2, g1, g2, g3, g4⟩ := guard_sound f1 h
            have hap : ∀ j oj, ops[j]? = some oj → j ≠ i → (∀ e ∈ oj.after, Region.binds .any e = true → e.on ≠ i) → (∀ e ∈ o.after, Region.binds .any e = true → e.on ≠ j) → o.apart ops oj = true := by
              intro j oj hj hji ha hb
              have h5 := pairs_spec _ _ horp j oj (by rw [Array.getElem?_toList]; exact hj)
              rw [Nat.zero_add] at h5
              rcases h5 with h5 | h5 | h5 | h5
              · exact absurd h5.symm hji
              · obtain ⟨e, he1, he2, he3⟩ := onB_true _ h5
                exact absurd he3 (ha e (by simpa using he1) he2)
              · obtain ⟨e, he1, he2, he3⟩ := onB_true _ h5
                exact absurd he3 (hb e (by simpa using he1) he2)
              · exact apartA_iff h5
            have sp := regOK_spec _ _ hok
            have hsel : ∀ (j : Nat) (o : Oper) cs b, ops[j]? = some o → o.op ≠ .select cs b := by
              intro j oj cs b hj hse
              have := (sp j oj (by rw [Array.getElem?_toList]; exact hj)).1
              rw [hse] at this
              cases this
            have key : ∀ (av : AV) (v : Value), RelV ρ w (Mut ρ st2.h) av v → ordA T real C H ops.toList reg l (st2.put o.dst av) K → Late P ops (Stay w (Mut ρ st2.h)) o v a → wpAnyW P ops Q (Stay w (Mut ρ st.h)) (fuel + 1) listed.toArray a w := by
              intro av v h2 h1 h3
              have rs : RepS ρ (st2.put o.dst av) (a.put o.dst v) w := ⟨by rw [put_defers]; exact g1.defers, by rw [put_h]; exact put_rel o.dst g1.fr h2, by rw [put_h, put_n]; exact g1.rep⟩
              have h4 := ih l (setB listed i) (by omega) hor2 rs h1 (fun a' w' q => hq a' w' (by
                rw [put_n, put_h, g2, g3, f2] at q
                exact q.lift (f3 st.n) (Nat.le_refl _)))
              rw [put_h, setB_arr] at h4
              have stay : ∀ u, Stay w (Mut ρ st2.h) u → Stay w (Mut ρ st.h) u := fun u hu => Stay.of_keeps ((f3 st.n).keeps) (by rw [← g2]; exact hu)
              exact wpAnyW_mono stay (fuel + 1) _ _ _ (wpAnyW_first2 hio hsel hap hQ hL fuel _ _ _ hir h3 (Stay.refl _ _) h4)
            rcases g4 with ⟨hwt, g4⟩ | ⟨hwt, g4⟩
            · cases he : easyOp T st2 o.op with
              | false => rw [he] at g4; exact g4.elim
              | true =>
                rw [he] at g4
                dsimp only at g4
                obtain ⟨av, v, h1, h2, h3⟩ := easy_sound hT g1 he g4
                exact key av v h2 (pzB_elim h1) (.inl ⟨hwt, h3⟩)
            · exact key (.tup []) undef ⟨#[], rfl, rfl⟩ (pzB_elim g4) (.inr ⟨hwt, rfl⟩)
          | true =>
            simp only [cond_true, Bool.and_eq_true, beq_iff_eq] at hor1
            dsimp only at h
            obtain ⟨hp, ht⟩ := hor1
            obtain rfl : t = [] := by cases t with | nil => rfl | cons a b => simp at ht
            refine ⟨fun e => ?_, fun j hj => ?_⟩
            · have hm : p ∈ readyA listed 0 ops.toList := by rw [hr]; simp
              obtain ⟨q1, -⟩ := ready_iff.1 (show (p.1, p.2) ∈ _ from hm)
              rw [e] at q1
              cases q1
            · obtain ⟨-, oj, hoj, -⟩ := mem_ready.1 hj
              have hm := ready_iff.2 ⟨hj, hoj⟩
              rw [hr, List.mem_singleton] at hm
              have hji : j = i := by rw [← hp, ← hm]
              subst hji
              rw [hio] at hoj
              obtain rfl := Option.some.inj hoj
              unfold wpOp
              simp only [hio]
              refine step_sound (K := fun st => pzB l.length fun _ => ordA T real C H ops.toList reg l st K) hT hC hs h ?_
              rintro a' w' ⟨ρ', st', k1, k2, k3, k4⟩
              have k1 := pzB_elim k1
              refine ⟨k4.keeps.stay, ?_⟩
              have h4 := ih l (setB listed j) (by omega) hor2 k2 k1 (fun a2 w2 q => hq a2 w2 (q.lift k4 k3))
              rw [setB_arr] at h4
              exact wpAnyW_mono (fun u hu => Stay.of_keeps k4.keeps hu) _ _ _ _ h4
end
end Go.Proofs.Yteakfibolfapiaa.Ab
end
section
namespace Go.Proofs.Yteakfibolfapiaa.Ab
open Go.RowKit Go.Sort
set_option linter.unusedVariables false
set_option linter.unusedSimpArgs false

/-! what is forgotten -/
theorem memN_iff {x : Nat} : ∀ l : List Nat, memN x l = true ↔ x ∈ l
  | [] => by simp [memN]
  | y :: r => by
    simp only [memN]
    cases hb : x == y with
    | true => simp [eq_of_beq hb]
    | false =>
      have : x ≠ y := by simpa using hb
      simp [memN_iff r, this]
theorem allN_iff {p : Nat → Bool} : ∀ l : List Nat, allN p l = true ↔ ∀ x ∈ l, p x = true
  | [] => by simp [allN]
  | y :: r => by
    simp only [allN]
    cases hb : p y with
    | true => simp [allN_iff r, hb]
    | false => simp [hb]
theorem nodupN_iff : ∀ l : List Nat, nodupN l = true → l.Nodup
  | [], _ => by simp
  | y :: r, h => by
    simp only [nodupN] at h
    cases hb : memN y r with
    | true => rw [hb] at h; cases h
    | false =>
      rw [hb] at h
      rw [List.nodup_cons]
      refine ⟨fun hm => ?_, nodupN_iff r h⟩
      rw [← memN_iff, hb] at hm
      cases hm
section
variable {P : Program} {T : Nat → TI} {ρ ρ' : Env} {w w' : World} {M M' : Nat → Prop} {n : Nat} {h : Hp}
mutual
theorem ren_rel {f : Nat → Nat} (hk : Keeps w M w M') : ∀ (x : AV) (v : Value), (∀ i ∈ idsV x, ρ' (f i) = ρ i) → RelV ρ w M x v → RelV ρ' w M' (renV f x) v
  | .d x, v, hi, r => RelD.mono hk x v r
  | .ptr i off, v, hi, ⟨b, hb, hv⟩ => ⟨b, by rw [hi i (by simp [idsV])]; exact hb, hv⟩
  | .iptr l i g, v, hi, ⟨b, off, cs, e, fz, c, hv, h0, hb, hm, hl, hr⟩ => by
      obtain ⟨h1, h2⟩ := hk b _ hb hm
      exact ⟨b, off, cs, e, fz, c, hv, h0, h1, h2, hl, RelRows.mono hk l _ hr⟩
  | .rptr i c j g, v, hi, ⟨g', n, cap, hb, h0, hv⟩ => ⟨g', n, cap, by rw [hi i (by simp [idsV])]; exact hb, h0, hv⟩
  | .aptr i off n c j g, v, hi, ⟨b, hb, h0, h1, hv⟩ => ⟨b, by rw [hi i (by simp [idsV])]; exact hb, h0, h1, hv⟩
  | .sl i, v, hi, ⟨r, h2⟩ => ⟨by rw [hi i (by simp [idsV])]; exact r, h2⟩
  | .map i, v, hi, ⟨r, h2⟩ => ⟨by rw [hi i (by simp [idsV])]; exact r, h2⟩
  | .iter i, v, hi, ⟨r, h2⟩ => ⟨by rw [hi i (by simp [idsV])]; exact r, h2⟩
  | .agg vs, v, hi, ⟨cs, hv, r⟩ => ⟨cs, hv, rens_rel hk vs _ hi r⟩
  | .tup vs, v, hi, ⟨cs, hv, r⟩ => ⟨cs, hv, rens_rel hk vs _ hi r⟩
  | .fn g vs, v, hi, ⟨cs, hv, r⟩ => ⟨cs, hv, rens_rel hk vs _ hi r⟩
  | .ifc t x, v, hi, ⟨y, hv, r⟩ => ⟨y, hv, ren_rel hk x _ hi r⟩
  | .top, v, hi, r => trivial
  | .raw v0, v, hi, r => r
theorem rens_rel {f : Nat → Nat} (hk : Keeps w M w M') : ∀ (x : List AV) (v : List Value), (∀ i ∈ idsVs x, ρ' (f i) = ρ i) → RelVs ρ w M x v → RelVs ρ' w M' (renVs f x) v
  | [], vs, hi, r => r
  | d :: ds, vs, hi, ⟨v, rest, hv, r1, r2⟩ => ⟨v, rest, hv, ren_rel hk d v (fun i h => hi i (by simp [idsVs, h])) r1, rens_rel hk ds rest (fun i h => hi i (by simp [idsVs, h])) r2⟩
end
theorem keepF_rel {f : Nat → Nat} {slots : List Nat} (hk : Keeps w M w M') : ∀ (l : List AV) (i : Nat) (vs : List Value), (∀ j ∈ idsF slots i l, ρ' (f j) = ρ j) → RelVs ρ w M l vs → RelVs ρ' w M' (keepF f slots i l) vs
  | [], i, vs, hi, r => r
  | x :: r, i, vs, hi, ⟨v, rest, hv, r1, r2⟩ => by
    refine ⟨v, rest, hv, ?_, keepF_rel hk r (i + 1) rest (fun j hj => hi j (by simp [idsF, hj])) r2⟩
    cases hm : memN i slots with
    | true => exact ren_rel hk x v (fun j hj => hi j (by simp [idsF, hm, hj])) r1
    | false => exact trivial
theorem keepH_mem {f : Nat → Nat} {h : Hp} : ∀ (l : List Nat) (i : Nat) (o : Ob), (i, o) ∈ keepH f h l → ∃ s o', s ∈ l ∧ hget h s = some o' ∧ i = f s ∧ o = renO f o'
  | [], i, o, hm => by simp [keepH] at hm
  | s :: r, i, o, hm => by
    simp only [keepH] at hm
    cases ho : hget h s with
    | none =>
      rw [ho] at hm
      obtain ⟨s', o', h1, h2⟩ := keepH_mem r i o hm
      exact ⟨s', o', by simp [h1], h2⟩
    | some x =>
      rw [ho] at hm
      dsimp only at hm
      rcases List.mem_cons.1 hm with e | hm
      · simp only [Prod.mk.injEq] at e
        exact ⟨s, x, by simp, ho, e.1, e.2⟩
      · obtain ⟨s', o', h1, h2⟩ := keepH_mem r i o hm
        exact ⟨s', o', by simp [h1], h2⟩
theorem keepH_ids {f : Nat → Nat} {h : Hp} : ∀ (l : List Nat), ((keepH f h l).map (·.1)).Sublist (l.map f)
  | [] => List.Sublist.slnil
  | s :: r => by
    simp only [keepH]
    cases ho : hget h s with
    | none => exact (keepH_ids r).trans (List.sublist_cons_self _ _)
    | some x => exact (keepH_ids r).cons_cons _
theorem idsH_mem {h : Hp} : ∀ (l : List Nat) (s : Nat) (o : Ob), s ∈ l → hget h s = some o → ∀ i ∈ idsO o, i ∈ idsH (keepH id h l)
  | [], s, o, hs, _, i, _ => by cases hs
  | t :: r, s, o, hs, ho, i, hi => by
    simp only [keepH]
    have e : idsO (renO id o) = idsO o := by
      cases o with
      | cells q => simp [renO, idsO, ren_id]
      | row c q => rfl
      | mp k m => rfl
      | it k e m c0 => rfl
      | sit s p => rfl
      | bag c l => rfl
    rcases List.mem_cons.1 hs with rfl | hs
    · rw [ho]
      simp only [idsH, List.mem_append, e]
      exact .inl hi
    · have := idsH_mem r s o hs ho i hi
      cases hget h t with
      | none => exact this
      | some x => simp only [idsH, List.mem_append]; exact .inr this
where
  ren_id (q : List AV) : idsVs (renVs id q) = idsVs q := by rw [renVs_id q]
  renVs_id : ∀ q : List AV, renVs id q = q
    | [] => rfl
    | x :: r => by rw [renVs, renV_id x, renVs_id r]
  renV_id : ∀ q : AV, renV id q = q
    | .d x => rfl
    | .ptr i off => rfl
    | .iptr l' i g => rfl
    | .rptr i c j g => rfl
    | .aptr i off n c j g => rfl
    | .sl i => rfl
    | .map i => rfl
    | .iter i => rfl
    | .agg vs => by rw [renV, renVs_id vs]
    | .tup vs => by rw [renV, renVs_id vs]
    | .fn g vs => by rw [renV, renVs_id vs]
    | .ifc t x => by rw [renV, renV_id x]
    | .top => rfl
    | .raw _ => rfl
theorem renV_id' (q : AV) : renV (fun i => i) q = q := idsH_mem.renV_id q
/-- The places under their new numbers. -/
def renE (f : Nat → Nat) (n0 : Nat) (ids : List Nat) (ρ : Env) : Env := ⟨fun t =>
  match ids.find? (fun s => f s == t) with
  | some s => ρ s
  | none => if t < n0 then ρ t else none, ρ.F⟩
theorem nodup_inj {f : Nat → Nat} : ∀ {l : List Nat}, (l.map f).Nodup → ∀ a ∈ l, ∀ b ∈ l, f a = f b → a = b
  | [], _, a, ha, _, _, _ => by cases ha
  | x :: r, h, a, ha, b, hb, e => by
    rw [List.map_cons, List.nodup_cons] at h
    rcases List.mem_cons.1 ha with rfl | ha' <;> rcases List.mem_cons.1 hb with rfl | hb'
    · rfl
    · exact absurd (List.mem_map.2 ⟨b, hb', e.symm⟩) h.1
    · exact absurd (List.mem_map.2 ⟨a, ha', e⟩) h.1
    · exact nodup_inj h.2 a ha' b hb' e
theorem renE_at {f : Nat → Nat} {n0 : Nat} {ids : List Nat} (hn : (ids.map f).Nodup) {s : Nat} (hs : s ∈ ids) : renE f n0 ids ρ (f s) = ρ s := by
  unfold renE
  dsimp only
  cases hf : ids.find? (fun t => f t == f s) with
  | none =>
    have := List.find?_eq_none.1 hf s hs
    simp at this
  | some t =>
    have h1 := List.find?_some hf
    have h2 := List.mem_of_find?_eq_some hf
    have : t = s := nodup_inj hn t h2 s hs (by simpa using h1)
    rw [this]
theorem wk_sound {n0 : Nat} {k : Wk} {st : St} {a : Act} (hs : RepS ρ st a w) (hn0 : n0 ≤ st.n) (h : wkOK n0 k st = true) : ∃ ρ', RepS ρ' (wk k st) a w ∧ n0 ≤ (wk k st).n ∧ Goes n0 ρ st.h w ρ' (wk k st).h w := by
  obtain ⟨f1, f2, f3⟩ := frzs_sound k.fz hs
  unfold wkOK at h
  unfold wk
  have g0 := f3 n0
  generalize frzs st k.fz = st1 at *
  simp only [Bool.and_eq_true] at h
  obtain ⟨⟨⟨⟨⟨h1, h2⟩, h3⟩, h4⟩, h5⟩, h6⟩ := h
  have h1 := Nat.le_of_ble_eq_true h1
  have h3 := nodupN_iff _ h3
  have h4 := nodupN_iff _ h4
  rw [allN_iff] at h5 h6
  have h5 : ∀ s ∈ k.ids, renI k.θ s < k.n ∧ (renI k.θ s = s ∨ n0 ≤ renI k.θ s) := fun s hs => by
    have := h5 s hs
    simp only [Bool.and_eq_true, Bool.or_eq_true, beq_iff_eq] at this
    exact ⟨Nat.le_of_ble_eq_true this.1, this.2.imp id Nat.le_of_ble_eq_true⟩
  have h6 : ∀ s, s ∈ idsF k.slots 0 st1.fr ∨ s ∈ idsH (keepH id st1.h k.ids) → s ∈ k.ids := fun s hs => by
    have := h6 s (List.mem_append.2 hs)
    rwa [memN_iff] at this
  have at_ : ∀ s ∈ k.ids, renE (renI k.θ) n0 k.ids ρ (renI k.θ s) = ρ s := fun s hs => renE_at h3 hs
  have hloc : ∀ b, Loc (renE (renI k.θ) n0 k.ids ρ) (keepH (renI k.θ) st1.h k.ids) b → Loc ρ st1.h b := by
    rintro b ⟨i, o, v, m1, m2, m3⟩
    obtain ⟨s, o', q1, q2, rfl, rfl⟩ := keepH_mem _ _ _ m1
    rw [at_ s q1] at m2
    exact ⟨s, o', v, hget_mem q2, m2, m3⟩
  have hmut : ∀ b, Mut (renE (renI k.θ) n0 k.ids ρ) (keepH (renI k.θ) st1.h k.ids) b → Mut ρ st1.h b := fun b m => m.imp (fun f => f) (hloc b)
  have hk : Keeps w (Mut ρ st1.h) w (Mut (renE (renI k.θ) n0 k.ids ρ) (keepH (renI k.θ) st1.h k.ids)) := fun b o hb hm => ⟨hb, fun m => hm (hmut b m)⟩
  refine ⟨renE (renI k.θ) n0 k.ids ρ, ⟨hs.defers, keepF_rel hk _ 0 _ (fun j hj => at_ j (h6 j (.inl hj))) f1.fr, ?_, ?_, ?_, ?_, ?_, f1.rep.old.as rfl⟩, h1, g0.trans ⟨rfl, rfl, rfl, Nat.le_refl _, fun _ _ _ => rfl, fun b _ m => hloc b m, ?_, rfl⟩⟩
  · exact h3.sublist (keepH_ids k.ids)
  · intro i o hm
    obtain ⟨s, o', q1, q2, rfl, rfl⟩ := keepH_mem _ _ _ hm
    have r := f1.rep.objs s o' (hget_mem q2)
    cases o' with
    | cells q =>
      obtain ⟨b, cs, ty, r1, r2, r3⟩ := r
      exact ⟨b, cs, ty, by rw [at_ s q1]; exact r1, r2, rens_rel hk _ _ (fun j hj => at_ j (h6 j (.inr (idsH_mem k.ids s _ q1 q2 j hj)))) r3⟩
    | row c q =>
      obtain ⟨v, xs, ty, r1, r2, r3, r4, r5⟩ := r
      exact ⟨v, xs, ty, by rw [at_ s q1]; exact r1, r2, r3, r4, RelRows.mono hk _ _ r5⟩
    | mp k2 q => obtain ⟨r', r1, r2⟩ := r; exact ⟨r', by rw [at_ s q1]; exact r1, r2⟩
    | it k2 e2 q c0 => obtain ⟨b, r', r1, r2, r3⟩ := r; exact ⟨b, r', by rw [at_ s q1]; exact r1, r2, by obtain ⟨E, cl, seen, g1, g2⟩ := r2; exact (hk r' _ g1 r3).2⟩
    | sit s2 p2 => obtain ⟨b, r1, r2⟩ := r; exact ⟨b, by rw [at_ s q1]; exact r1, r2⟩
    | bag c2 l2 =>
      obtain ⟨vs, r1, r2, r3, r4, r5⟩ := r
      exact ⟨vs, by rw [at_ s q1]; exact r1, r2, r3, fun p hp => by obtain ⟨xs, ty, g1, g2, g3⟩ := r4 p hp; exact ⟨xs, ty, g1, g2, RelRows.mono hk _ _ g3⟩, r5⟩
  · intro i o j o2 v v2 b hi hj m1 m2 m3 m4
    obtain ⟨s, o', q1, q2, rfl, rfl⟩ := keepH_mem _ _ _ hi
    obtain ⟨s2, o2', q3, q4, rfl, rfl⟩ := keepH_mem _ _ _ hj
    rw [at_ s q1] at m1
    rw [at_ s2 q3] at m2
    rw [f1.rep.inj s o' s2 o2' v v2 b (hget_mem q2) (hget_mem q4) m1 m2 m3 m4]
  · intro t ht
    dsimp only at ht
    unfold renE
    dsimp only
    cases hf : k.ids.find? (fun s => renI k.θ s == t) with
    | none => simp only; rw [if_neg (by omega)]
    | some s =>
      have q1 := List.find?_some hf
      have q2 := (h5 s (List.mem_of_find?_eq_some hf)).1
      simp at q1
      omega
  · intro i o v b hi m1 m2
    obtain ⟨s, o', q1, q2, rfl, rfl⟩ := keepH_mem _ _ _ hi
    rw [at_ s q1] at m1
    exact f1.rep.sep s o' v b (hget_mem q2) m1 m2
  · intro t ht
    unfold renE
    dsimp only
    cases hf : k.ids.find? (fun s => renI k.θ s == t) with
    | none => simp only; rw [if_pos ht]
    | some s =>
      have q1 := List.find?_some hf
      have q2 := (h5 s (List.mem_of_find?_eq_some hf)).2
      have q1 : renI k.θ s = t := by simpa using q1
      dsimp only
      rcases q2 with q2 | q2
      · rw [← q1, q2]
      · omega

/-! code -/
/-- What is said behind code. -/
def Post (K : Ex → St → Prop) (n0 : Nat) (ρ : Env) (h : Hp) (w : World) : Exit → Act → World → Prop
  | .normal, a, w' => Out (K .normal) n0 ρ h w a w'
  | .exit i, a, w' => Out (K (.exit i)) n0 ρ h w a w'
  | .ret, a, w' => Out (K .ret) n0 ρ h w a w'
  | _, _, _ => False
theorem Post.lift {K : Ex → St → Prop} {n0 : Nat} {ρ1 : Env} {h1 : Hp} {w1 : World} (g : Goes n0 ρ h w ρ1 h1 w1) {e : Exit} {a : Act} (p : Post K n0 ρ1 h1 w1 e a w') : Post K n0 ρ h w e a w' := by
  cases e with
  | normal => exact Out.lift g (Nat.le_refl _) p
  | exit i => exact Out.lift g (Nat.le_refl _) p
  | ret => exact Out.lift g (Nat.le_refl _) p
  | _ => exact p.elim
/-- A loop, its measure taken of what is hidden. -/
theorem wp_loop_hid {G : Type} {c : Code} {Q : Exit → Act → World → Prop} (I : G → Act → World → Prop) (μ : G → Nat) {g : G} {a : Act} (h₀ : I g a w)
    (round : ∀ g a w, I g a w → c.wp P (Exit.then (fun a' w' => ∃ g', I g' a' w' ∧ μ g' < μ g) Q) a w) : (Code.loop c).wp P Q a w := by
  have key : ∀ (m : Nat) (g : G) (a : Act) (w : World), μ g = m → I g a w → ∀ b k cs, ∃ e a' w', Q e a' w' ∧ Arrives P (lone (b.at a (.code c :: .inLoop c :: k)) cs w) b k cs e a' w' := by
    intro m
    induction m using Nat.strongRecOn with
    | _ m ih =>
      intro g a w hm hI b k cs
      obtain ⟨e, a1, w1, hq, arr⟩ := round g a w hI b (.inLoop c :: k) cs
      have out : Q e a1 w1 → e ≠ .normal → ∃ e a' w', Q e a' w' ∧ Arrives P (lone (b.at a (.code c :: .inLoop c :: k)) cs w) b k cs e a' w' :=
        fun q hne => ⟨e, a1, w1, q, Arrives.pass (x := .inLoop c) rfl (fun _ _ => .inl hne) arr⟩
      cases e with
      | normal =>
        obtain ⟨g1, hI1, hlt⟩ := hq
        obtain ⟨e2, a2, w2, q2, arr2⟩ := ih (μ g1) (hm ▸ hlt) g1 a1 w1 rfl hI1 b k cs
        exact ⟨e2, a2, w2, q2, .of_steps (Steps.trans arr (.one step_inLoop)) arr2⟩
      | exit i => exact out hq (by simp)
      | goto l => exact out hq (by simp)
      | ret => exact out hq (by simp)
      | panic ch => exact out hq (by simp)
      | outgrown => exact out hq (by simp)
  intro b k cs
  obtain ⟨e, a', w', q, arr⟩ := key _ g a w rfl h₀ b k cs
  exact ⟨e, a', w', q, .of_steps (.one step_loop) arr⟩
theorem aw_sound (hT : TysOK P T) {C : CallS} (hC : ∀ f args n h K, C f args n h K → CallE P f args n h K) (hm : P.follows .mixedOrders = true) {H : Hints} {n0 : Nat} : ∀ (c : Code) {ρ : Env} {w : World} {st : St} {a : Act} {K : Ex → St → Prop}, RepS ρ st a w → n0 ≤ st.n →
    aw T real C H n0 c st K → c.wp P (Post K n0 ρ st.h w) a w
  | .skip, ρ, w, st, a, K, hs, hn, h => wp_skip ⟨ρ, st, h, hs, hn, Goes.refl _ _ _ _⟩
  | .label l, ρ, w, st, a, K, hs, hn, h => wp_label ⟨ρ, st, h, hs, hn, Goes.refl _ _ _ _⟩
  | .exit i, ρ, w, st, a, K, hs, hn, h => wp_exit ⟨ρ, st, h, hs, hn, Goes.refl _ _ _ _⟩
  | .ret, ρ, w, st, a, K, hs, hn, h => wp_ret ⟨ρ, st, h, hs, hn, Goes.refl _ _ _ _⟩
  | .region id ops false, ρ, w, st, a, K, hs, hn, h => wp_region_list (ops_sound hT hC ops.toList 0 hs h (fun a' w' q => Out.lift (Goes.refl _ _ _ _) hn q))
  | .region id ops true, ρ, w, st, a, K, hs, hn, h => by
    simp only [aw] at h
    refine wp_region_any hm ?_
    have hd : Goes n0 ρ st.h w ρ st.h { w with drawn := w.drawn + 1 } := ⟨rfl, rfl, rfl, Nat.le_refl _, fun _ _ _ => rfl, fun _ _ m => m, fun _ _ => rfl, rfl⟩
    have hg : Grows w { w with drawn := w.drawn + 1 } := fun b x hb => hb
    have hs' : RepS ρ st a { w with drawn := w.drawn + 1 } := ⟨hs.defers, RelVs.mono (EnvSub.refl ρ) hg.keeps _ _ hs.fr, hs.rep.grow hg⟩
    have e1 : (falses ops.toList).toArray = Array.replicate ops.size false := by
      rw [show ops.size = ops.toList.length by simp]
      generalize ops.toList = l
      induction l with
      | nil => rfl
      | cons x r ih =>
        apply Array.ext'
        have := congrArg Array.toList ih
        simp at this
        simp [falses, this, List.replicate_succ]
    have key : wpAnyW P ops (Post K n0 ρ st.h w) (Stay { w with drawn := w.drawn + 1 } (Mut ρ st.h)) ops.toList.length (falses ops.toList).toArray a { w with drawn := w.drawn + 1 } := by
      split at h
      · obtain ⟨⟨hok⟩, h⟩ := h
        have h := h (K .normal) (fun _ q => q)
        exact any_sound (Q := Post K n0 ρ st.h w) hT hC (reg := id) hok (fun c a w q => q) (fun ⟨a, w, q⟩ => q) ops.toList.length (falses ops.toList) hs' h (fun a' w' q => Out.lift hd hn q)
      · obtain ⟨⟨hor⟩, h⟩ := h
        have h := h (K .normal) (fun _ q => q)
        simp only [Bool.and_eq_true, Nat.ble_eq] at hor
        obtain ⟨⟨hok, hlen⟩, hor⟩ := hor
        exact ord_sound (Q := Post K n0 ρ st.h w) hT hC (reg := id) hok (fun c a w q => q) (fun ⟨a, w, q⟩ => q) ops.toList.length _ (falses ops.toList) (by rw [ordOf_len]; exact hlen) hor hs' h (fun a' w' q => Out.lift hd hn q)
    rw [e1, Array.length_toList] at key
    exact wpAnyW_any _ _ _ _ key
  | .seq x y, ρ, w, st, a, K, hs, hn, h => by
    refine wp_seq (wp_mono (aw_sound hT hC hm x hs hn h) ?_)
    intro e a1 w1 q
    cases e with
    | normal =>
      obtain ⟨ρ1, st1, h1, h2, h3, h4⟩ := q
      exact wp_mono (aw_sound hT hC hm y h2 h3 h1) (fun e a2 w2 p => p.lift h4)
    | exit i => exact q
    | ret => exact q
    | goto l => exact q.elim
    | panic c => exact q.elim
    | outgrown => exact q.elim
  | .cond c x y, ρ, w, st, a, K, hs, hn, h => by
    have hc := ev_rel hs c
    simp only [aw] at h
    split at h
    · rename_i b hb
      rw [hb] at hc
      exact wp_cond_split (t := b) hc (fun e => aw_sound hT hC hm x hs hn (by rw [e] at h; exact brA_true h)) (fun e => aw_sound hT hC hm y hs hn (by rw [e] at h; exact brA_false h))
    · exact h.elim
  | .block id c, ρ, w, st, a, K, hs, hn, h => by
    refine wp_block (wp_mono (aw_sound hT hC hm c hs hn h) ?_)
    intro e a1 w1 q
    cases e with
    | normal => exact q
    | exit i =>
      obtain ⟨ρ1, st1, h1, h2⟩ := q
      simp only [Exit.inBlock]
      simp only [blkK] at h1
      by_cases e : i = id
      · subst e
        simp only [beq_self_eq_true] at h1
        rw [if_pos rfl]
        exact ⟨ρ1, st1, h1, h2⟩
      · rw [if_neg e]
        have : (i == id) = false := by simpa using e
        rw [this] at h1
        exact ⟨ρ1, st1, h1, h2⟩
    | ret => exact q
    | goto l => exact q.elim
    | panic c => exact q.elim
    | outgrown => exact q.elim
  | .loop c, ρ, w, st, a, K, hs, hn, h => by
    simp only [aw] at h
    cases hu : H.unr with
    | succ m =>
      rw [hu] at h
      refine wp_loop_hid (G := Nat × Env × St) (fun g a' w' => RepS g.2.1 g.2.2 a' w' ∧ n0 ≤ g.2.2.n ∧ unrA (fun st K => aw T real C H n0 c st K) g.1 g.2.2 K ∧ Goes n0 ρ st.h w g.2.1 g.2.2.h w') (fun g => g.1) (g := (m + 1, ρ, st)) ⟨hs, hn, h, Goes.refl _ _ _ _⟩ ?_
      rintro ⟨m2, ρ2, st2⟩ a2 w2 ⟨k1, k2, k3, k4⟩
      cases m2 with
      | zero => exact k3.elim
      | succ m2 =>
        refine wp_mono (aw_sound hT hC hm c k1 k2 k3) ?_
        intro e a3 w3 q
        cases e with
        | normal =>
          obtain ⟨ρ3, st3, q1, q4, q5, q6⟩ := q
          exact ⟨(m2, ρ3, st3), ⟨q4, q5, q1, k4.trans q6⟩, Nat.lt_succ_self _⟩
        | exit i => exact Out.lift k4 (Nat.le_refl _) q
        | ret => exact Out.lift k4 (Nat.le_refl _) q
        | goto l => exact q.elim
        | panic c => exact q.elim
        | outgrown => exact q.elim
    | zero =>
      rw [hu] at h
      obtain ⟨I, μ, k, hk, hI, round⟩ := h
      obtain ⟨ρ1, h1, h2, h3⟩ := wk_sound hs hn hk
      refine wp_loop_hid (G := Env × St) (fun g a' w' => RepS g.1 g.2 a' w' ∧ n0 ≤ g.2.n ∧ I g.2 ∧ Goes n0 ρ st.h w g.1 g.2.h w') (fun g => μ g.2) (g := (ρ1, wk k st)) ⟨h1, h2, hI, h3⟩ ?_
      rintro ⟨ρ2, st2⟩ a2 w2 ⟨k1, k2, k3, k4⟩
      refine wp_mono (aw_sound hT hC hm c k1 k2 (round st2 k3)) ?_
      intro e a3 w3 q
      cases e with
      | normal =>
        obtain ⟨ρ3, st3, ⟨k', q1, q2, q3⟩, q4, q5, q6⟩ := q
        obtain ⟨ρ4, r1, r2, r3⟩ := wk_sound q4 q5 q1
        exact ⟨(ρ4, wk k' st3), ⟨r1, r2, q2, k4.trans (q6.trans r3)⟩, q3⟩
      | exit i => exact Out.lift k4 (Nat.le_refl _) q
      | ret => exact Out.lift k4 (Nat.le_refl _) q
      | goto l => exact q.elim
      | panic c => exact q.elim
      | outgrown => exact q.elim
  | .rangeFunc _ _ _ _, ρ, w, st, a, K, hs, hn, h => h.elim
  | .scope _, ρ, w, st, a, K, hs, hn, h => h.elim
  | .goto _, ρ, w, st, a, K, hs, hn, h => h.elim
  | .refuse _, ρ, w, st, a, K, hs, hn, h => h.elim

/-! functions -/
theorem res_sound (hT : TysOK P T) {st : St} {a : Act} (hs : RepS ρ st a w) {r : ResultVar} {v : AV} (h : resA T st r = some v) : ∃ x, (Tr.resOne a.tmps r).run P w = .ok x w ∧ RelV ρ w (Mut ρ st.h) v x := by
  cases r with
  | tmp t =>
    simp only [resA, Option.some.injEq] at h
    subst h
    have := RelVs.getD _ _ hs.fr t
    refine ⟨a.tmps.getD t undef, rfl, ?_⟩
    simpa using this
  | cell q t =>
    simp only [resA] at h
    have hr := RelVs.getD _ _ hs.fr q
    split at h
    · rename_i id hq
      rw [hq] at hr
      cases ho : hget st.h id with
      | none => simp [ho] at h
      | some o =>
        cases o with
        | row c l => simp [ho] at h
        | mp k m => simp [ho] at h
        | it k e m c0 => simp [ho] at h
        | sit s p => simp [ho] at h
        | bag s p => simp [ho] at h
        | cells l =>
          simp only [ho] at h
          have hl : loadA T real st t (.ptr id 0) (fun x => x = v) := by
            unfold loadA
            simp only [ho]
            rw [h]
          have hE : RelV ρ w (Mut ρ st.h) (.ptr id 0) (a.tmps.getD q undef) := by simpa using hr
          obtain ⟨av, x, h1, h2, h3⟩ := load_gives hT hs hE hl
          subst h1
          obtain ⟨b, hb, hv⟩ := hE
          refine ⟨x, ?_, h2⟩
          rw [hv] at h3
          simp only [Tr.resOne]
          rw [hv]
          simpa [Instr.loadAt, Instr.sureAddr, asAddr] using h3
    · cases h
theorem ress_sound (hT : TysOK P T) {st : St} {a : Act} (hs : RepS ρ st a w) : ∀ (rs : List ResultVar) (l : List AV), ressA T st rs = some l → ∃ xs, (rs.mapM (Tr.resOne a.tmps)).run P w = .ok xs w ∧ RelVs ρ w (Mut ρ st.h) l xs
  | [], l, h => by
    simp only [ressA, Option.some.injEq] at h
    subst h
    exact ⟨[], rfl, rfl⟩
  | r :: rs, l, h => by
    simp only [ressA] at h
    cases h1 : resA T st r with
    | none => simp [h1] at h
    | some v =>
      cases h2 : ressA T st rs with
      | none => simp [h1, h2] at h
      | some vs =>
        simp [h1, h2] at h
        subst h
        obtain ⟨x, k1, k2⟩ := res_sound hT hs h1
        obtain ⟨xs, k3, k4⟩ := ress_sound hT hs rs vs h2
        refine ⟨x :: xs, ?_, x, xs, rfl, k2, k4⟩
        rw [List.mapM_cons]
        simp only [Sem.run_bind, Sem.run_pure, Result.andThen, k1, k3]
theorem ret_sound (hT : TysOK P T) {fn : Func} {st : St} {a : Act} (hs : RepS ρ st a w) {v : AV} (h : retA T st fn.results.toList = some v) : ∃ x, (results fn a.tmps).run P w = .ok x w ∧ RelV ρ w (Mut ρ st.h) v x := by
  unfold retA at h
  have e : results fn a.tmps = (do let vs ← fn.results.mapM (Tr.resOne a.tmps); pure (if h : vs.size = 1 then vs[0] else .tuple vs)) := by
    unfold results; rfl
  have e2 : ∀ xs, (fn.results.toList.mapM (Tr.resOne a.tmps)).run P w = .ok xs w → (results fn a.tmps).run P w = .ok (if h : xs.toArray.size = 1 then xs.toArray[0] else .tuple xs.toArray) w := by
    intro xs hx
    rw [e, show fn.results = fn.results.toList.toArray by simp, List.mapM_toArray]
    rw [show (List.toArray <$> fn.results.toList.mapM (Tr.resOne a.tmps)) = (fn.results.toList.mapM (Tr.resOne a.tmps) >>= fun a => pure a.toArray) from rfl]
    simp only [Sem.run_bind, hx, Result.andThen, Sem.run_pure]
  split at h
  · rename_i u hu
    cases h
    obtain ⟨xs, h1, x, r, hx, h2, hr⟩ := ress_sound hT hs _ _ hu
    have hr : r = [] := hr
    subst hr
    subst hx
    exact ⟨x, by rw [e2 _ h1]; rfl, h2⟩
  · rename_i l hne hl
    cases h
    obtain ⟨xs, h1, h2⟩ := ress_sound hT hs _ _ hl
    refine ⟨.tuple xs.toArray, ?_, ⟨xs.toArray, rfl, by simpa using h2⟩⟩
    rw [e2 _ h1]
    have hlen := RelVs.length _ _ h2
    rw [dif_neg]
    intro e1
    simp at e1
    match l, hlen with
    | [u], _ => exact hne u rfl
    | [], hlen => simp at hlen; omega
    | _ :: _ :: _, hlen => simp at hlen; omega
  · cases h
/-- A function whose code is run. -/
theorem call_of (hT : TysOK P T) {C : CallS} (hC : ∀ f args n h K, C f args n h K → CallE P f args n h K) (hm : P.follows .mixedOrders = true) {f : Nat} {fn : Func} {c : Code} {args : List AV} {n : Nat} {hp : Hp} {K : CallK} (H : Hints)
    (hf : P.funcs[f]? = some fn) (hn : (fn.name == "runtime.NumGoroutine") = false) (hb : fn.body = some c)
    (h : aw T real C H n c ⟨args ++ List.replicate (fn.ntmps - args.length) (.tup []), n, hp⟩ (retK T n fn.results.toList K)) : CallE P f args n hp K := by
  refine .enter fn hf hn (by rw [hb]; rfl) (fun ρ w vs hr ha => ?_)
  have hlen := RelVs.length _ _ ha
  have hs : RepS ρ ⟨args ++ List.replicate (fn.ntmps - args.length) (.tup []), n, hp⟩ { tmps := vs.toArray ++ Array.replicate (fn.ntmps - vs.toArray.size) undef, defers := [] } w := by
    refine ⟨rfl, ?_, hr⟩
    have e : (vs.toArray ++ Array.replicate (fn.ntmps - vs.toArray.size) undef).toList = vs ++ List.replicate (fn.ntmps - args.length) undef := by simp [hlen]
    dsimp only
    rw [e]
    exact RelVs.append _ _ _ _ ha (RelVs.replicate (a := .tup []) (x := undef) ⟨#[], rfl, rfl⟩ _)
  refine calls_of_wp hf hb (wp_mono (aw_sound hT hC hm c hs (Nat.le_refl _) h) ?_)
  have fin : ∀ (e : Ex) (a : Act) (w' : World), (∀ i, e ≠ .exit i) → Out (retK T n fn.results.toList K e) n ρ hp w a w' → a.defers = [] ∧ ∃ v, (results fn a.tmps).run P w' = .ok v w' ∧ (∃ x, Ending.returned v = .returned x ∧ Done K n ρ hp w x w') := by
    rintro e a w' he ⟨ρ1, st1, h1, h2, h3, h4⟩
    refine ⟨h2.defers, ?_⟩
    have h1 : match retA T st1 fn.results.toList with | some v => retC n K v st1.n st1.h | none => False := by
      cases e with
      | exit i => exact absurd rfl (he i)
      | normal => exact h1
      | ret => exact h1
    cases hv : retA T st1 fn.results.toList with
    | none => rw [hv] at h1; exact h1.elim
    | some av =>
      rw [hv] at h1
      obtain ⟨x, k1, k2⟩ := ret_sound hT h2 hv
      have h1 : retC n K av st1.n st1.h := h1
      unfold retC at h1
      cases hg : (isNilN (idsV av) && wkOK n ⟨[], [], [], oldIds n st1.h, n⟩ ⟨[], st1.n, st1.h⟩) with
      | false =>
        rw [hg] at h1
        exact ⟨x, k1, x, rfl, av, ρ1, st1.n, st1.h, h1, h2.rep, h3, k2, h4⟩
      | true =>
        rw [hg] at h1
        rw [Bool.and_eq_true] at hg
        have hs1 : RepS ρ1 ⟨[], st1.n, st1.h⟩ { tmps := #[], defers := [] } w' := ⟨rfl, rfl, h2.rep⟩
        obtain ⟨ρ2, r1, r2, r3⟩ := wk_sound hs1 h3 hg.2
        have hi : idsV av = [] := by
          cases hq : idsV av with
          | nil => rfl
          | cons y r => rw [hq] at hg; cases hg.1
        have k3 := ren_rel (ρ' := ρ2) (f := fun i => i) r3.keeps av x (by rw [hi]; intro i hi; cases hi) k2
        rw [renV_id'] at k3
        exact ⟨x, k1, x, rfl, av, ρ2, n, _, h1, r1.rep, Nat.le_refl _, k3, h4.trans r3⟩
  intro e a w' q
  cases e with
  | normal => exact fin .normal a w' (by simp) q
  | ret => exact fin .ret a w' (by simp) q
  | exit i =>
    obtain ⟨ρ1, st1, h1, -⟩ := q
    exact h1.elim
  | goto l => exact q.elim
  | panic c => exact q.elim
  | outgrown => exact q.elim
/-- The table of types. -/
theorem TysOK.of_table {l : List TI} {n : Nat} (h : l = (List.range n).map (tiOf P)) (hs : ((List.range n).all fun t => (P.info? t).any (fun i => match P.underlying t with | some (.int _) => i.comparable | _ => true) && (P.underlying t).isSome) = true)
    (hz : ((List.range n).all fun t => zshape P t) = true) (hse : ∀ t, eqT t = true → StructEq P (fun t => l.getD t ⟨.other, 0, 0, none⟩) t) (hg : ∀ t g w, Ab.globs t g = true → J w → ∃ v, (Instr.loadAt t (.pointer (some ⟨g, 0, none⟩))).run P w = .ok v w) : TysOK P (fun t => l.getD t ⟨.other, 0, 0, none⟩) := by
  refine ⟨?_, ?_, hse, hg⟩
  case refine_2 =>
    intro t hs0
    by_cases ht : t < n
    · have e : l.getD t ⟨.other, 0, 0, none⟩ = tiOf P t := by
        rw [h, List.getD_eq_getElem?_getD, List.getElem?_map, List.getElem?_range ht]
        rfl
      rw [List.all_eq_true] at hz
      refine ⟨hz t (List.mem_range.2 ht), ?_⟩
      try dsimp only
      rw [e]
    · have e : l.getD t ⟨.other, 0, 0, none⟩ = ⟨.other, 0, 0, none⟩ := by
        rw [h, List.getD_eq_getElem?_getD, List.getElem?_eq_none (by simp; omega)]
        rfl
      try dsimp only at hs0
      rw [e] at hs0
      exact absurd rfl hs0
  intro t
  by_cases ht : t < n
  · refine .inr ?_
    rw [List.all_eq_true] at hs
    have h1 := hs t (List.mem_range.2 ht)
    rw [Bool.and_eq_true] at h1
    obtain ⟨i, hi, hcm⟩ := (Option.any_eq_true _ _).1 h1.1
    obtain ⟨d, hd⟩ := Option.isSome_iff_exists.1 h1.2
    rw [hd] at hcm
    have e : l.getD t ⟨.other, 0, 0, none⟩ = tiOf P t := by
      rw [h, List.getD_eq_getElem?_getD, List.getElem?_map, List.getElem?_range ht]
      rfl
    try dsimp only
    rw [e]
    refine ⟨i, d, hi, hd, ?_, ?_, ?_, .inr ?_, ?_⟩
    case refine_5 =>
      rintro ⟨k, hk⟩
      simp only [tiOf, hd] at hk
      cases d <;> simp [tuOf] at hk
      exact hcm
    all_goals simp [tiOf, hi, hd]
  · refine .inl ?_
    have e : l.getD t ⟨.other, 0, 0, none⟩ = ⟨.other, 0, 0, none⟩ := by
      rw [h, List.getD_eq_getElem?_getD, List.getElem?_eq_none (by simp; omega)]
      rfl
    try dsimp only
    rw [e]
    exact ⟨rfl, rfl⟩
end
end Go.Proofs.Yteakfibolfapiaa.Ab
end
