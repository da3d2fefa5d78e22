/- The executor is sound: regions that draw. -/
import Derived.Test.YteakfibolfapiaaTrAb17
import Derived.Orders
namespace Go.Proofs.Yteakfibolfapiaa.Ab
open Go.RowKit Go.Sort
set_option linter.unusedVariables false
set_option linter.unusedSimpArgs false

section
variable {P : Program} {T : Nat → TI} {ρ : Env} {w w' : World} {M : Nat → Prop} {n : Nat} {h : Hp}
variable {ops : Array Oper} {Q : Exit → Act → World → Prop}
/-- All orders, each world on the way of a kind. -/
def wpAnyW (P : Program) (ops : Array Oper) (Q : Exit → Act → World → Prop) (W : World → Prop) : Nat → Array Bool → Act → World → Prop
  | 0, listed, a, w => Region.ready .any ops listed = [] ∧ Q .normal a w
  | fuel + 1, listed, a, w => (Region.ready .any ops listed = [] → Q .normal a w) ∧
      ∀ i ∈ Region.ready .any ops listed, wpOp P ops Q i (fun a' w' => W w' ∧ wpAnyW P ops Q W fuel (listed.setIfInBounds i true) a' w') a w
theorem wpAnyW_mono {W W' : World → Prop} (hW : ∀ u, W u → W' u) : ∀ (fuel : Nat) (listed : Array Bool) (a : Act) (w : World), wpAnyW P ops Q W fuel listed a w → wpAnyW P ops Q W' fuel listed a w
  | 0, _, _, _, h => h
  | fuel + 1, listed, a, w, h => ⟨h.1, fun i hi => wpOp_mono (fun a' w' q => ⟨hW _ q.1, wpAnyW_mono hW fuel _ _ _ q.2⟩) (h.2 i hi)⟩
theorem wpAnyW_any {W : World → Prop} : ∀ (fuel : Nat) (listed : Array Bool) (a : Act) (w : World), wpAnyW P ops Q W fuel listed a w → wpAny P .any ops Q fuel listed a w
  | 0, _, _, _, h => h
  | fuel + 1, listed, a, w, h => ⟨h.1, fun i hi => wpOp_mono (fun a' w' q => wpAnyW_any fuel _ _ _ q.2) (h.2 i hi)⟩
/-- An operation that gives a value in each world of a kind. -/
def YieldsW (P : Program) (W : World → Prop) (o : Oper) (v : Value) (a : Act) : Prop := ∀ u, W u → (execOp a.eval o).run P u = .ok (.value v) u
theorem YieldsW.wpOp {W : World → Prop} {i : Nat} {o : Oper} {v : Value} {a : Act} (hi : ops[i]? = some o) (hg : o.guard = none) (hy : YieldsW P W o v a) (hw : W w) {K : Act → World → Prop} (h : K (a.put o.dst v) w) : wpOp P ops Q i K a w := by
  unfold Go.wpOp
  have hwt : Region.wanted o (yielded ops a.tmps) = true := by unfold Region.wanted; rw [hg]
  simp only [hi, hwt, if_true, Oper.wp, hy w hw, Oper.upon]
  exact .inl h
/-- Two that are apart may be exchanged. -/
theorem wpOp_late {W : World → Prop} {j : Nat} {oi oj : Oper} {v : Value} (hj : ops[j]? = some oj) (hap : oi.apart ops oj = true) (hsi : ∀ cs b, oi.op ≠ .select cs b) (hsj : ∀ cs b, oj.op ≠ .select cs b)
    (hQ : ∀ c a w, ¬ Q (.panic c) a w) (hL : ¬ LetsOut Q) {K : Act → World → Prop} {a : Act} (hy : YieldsW P W oi v a) (h : wpOp P ops Q j K (a.put oi.dst v) w) :
    wpOp P ops Q j (fun a' w' => YieldsW P W oi v a' ∧ K (a'.put oi.dst v) w') a w := by
  obtain ⟨h1, h2, h3⟩ := Oper.apart_spec hap
  have keep : ∀ (b : Act) (u : Value), YieldsW P W oi v b → YieldsW P W oi v (b.put oj.dst u) := fun b u q x hx => by rw [execOp_put oi hsi b oj.dst u h3]; exact q x hx
  unfold Go.wpOp at *
  simp only [hj, wanted_put oj a oi.dst v h1] at h ⊢
  cases hw : Region.wanted oj (yielded ops a.tmps) with
  | false =>
    simp only [hw, Bool.false_eq_true, if_false] at h ⊢
    exact ⟨keep a _ hy, by rw [← Act.put_comm a v undef h2]; exact h⟩
  | true =>
    simp only [hw, if_true] at h ⊢
    refine .inl ?_
    replace h := h.resolve_right (fun q => hL q.2)
    unfold Oper.wp at *
    rw [execOp_put oj hsj a oi.dst v h1] at h
    generalize (execOp a.eval oj).run P w = r at *
    have fin : ∀ (b : Act) (u : Value) (x : World), YieldsW P W oi v b → K ((b.put oi.dst v).put oj.dst u) x → YieldsW P W oi v (b.put oj.dst u) ∧ K ((b.put oj.dst u).put oi.dst v) x := fun b u x q k =>
      ⟨keep b u q, by rw [← Act.put_comm b v u h2]; exact k⟩
    cases r with
    | halt x w' =>
      cases x with
      | panic u => exact (hQ _ _ _ h).elim
      | _ => exact h.elim
    | ok nx w' =>
      cases nx with
      | value u => exact fin a u w' hy h
      | skip => exact fin a undef w' hy h
      | defer d =>
        simp only [Oper.upon, Act.put_defers] at h
        exact fin { a with defers := d :: a.defers } undef w' hy h
      | enter f args =>
        refine Calls.mono h (fun e w2 he => ?_)
        cases e with
        | returned u => exact fin a u w2 hy he
        | panicked c => exact (hQ _ _ _ he).elim
        | outgrown => exact he
      | row row args => exact Rows.mono h fun u w2 he => fin a u w2 hy he
      | _ => exact h.elim
theorem ready_after {i j : Nat} {listed : Array Bool} (hi : i ∈ Region.ready .any ops listed) (hj : j ∈ Region.ready .any ops listed) {o : Oper} (ho : ops[j]? = some o) : ∀ e ∈ o.after, Region.binds .any e = true → e.on ≠ i := by
  intro e he hb heq
  obtain ⟨-, o', ho', hall⟩ := mem_ready.1 hj
  rw [ho] at ho'
  obtain rfl := Option.some.inj ho'
  have h1 := hall e he hb
  rw [heq] at h1
  obtain ⟨h0, o2, ho2, -⟩ := mem_ready.1 hi
  rcases Nat.lt_or_ge i listed.size with hl | hl
  · simp [hl] at h0 h1; rw [h0] at h1; cases h1
  · simp [Array.getElem?_eq_none hl] at h1
/-- An easy operation that is ready may be run at once. -/
theorem wpAnyW_first {W : World → Prop} {i : Nat} {oi : Oper} {v : Value} (hi : ops[i]? = some oi) (hg : oi.guard = none) (hsel : ∀ (j : Nat) (o : Oper) cs b, ops[j]? = some o → o.op ≠ .select cs b)
    (hap : ∀ j oj, ops[j]? = some oj → j ≠ i → (∀ e ∈ oj.after, Region.binds .any e = true → e.on ≠ i) → (∀ e ∈ oi.after, Region.binds .any e = true → e.on ≠ j) → oi.apart ops oj = true)
    (hQ : ∀ c a w, ¬ Q (.panic c) a w) (hL : ¬ LetsOut Q) :
    ∀ (fuel : Nat) (listed : Array Bool) (a : Act) (w : World), i ∈ Region.ready .any ops listed → YieldsW P W oi v a → W w →
      wpAnyW P ops Q W fuel (listed.setIfInBounds i true) (a.put oi.dst v) w → wpAnyW P ops Q W (fuel + 1) listed a w := by
  intro fuel
  induction fuel with
  | zero =>
    intro listed a w hr hy hw H
    refine ⟨fun h => absurd (h ▸ hr) (by simp), fun j hj => ?_⟩
    by_cases hji : j = i
    · subst hji
      exact hy.wpOp hi hg hw ⟨hw, H⟩
    · have := ready_mono hj hji
      rw [H.1] at this
      cases this
  | succ fuel ih =>
    intro listed a w hr hy hw H
    refine ⟨fun h => absurd (h ▸ hr) (by simp), fun j hj => ?_⟩
    by_cases hji : j = i
    · subst hji
      exact hy.wpOp hi hg hw ⟨hw, H⟩
    · obtain ⟨-, oj, hoj, -⟩ := mem_ready.1 hj
      have h1 := wpOp_late (W := W) hoj (hap j oj hoj hji (ready_after hr hj hoj) (ready_after hj hr hi)) (fun cs b => hsel i oi cs b hi) (fun cs b => hsel j oj cs b hoj) hQ hL hy (H.2 j (ready_mono hj hji))
      refine wpOp_mono (fun a' w' q => ⟨q.2.1, ?_⟩) h1
      refine ih _ a' w' (ready_mono hr (Ne.symm hji)) q.1 q.2.1 ?_
      rw [Array.setIfInBounds_comm _ _ hji]
      exact q.2.2

/-- An operation that runs and gives a value wherever it stands, or that does not run. -/
def Late (P : Program) (ops : Array Oper) (W : World → Prop) (o : Oper) (v : Value) (a : Act) : Prop :=
  (Region.wanted o (yielded ops a.tmps) = true ∧ YieldsW P W o v a) ∨ (Region.wanted o (yielded ops a.tmps) = false ∧ v = undef)
theorem Late.wpOp {W : World → Prop} {i : Nat} {o : Oper} {v : Value} {a : Act} (hi : ops[i]? = some o) (hy : Late P ops W o v a) (hw : W w) {K : Act → World → Prop} (h : K (a.put o.dst v) w) : wpOp P ops Q i K a w := by
  unfold Go.wpOp
  rcases hy with ⟨hwt, hy⟩ | ⟨hwt, rfl⟩
  · simp only [hi, hwt, if_true, Oper.wp, hy w hw, Oper.upon]
    exact .inl h
  · simp only [hi, hwt, Bool.false_eq_true, if_false]
    exact h
theorem wpOp_late2 {W : World → Prop} {j : Nat} {oi oj : Oper} {v : Value} (hj : ops[j]? = some oj) (hap : oi.apart ops oj = true) (hsi : ∀ cs b, oi.op ≠ .select cs b) (hsj : ∀ cs b, oj.op ≠ .select cs b)
    (hQ : ∀ c a w, ¬ Q (.panic c) a w) (hL : ¬ LetsOut Q) {K : Act → World → Prop} {a : Act} (hy : Late P ops W oi v a) (h : wpOp P ops Q j K (a.put oi.dst v) w) :
    wpOp P ops Q j (fun a' w' => Late P ops W oi v a' ∧ K (a'.put oi.dst v) w') a w := by
  obtain ⟨h1, h2, h3⟩ := Oper.apart_spec hap
  have keep : ∀ (b : Act) (u : Value), Late P ops W oi v b → Late P ops W oi v (b.put oj.dst u) := fun b u q => by
    unfold Late at q ⊢
    rw [wanted_put oi b oj.dst u h3]
    rcases q with ⟨q1, q2⟩ | q
    · exact .inl ⟨q1, fun x hx => by rw [execOp_put oi hsi b oj.dst u h3]; exact q2 x hx⟩
    · exact .inr q
  unfold Go.wpOp at *
  simp only [hj, wanted_put oj a oi.dst v h1] at h ⊢
  cases hw : Region.wanted oj (yielded ops a.tmps) with
  | false =>
    simp only [hw, Bool.false_eq_true, if_false] at h ⊢
    exact ⟨keep a _ hy, by rw [← Act.put_comm a v undef h2]; exact h⟩
  | true =>
    simp only [hw, if_true] at h ⊢
    refine .inl ?_
    replace h := h.resolve_right (fun q => hL q.2)
    unfold Oper.wp at *
    rw [execOp_put oj hsj a oi.dst v h1] at h
    generalize (execOp a.eval oj).run P w = r at *
    have fin : ∀ (b : Act) (u : Value) (x : World), Late P ops W oi v b → K ((b.put oi.dst v).put oj.dst u) x → Late P ops W oi v (b.put oj.dst u) ∧ K ((b.put oj.dst u).put oi.dst v) x := fun b u x q k =>
      ⟨keep b u q, by rw [← Act.put_comm b v u h2]; exact k⟩
    cases r with
    | halt x w' =>
      cases x with
      | panic u => exact (hQ _ _ _ h).elim
      | _ => exact h.elim
    | ok nx w' =>
      cases nx with
      | value u => exact fin a u w' hy h
      | skip => exact fin a undef w' hy h
      | defer d =>
        simp only [Oper.upon, Act.put_defers] at h
        exact fin { a with defers := d :: a.defers } undef w' hy h
      | enter f args =>
        refine Calls.mono h (fun e w2 he => ?_)
        cases e with
        | returned u => exact fin a u w2 hy he
        | panicked c => exact (hQ _ _ _ he).elim
        | outgrown => exact he
      | row row args => exact Rows.mono h fun u w2 he => fin a u w2 hy he
      | _ => exact h.elim
/-- The same with a guard. -/
theorem wpAnyW_first2 {W : World → Prop} {i : Nat} {oi : Oper} {v : Value} (hi : ops[i]? = some oi) (hsel : ∀ (j : Nat) (o : Oper) cs b, ops[j]? = some o → o.op ≠ .select cs b)
    (hap : ∀ j oj, ops[j]? = some oj → j ≠ i → (∀ e ∈ oj.after, Region.binds .any e = true → e.on ≠ i) → (∀ e ∈ oi.after, Region.binds .any e = true → e.on ≠ j) → oi.apart ops oj = true)
    (hQ : ∀ c a w, ¬ Q (.panic c) a w) (hL : ¬ LetsOut Q) :
    ∀ (fuel : Nat) (listed : Array Bool) (a : Act) (w : World), i ∈ Region.ready .any ops listed → Late P ops W oi v a → W w →
      wpAnyW P ops Q W fuel (listed.setIfInBounds i true) (a.put oi.dst v) w → wpAnyW P ops Q W (fuel + 1) listed a w := by
  intro fuel
  induction fuel with
  | zero =>
    intro listed a w hr hy hw H
    refine ⟨fun h => absurd (h ▸ hr) (by simp), fun j hj => ?_⟩
    by_cases hji : j = i
    · subst hji
      exact hy.wpOp hi hw ⟨hw, H⟩
    · have := ready_mono hj hji
      rw [H.1] at this
      cases this
  | succ fuel ih =>
    intro listed a w hr hy hw H
    refine ⟨fun h => absurd (h ▸ hr) (by simp), fun j hj => ?_⟩
    by_cases hji : j = i
    · subst hji
      exact hy.wpOp hi hw ⟨hw, H⟩
    · obtain ⟨-, oj, hoj, -⟩ := mem_ready.1 hj
      have h1 := wpOp_late2 (W := W) hoj (hap j oj hoj hji (ready_after hr hj hoj) (ready_after hj hr hi)) (fun cs b => hsel i oi cs b hi) (fun cs b => hsel j oj cs b hoj) hQ hL hy (H.2 j (ready_mono hj hji))
      refine wpOp_mono (fun a' w' q => ⟨q.2.1, ?_⟩) h1
      refine ih _ a' w' (ready_mono hr (Ne.symm hji)) q.1 q.2.1 ?_
      rw [Array.setIfInBounds_comm _ _ hji]
      exact q.2.2
/-! the lists -/
theorem getB_eq : ∀ (l : List Bool) (i : Nat), getB l i = (l[i]?).getD true
  | [], i => by simp [getB]
  | b :: r, 0 => by simp [getB]
  | b :: r, i + 1 => by simp [getB, getB_eq r i]
theorem setB_eq : ∀ (l : List Bool) (i : Nat), setB l i = l.set i true
  | [], i => by simp [setB]
  | b :: r, 0 => by simp [setB]
  | b :: r, i + 1 => by simp [setB, setB_eq r i]
theorem setB_arr (l : List Bool) (i : Nat) : (setB l i).toArray = l.toArray.setIfInBounds i true := by rw [setB_eq]; simp
theorem getF_eq : ∀ (l : List Bool) (i : Nat), getF l i = (l[i]?).getD false
  | [], i => by simp [getF]
  | b :: r, 0 => by simp [getF]
  | b :: r, i + 1 => by simp [getF, getF_eq r i]
theorem afters_iff {l : List Bool} : ∀ (es : List Edge), (afters l es = true ↔ ∀ e ∈ es, Region.binds .any e = true → l.toArray.getD e.on false = true)
  | [] => by simp [afters]
  | e :: r => by
    have ih := afters_iff (l := l) r
    simp only [afters]
    cases hb : Region.binds .any e with
    | false => simp only [cond_false, ih]; simp [hb]
    | true =>
      have h1 : l.toArray.getD e.on false = getF l e.on := by
        rw [getF_eq]
        simp
      cases hg : getF l e.on with
      | false =>
        simp only [cond_true, cond_false, Bool.false_eq_true, false_iff]
        intro q
        have := q e (by simp) hb
        rw [h1, hg] at this
        cases this
      | true =>
        simp only [cond_true, ih]
        constructor
        · intro q x hx hb'
          rcases List.mem_cons.1 hx with rfl | hx
          · rw [h1, hg]
          · exact q x hx hb'
        · intro q x hx hb'
          exact q x (by simp [hx]) hb'
theorem readyA_iff {listed : List Bool} : ∀ (l : List Oper) (i j : Nat) (o : Oper), (j, o) ∈ readyA listed i l ↔ i ≤ j ∧ l[j - i]? = some o ∧ getB listed j = false ∧ afters listed o.after.toList = true
  | [], i, j, o => by simp [readyA]
  | x :: r, i, j, o => by
    have ih := readyA_iff (listed := listed) r (i + 1) j o
    have next : (i + 1 ≤ j ∧ r[j - (i + 1)]? = some o ∧ getB listed j = false ∧ afters listed o.after.toList = true) → (i ≤ j ∧ (x :: r)[j - i]? = some o ∧ getB listed j = false ∧ afters listed o.after.toList = true) := by
      rintro ⟨h1, h2, h3⟩
      refine ⟨by omega, ?_, h3⟩
      rw [show j - i = (j - (i + 1)) + 1 by omega]
      simpa using h2
    have prev : (i ≤ j ∧ (x :: r)[j - i]? = some o ∧ getB listed j = false ∧ afters listed o.after.toList = true) → (j = i ∧ o = x) ∨ (i + 1 ≤ j ∧ r[j - (i + 1)]? = some o ∧ getB listed j = false ∧ afters listed o.after.toList = true) := by
      rintro ⟨h1, h2, h3⟩
      rcases Nat.eq_or_lt_of_le h1 with e | hlt
      · subst e
        simp at h2
        exact .inl ⟨rfl, h2.symm⟩
      · rw [show j - i = (j - (i + 1)) + 1 by omega] at h2
        exact .inr ⟨hlt, by simpa using h2, h3⟩
    simp only [readyA]
    cases hg : getB listed i with
    | true =>
      simp only [cond_true, ih]
      constructor
      · exact next
      · intro q
        rcases prev q with ⟨rfl, rfl⟩ | q'
        · rw [hg] at q; simp at q
        · exact q'
    | false =>
      cases ha : afters listed x.after.toList with
      | false =>
        simp only [cond_false, ih]
        constructor
        · exact next
        · intro q
          rcases prev q with ⟨rfl, rfl⟩ | q'
          · rw [ha] at q; simp at q
          · exact q'
      | true =>
        simp only [cond_false, cond_true, List.mem_cons, Prod.mk.injEq, ih]
        constructor
        · rintro (⟨rfl, rfl⟩ | q)
          · exact ⟨Nat.le_refl _, by simp, hg, ha⟩
          · exact next q
        · intro q
          rcases prev q with ⟨rfl, rfl⟩ | q'
          · exact .inl ⟨rfl, rfl⟩
          · exact .inr q'
theorem ready_iff {listed : List Bool} {j : Nat} {o : Oper} : (j, o) ∈ readyA listed 0 ops.toList ↔ (j ∈ Region.ready .any ops listed.toArray ∧ ops[j]? = some o) := by
  rw [readyA_iff, mem_ready]
  have h1 : listed.toArray.getD j true = getB listed j := by rw [getB_eq]; simp
  rw [h1]
  constructor
  · rintro ⟨-, h2, h3, h4⟩
    rw [Nat.sub_zero, Array.getElem?_toList] at h2
    exact ⟨⟨h3, o, h2, fun e he => (afters_iff _).1 h4 e (by simpa using he)⟩, h2⟩
  · rintro ⟨⟨h3, o', h2, h4⟩, h5⟩
    rw [h5] at h2
    obtain rfl := Option.some.inj h2
    exact ⟨Nat.zero_le _, by rw [Nat.sub_zero, Array.getElem?_toList]; exact h5, h3, (afters_iff _).2 (fun e he => h4 e (by simpa using he))⟩
theorem ready_nil {listed : List Bool} (h : readyA listed 0 ops.toList = []) : Region.ready .any ops listed.toArray = [] := by
  cases hr : Region.ready .any ops listed.toArray with
  | nil => rfl
  | cons i r =>
    have hm : i ∈ Region.ready .any ops listed.toArray := by rw [hr]; simp
    obtain ⟨-, o, ho, -⟩ := mem_ready.1 hm
    have := ready_iff.2 ⟨hm, ho⟩
    rw [h] at this
    cases this
theorem firstEasy_spec {H : Hints} {reg : Nat} {st : St} {i : Nat} {o : Oper} : ∀ (l : List (Nat × Oper)), firstEasy T H reg st l = some (i, o) → (i, o) ∈ l ∧ o.guard = none ∧ easyOp T (frzs st (lkup (reg, i) H.fz)) o.op = true
  | [], h => by cases h
  | (j, x) :: r, h => by
    simp only [firstEasy] at h
    have next : firstEasy T H reg st r = some (i, o) → (i, o) ∈ (j, x) :: r ∧ o.guard = none ∧ easyOp T (frzs st (lkup (reg, i) H.fz)) o.op = true := fun q => by
      obtain ⟨h1, h2⟩ := firstEasy_spec r q
      exact ⟨by simp [h1], h2⟩
    cases hg : x.guard with
    | some g => rw [hg] at h; exact next h
    | none =>
      rw [hg] at h
      dsimp only at h
      cases he : easyOp T (frzs st (lkup (reg, j) H.fz)) x.op with
      | false => rw [he] at h; exact next h
      | true =>
        rw [he] at h
        simp only [cond_true, Option.some.injEq, Prod.mk.injEq] at h
        obtain ⟨rfl, rfl⟩ := h
        exact ⟨by simp, hg, he⟩
theorem eachA_mem {f : Nat × Oper → Prop} : ∀ (l : List (Nat × Oper)), eachA f l → ∀ p ∈ l, f p
  | [], _, p, hp => by cases hp
  | [q], h, p, hp => by simp at hp; rw [hp]; exact h
  | q :: x :: r, h, p, hp => by
    rcases List.mem_cons.1 hp with rfl | hp
    · exact h.1
    · exact eachA_mem (x :: r) h.2 p hp

/-! what is apart -/
theorem onB_iff {i : Nat} : ∀ es : List Edge, onB i es = false → ∀ e ∈ es, Region.binds .any e = true → e.on ≠ i
  | [], _, e, he, _ => by cases he
  | x :: r, h, e, he, hb => by
    simp only [onB] at h
    cases hx : (Region.binds .any x && x.on == i) with
    | true => rw [hx] at h; cases h
    | false =>
      rw [hx] at h
      rcases List.mem_cons.1 he with rfl | he
      · intro q
        rw [hb, q] at hx
        simp at hx
      · exact onB_iff r h e he hb
theorem onB_true {i : Nat} : ∀ es : List Edge, onB i es = true → ∃ e ∈ es, Region.binds .any e = true ∧ e.on = i
  | [], h => by cases h
  | x :: r, h => by
    simp only [onB] at h
    cases hx : (Region.binds .any x && x.on == i) with
    | true =>
      simp only [Bool.and_eq_true, beq_iff_eq] at hx
      exact ⟨x, by simp, hx⟩
    | false =>
      rw [hx] at h
      obtain ⟨e, he, h2⟩ := onB_true r h
      exact ⟨e, by simp [he], h2⟩
theorem tmpIn_iff {t : Nat} : ∀ l : List Operand, tmpIn t l = false → t ∉ l.filterMap (fun | .tmp t => some t | _ => none)
  | [], _ => by simp
  | x :: r, h => by
    cases x with
    | tmp u =>
      simp only [tmpIn] at h
      cases hb : u == t with
      | true => rw [hb] at h; cases h
      | false =>
        rw [hb] at h
        have := tmpIn_iff r h
        have hne : u ≠ t := by simpa using hb
        simp only [List.filterMap_cons, List.mem_cons, not_or]
        exact ⟨fun e => hne e.symm, this⟩
    | const v => simp only [tmpIn] at h; simpa using tmpIn_iff r h
    | global g => simp only [tmpIn] at h; simpa using tmpIn_iff r h
    | func f => simp only [tmpIn] at h; simpa using tmpIn_iff r h
theorem looks_iff {d : Nat} {y : Oper} (h : looks ops.toList d y = false) : d ∉ y.looksAt ops := by
  unfold looks at h
  unfold Oper.looksAt
  cases ht : tmpIn d y.op.operands.toList with
  | true => rw [ht] at h; cases h
  | false =>
    rw [ht] at h
    simp only [cond_false] at h
    rw [List.mem_append]
    rintro (h1 | h1)
    · exact tmpIn_iff _ ht h1
    · cases hg : y.guard with
      | none => rw [hg] at h1; cases h1
      | some gw =>
        obtain ⟨g, w⟩ := gw
        rw [hg] at h h1
        dsimp only at h h1
        unfold slotOf at h
        rw [Array.getElem?_toList] at h
        cases ho : ops[g]? with
        | none => rw [ho] at h1; cases h1
        | some o =>
          rw [ho] at h h1
          dsimp only [Option.bind_some] at h h1
          cases hd : o.dst with
          | none => rw [hd] at h1; cases h1
          | some t =>
            rw [hd] at h h1
            simp at h h1
            exact h h1.symm
theorem apartA_iff {x y : Oper} (h : apartA ops.toList x y = true) : x.apart ops y = true := by
  unfold apartA at h
  unfold Oper.apart
  rw [Bool.and_eq_true] at h ⊢
  obtain ⟨h1, h2⟩ := h
  constructor
  · cases hx : x.dst with
    | none => rfl
    | some d =>
      rw [hx] at h1
      dsimp only at h1 ⊢
      cases hl : looks ops.toList d y with
      | true => rw [hl] at h1; cases h1
      | false =>
        rw [hl] at h1
        simp only [cond_false] at h1
        have h3 := looks_iff hl
        cases hy : y.dst with
        | none => simp [h3]
        | some e =>
          rw [hy] at h1
          have hne : e ≠ d := by simpa using h1
          simp [h3, hne]
  · cases hy : y.dst with
    | none => rfl
    | some d =>
      rw [hy] at h2
      have h3 : looks ops.toList d x = false := by simpa using h2
      have h4 := looks_iff h3
      simp [h4]
theorem pairs_spec {i : Nat} {x : Oper} : ∀ (l : List Oper) (j : Nat), pairs ops.toList i x j l = true → ∀ k y, l[k]? = some y → (i = j + k ∨ onB i y.after.toList = true ∨ onB (j + k) x.after.toList = true ∨ apartA ops.toList x y = true)
  | [], j, _, k, y, hk => by simp at hk
  | z :: r, j, h, k, y, hk => by
    simp only [pairs] at h
    obtain ⟨h1, h2⟩ : (i == j || onB i z.after.toList || onB j x.after.toList || apartA ops.toList x z) = true ∧ pairs ops.toList i x (j + 1) r = true := by
      cases hb : (i == j || onB i z.after.toList || onB j x.after.toList || apartA ops.toList x z) with
      | false => rw [hb] at h; cases h
      | true => rw [hb] at h; exact ⟨rfl, h⟩
    cases k with
    | zero =>
      simp at hk
      subst hk
      simp only [Bool.or_eq_true, beq_iff_eq] at h1
      rw [Nat.add_zero]
      rcases h1 with ((h1 | h1) | h1) | h1 <;> simp [h1]
    | succ k =>
      have := pairs_spec r (j + 1) h2 k y (by simpa using hk)
      rwa [show j + 1 + k = j + (k + 1) by omega] at this
theorem regOK_spec : ∀ (l : List Oper) (i : Nat), regOK ops.toList i l = true → ∀ k x, l[k]? = some x → notSel x.op = true ∧ (x.guard = none → pairs ops.toList (i + k) x 0 ops.toList = true)
  | [], i, _, k, x, hk => by simp at hk
  | z :: r, i, h, k, x, hk => by
    simp only [regOK] at h
    obtain ⟨h1, h2⟩ : (notSel z.op && (!(z.guard.isNone) || pairs ops.toList i z 0 ops.toList)) = true ∧ regOK ops.toList (i + 1) r = true := by
      cases hb : (notSel z.op && (!(z.guard.isNone) || pairs ops.toList i z 0 ops.toList)) with
      | false => rw [hb] at h; cases h
      | true => rw [hb] at h; exact ⟨rfl, h⟩
    cases k with
    | zero =>
      simp at hk
      subst hk
      rw [Bool.and_eq_true] at h1
      refine ⟨h1.1, fun hg => ?_⟩
      have := h1.2
      rw [hg] at this
      simpa using this
    | succ k =>
      have := regOK_spec r (i + 1) h2 k x (by simpa using hk)
      rwa [show i + 1 + k = i + (k + 1) by omega] at this

/-! all orders -/
theorem any_sound (hT : TysOK P T) {C : CallS} (hC : ∀ f args n h K, C f args n h K → CallE P f args n h K) {H : Hints} {reg : Nat} {K : St → Prop} (hok : regOK ops.toList 0 ops.toList = true) (hQ : ∀ c a w, ¬ Q (.panic c) a w) (hL : ¬ LetsOut Q) :
    ∀ (fuel : Nat) (listed : List Bool) {ρ : Env} {w : World} {st : St} {a : Act}, RepS ρ st a w → anyA T real C H ops.toList reg fuel listed st K → (∀ a' w', Out K st.n ρ st.h w a' w' → Q .normal a' w') →
      wpAnyW P ops Q (Stay w (Mut ρ st.h)) fuel listed.toArray a w := by
  intro fuel
  induction fuel with
  | zero =>
    intro listed ρ w st a hs h hq
    simp only [anyA] at h
    cases hr : readyA listed 0 ops.toList with
    | nil =>
      rw [hr] at h
      exact ⟨ready_nil hr, hq a w ⟨ρ, st, h, hs, Nat.le_refl _, Goes.refl _ _ _ _⟩⟩
    | cons p l => rw [hr] at h; exact h.elim
  | succ fuel ih =>
    intro listed ρ w st a hs h hq
    simp only [anyA] at h
    cases hr : readyA listed 0 ops.toList with
    | nil =>
      rw [hr] at h
      have e := ready_nil hr
      refine ⟨fun _ => hq a w ⟨ρ, st, h, hs, Nat.le_refl _, Goes.refl _ _ _ _⟩, fun i hi => ?_⟩
      rw [e] at hi
      cases hi
    | cons p l =>
      rw [hr] at h
      dsimp only at h
      cases hf : firstEasy T H reg st (p :: l) with
      | some q =>
        obtain ⟨i, o⟩ := q
        rw [hf] at h
        dsimp only at h
        obtain ⟨hm, hg, he⟩ := firstEasy_spec _ hf
        rw [← hr] at hm
        obtain ⟨hir, hio⟩ := ready_iff.1 hm
        unfold stepA guardA at h
        rw [hg] at h
        dsimp only at h
        obtain ⟨f1, f2, f3⟩ := frzs_sound (lkup (reg, i) H.fz) hs
        obtain ⟨av, v, h1, h2, h3⟩ := easy_sound hT f1 he h
        have h1 := pzA_elim h1
        generalize frzs st (lkup (reg, i) H.fz) = st1 at *
        have rs : RepS ρ (st1.put o.dst av) (a.put o.dst v) w := ⟨by rw [put_defers]; exact f1.defers, by rw [put_h]; exact put_rel o.dst f1.fr h2, by rw [put_h, put_n]; exact f1.rep⟩
        have h4 := ih (setB listed i) rs h1 (fun a' w' q => hq a' w' (by
          rw [put_n, put_h, f2] at q
          exact q.lift (f3 st.n) (Nat.le_refl _)))
        rw [put_h, setB_arr] at h4
        have stay : ∀ u, Stay w (Mut ρ st1.h) u → Stay w (Mut ρ st.h) u := fun u hu => Stay.of_keeps ((f3 st.n).keeps) hu
        have sp := regOK_spec _ _ hok
        refine wpAnyW_mono stay (fuel + 1) _ _ _ (wpAnyW_first hio hg ?_ ?_ hQ hL fuel _ _ _ hir h3 (Stay.refl _ _) h4)
        · intro j oj cs b hj hse
          have := (sp j oj (by rw [Array.getElem?_toList]; exact hj)).1
          rw [hse] at this
          cases this
        · intro j oj hj hji ha hb
          have h5 := pairs_spec _ _ ((sp i o (by rw [Array.getElem?_toList]; exact hio)).2 hg) j oj (by rw [Array.getElem?_toList]; exact hj)
          rw [Nat.zero_add, Nat.zero_add] at h5
          rcases h5 with h5 | h5 | h5 | h5
          · exact absurd h5.symm hji
          · obtain ⟨e, he1, he2, he3⟩ := onB_true _ h5
            exact absurd he3 (ha e (by simpa using he1) he2)
          · obtain ⟨e, he1, he2, he3⟩ := onB_true _ h5
            exact absurd he3 (hb e (by simpa using he1) he2)
          · exact apartA_iff h5
      | none =>
        rw [hf] at h
        dsimp only at h
        rw [← hr] at h
        refine ⟨fun e => ?_, fun i hi => ?_⟩
        · have hm : p ∈ readyA listed 0 ops.toList := by rw [hr]; simp
          obtain ⟨q1, -⟩ := ready_iff.1 (show (p.1, p.2) ∈ _ from hm)
          rw [e] at q1
          cases q1
        · obtain ⟨-, o, ho, -⟩ := mem_ready.1 hi
          have h1 := eachA_mem _ h (i, o) (ready_iff.2 ⟨hi, ho⟩)
          unfold wpOp
          simp only [ho]
          refine step_sound (K := fun st => anyA T real C H ops.toList reg fuel (setB listed i) st K) hT hC hs h1 ?_
          rintro a' w' ⟨ρ', st', k1, k2, k3, k4⟩
          refine ⟨k4.keeps.stay, ?_⟩
          have h4 := ih (setB listed i) k2 k1 (fun a2 w2 q => hq a2 w2 (q.lift k4 k3))
          rw [setB_arr] at h4
          exact wpAnyW_mono (fun u hu => Stay.of_keeps k4.keeps hu) _ _ _ _ h4
theorem getO_eq : ∀ (l : List Oper) (i : Nat), getO l i = l[i]?
  | [], i => by simp [getO]
  | o :: r, 0 => rfl
  | o :: r, i + 1 => by rw [getO, getO_eq r i]; simp
theorem ordOf_len : ∀ l : List Nat, (ordOf l).length = l.length
  | [] => rfl
  | c :: r => by simp [ordOf, ordOf_len r]
/-- The given order is enough. -/
theorem ord_sound (hT : TysOK P T) {C : CallS} (hC : ∀ f args n h K, C f args n h K → CallE P f args n h K) {H : Hints} {reg : Nat} {K : St → Prop} (hok : regOK ops.toList 0 ops.toList = true) (hQ : ∀ c a w, ¬ Q (.panic c) a w) (hL : ¬ LetsOut Q) :
    ∀ (fuel : Nat) (l : List (Nat × Bool)) (listed : List Bool) {ρ : Env} {w : World} {st : St} {a : Act}, l.length ≤ fuel → ordOK ops.toList listed l = true → RepS ρ st a w → ordA T real C H ops.toList reg l st K → (∀ a' w', Out K st.n ρ st.h w a' w' → Q .normal a' w') →
      wpAnyW P ops Q (Stay w (Mut ρ st.h)) fuel listed.toArray a w := by
  intro fuel
  induction fuel with
  | zero =>
    intro l listed ρ w st a hlen hor hs h hq
    obtain rfl : l = [] := List.length_eq_zero_iff.1 (by omega)
    simp only [ordA] at h
    simp only [ordOK] at hor
    cases hr : readyA listed 0 ops.toList with
    | nil => exact ⟨ready_nil hr, hq a w ⟨ρ, st, h, hs, Nat.le_refl _, Goes.refl _ _ _ _⟩⟩
    | cons p l => rw [hr] at hor; cases hor
  | succ fuel ih =>
    intro l listed ρ w st a hlen hor hs h hq
    cases l with
    | nil =>
      simp only [ordA] at h
      simp only [ordOK] at hor
      cases hr : readyA listed 0 ops.toList with
      | nil =>
        have e := ready_nil hr
        refine ⟨fun _ => hq a w ⟨ρ, st, h, hs, Nat.le_refl _, Goes.refl _ _ _ _⟩, fun i hi => ?_⟩
        rw [e] at hi
        cases hi
      | cons p l => rw [hr] at hor; cases hor
    | cons c l =>
      obtain ⟨i, s⟩ := c
      simp only [List.length_cons] at hlen
      simp only [ordA] at h
      simp only [ordOK] at hor
      cases hr : readyA listed 0 ops.toList with
      | nil => rw [hr] at hor; cases hor
      | cons p t =>
        rw [hr] at hor
        simp only [Bool.and_eq_true] at hor
        obtain ⟨hor1, hor2⟩ := hor
        cases ho : getO ops.toList i with
        | none => rw [ho] at h; exact h.elim
        | some o =>
          rw [ho] at h
          dsimp only at h
          have hio : ops[i]? = some o := by rw [getO_eq, Array.getElem?_toList] at ho; exact ho
          cases s with
          | false =>
            simp only [cond_false, Bool.and_eq_true] at hor1
            obtain ⟨hor1, horp⟩ := hor1
            rw [ho] at horp
            dsimp only at horp h
            have hir : i ∈ Region.ready .any ops listed.toArray := by
              rw [List.any_eq_true] at hor1
              obtain ⟨q, hq1, hq2⟩ := hor1
              rw [← hr] at hq1
              obtain ⟨q1, q2⟩ := q
              have hq2 : q1 = i := by simpa using hq2
              subst hq2
              exact (ready_iff.1 hq1).1
            obtain ⟨f1, f2, f3⟩ := frzs_sound (lkup (reg, i) H.fz) hs
            generalize frzs st (lkup (reg, i) H.fz) = st1 at *
            obtain ⟨st2, g1, g2, g3, g4⟩ := guard_sound f1 h
            have hap : ∀ j oj, ops[j]? = some oj → j ≠ i → (∀ e ∈ oj.after, Region.binds .any e = true → e.on ≠ i) → (∀ e ∈ o.after, Region.binds .any e = true → e.on ≠ j) → o.apart ops oj = true := by
              intro j oj hj hji ha hb
              have h5 := pairs_spec _ _ horp j oj (by rw [Array.getElem?_toList]; exact hj)
              rw [Nat.zero_add] at h5
              rcases h5 with h5 | h5 | h5 | h5
              · exact absurd h5.symm hji
              · obtain ⟨e, he1, he2, he3⟩ := onB_true _ h5
                exact absurd he3 (ha e (by simpa using he1) he2)
              · obtain ⟨e, he1, he2, he3⟩ := onB_true _ h5
                exact absurd he3 (hb e (by simpa using he1) he2)
              · exact apartA_iff h5
            have sp := regOK_spec _ _ hok
            have hsel : ∀ (j : Nat) (o : Oper) cs b, ops[j]? = some o → o.op ≠ .select cs b := by
              intro j oj cs b hj hse
              have := (sp j oj (by rw [Array.getElem?_toList]; exact hj)).1
              rw [hse] at this
              cases this
            have key : ∀ (av : AV) (v : Value), RelV ρ w (Mut ρ st2.h) av v → ordA T real C H ops.toList reg l (st2.put o.dst av) K → Late P ops (Stay w (Mut ρ st2.h)) o v a → wpAnyW P ops Q (Stay w (Mut ρ st.h)) (fuel + 1) listed.toArray a w := by
              intro av v h2 h1 h3
              have rs : RepS ρ (st2.put o.dst av) (a.put o.dst v) w := ⟨by rw [put_defers]; exact g1.defers, by rw [put_h]; exact put_rel o.dst g1.fr h2, by rw [put_h, put_n]; exact g1.rep⟩
              have h4 := ih l (setB listed i) (by omega) hor2 rs h1 (fun a' w' q => hq a' w' (by
                rw [put_n, put_h, g2, g3, f2] at q
                exact q.lift (f3 st.n) (Nat.le_refl _)))
              rw [put_h, setB_arr] at h4
              have stay : ∀ u, Stay w (Mut ρ st2.h) u → Stay w (Mut ρ st.h) u := fun u hu => Stay.of_keeps ((f3 st.n).keeps) (by rw [← g2]; exact hu)
              exact wpAnyW_mono stay (fuel + 1) _ _ _ (wpAnyW_first2 hio hsel hap hQ hL fuel _ _ _ hir h3 (Stay.refl _ _) h4)
            rcases g4 with ⟨hwt, g4⟩ | ⟨hwt, g4⟩
            · cases he : easyOp T st2 o.op with
              | false => rw [he] at g4; exact g4.elim
              | true =>
                rw [he] at g4
                dsimp only at g4
                obtain ⟨av, v, h1, h2, h3⟩ := easy_sound hT g1 he g4
                exact key av v h2 (pzB_elim h1) (.inl ⟨hwt, h3⟩)
            · exact key (.tup []) undef ⟨#[], rfl, rfl⟩ (pzB_elim g4) (.inr ⟨hwt, rfl⟩)
          | true =>
            simp only [cond_true, Bool.and_eq_true, beq_iff_eq] at hor1
            dsimp only at h
            obtain ⟨hp, ht⟩ := hor1
            obtain rfl : t = [] := by cases t with | nil => rfl | cons a b => simp at ht
            refine ⟨fun e => ?_, fun j hj => ?_⟩
            · have hm : p ∈ readyA listed 0 ops.toList := by rw [hr]; simp
              obtain ⟨q1, -⟩ := ready_iff.1 (show (p.1, p.2) ∈ _ from hm)
              rw [e] at q1
              cases q1
            · obtain ⟨-, oj, hoj, -⟩ := mem_ready.1 hj
              have hm := ready_iff.2 ⟨hj, hoj⟩
              rw [hr, List.mem_singleton] at hm
              have hji : j = i := by rw [← hp, ← hm]
              subst hji
              rw [hio] at hoj
              obtain rfl := Option.some.inj hoj
              unfold wpOp
              simp only [hio]
              refine step_sound (K := fun st => pzB l.length fun _ => ordA T real C H ops.toList reg l st K) hT hC hs h ?_
              rintro a' w' ⟨ρ', st', k1, k2, k3, k4⟩
              have k1 := pzB_elim k1
              refine ⟨k4.keeps.stay, ?_⟩
              have h4 := ih l (setB listed j) (by omega) hor2 k2 k1 (fun a2 w2 q => hq a2 w2 (q.lift k4 k3))
              rw [setB_arr] at h4
              exact wpAnyW_mono (fun u hu => Stay.of_keeps k4.keeps hu) _ _ _ _ h4
end
end Go.Proofs.Yteakfibolfapiaa.Ab
