/- The executor is sound: maps whose keys are ints. -/
import Derived.Test.YteakfibolfapiaaTrAb15
namespace Go.Proofs.Yteakfibolfapiaa.Ab
open Go.RowKit Go.Sort
set_option linter.unusedVariables false
set_option linter.unusedSimpArgs false

section
variable {P : Program} {T : Nat → TI} {ρ : Env} {w w' : World} {M : Nat → Prop} {n : Nat} {h : Hp}
theorem obj_mp {id : Nat} {k : IntKind} {l : List (Int × Value)} {h : Hp} (r : Rep ρ n h w) (ho : hget h id = some (.mp k l)) : ∃ b, ρ id = some (.map (some b)) ∧ Mk.IMap k w b l := r.objs id _ (hget_mem ho)
theorem obj_it {id e : Nat} {k : IntKind} {l : List (Int × Value)} {c : Option (Int × Value)} {h : Hp} (r : Rep ρ n h w) (ho : hget h id = some (.it k e l c)) : ∃ b r, ρ id = some (.pointer (some ⟨b, 0, none⟩)) ∧ Mk.IIterC k w r b l c ∧ ¬ Mut ρ h r := r.objs id _ (hget_mem ho)
theorem mapOf_rel {st : St} {a : Act} {x : AV} {v : Value} {k : IntKind} {l : List (Int × Value)} (hs : RepS ρ st a w) (hx : RelV ρ w (Mut ρ st.h) x v) (h : mapOf st x = some (k, l)) : ∃ r, v = .map (some r) ∧ Mk.IMap k w r l := by
  cases x with
  | d y =>
    cases y with
    | fm k' l' =>
      simp only [mapOf, Option.some.injEq, Prod.mk.injEq] at h
      obtain ⟨rfl, rfl⟩ := h
      obtain ⟨r, rfl, h1, -⟩ := hx
      exact ⟨r, rfl, h1⟩
    | _ => simp [mapOf] at h
  | map id =>
    simp only [mapOf] at h
    cases ho : hget st.h id with
    | none => simp [ho] at h
    | some o =>
      cases o with
      | mp k' l' =>
        simp only [ho, Option.some.injEq, Prod.mk.injEq] at h
        obtain ⟨rfl, rfl⟩ := h
        obtain ⟨b, h1, h2⟩ := obj_mp hs.rep ho
        obtain ⟨h3, -⟩ := hx
        rw [h1] at h3
        exact ⟨b, (Option.some.inj h3).symm, h2⟩
      | _ => simp [ho] at h
  | _ => simp [mapOf] at h
theorem keyOf_rel {k : IntKind} {x : AV} {v : Value} {key : Int} (hx : RelV ρ w M x v) (h : keyOf k x = some key) : v = .int k key := by
  cases x with
  | d y =>
    cases y with
    | int k' m =>
      simp only [keyOf] at h
      by_cases e : k = k'
      · subst e
        simp at h
        subst h
        exact hx
      · simp [e] at h
    | _ => simp [keyOf] at h
  | _ => simp [keyOf] at h
/-! elements -/
theorem cv_rel {l : List (Int × Value)} {key : Int} : ∀ (ks : List Kd) (vs : List Value) (j : Nat), cvOk ks vs = true → (∀ i, mcell l key (j + i) = vs[i]?) → RelDs w M (mcellsA real l key j ks) vs
  | [], [], j, _, _ => rfl
  | [], v :: vs, j, h, _ => by simp [cvOk] at h
  | k :: ks, [], j, h, _ => by simp [cvOk] at h
  | k :: ks, v :: vs, j, h, hc => by
    simp only [cvOk, Bool.and_eq_true] at h
    obtain ⟨h1, h2⟩ := h
    have h0 := hc 0
    simp only [Nat.add_zero, List.getElem?_cons_zero] at h0
    refine ⟨v, vs, rfl, ?_, cv_rel ks vs (j + 1) h2 fun i => ?_⟩
    · cases k with
      | int k =>
        cases v with
        | int k' n =>
          have e : k = k' := by simpa [kvOk] using h1
          subst e
          simp only [mcellA, real, h0]
          rfl
        | _ => simp [kvOk] at h1
      | bool =>
        cases v with
        | bool b => simp only [mcellA, real, h0]; rfl
        | _ => simp [kvOk] at h1
      | str =>
        cases v with
        | string s => simp only [mcellA, real, h0, RelD]
        | _ => simp [kvOk] at h1
      | _ => cases v <;> simp [kvOk] at h1
    · have := hc (i + 1)
      rw [List.getElem?_cons_succ] at this
      rw [← this]
      congr 1
      omega
theorem zk_rel {l : List (Int × Value)} {key : Int} (hn : Mk.look l key = none) : ∀ (ks : List Kd) (z : List D) (vs : List Value) (j : Nat), zerosK ks z = true → RelDs w M z vs → RelDs w M (mcellsA real l key j ks) vs
  | [], z, vs, j, h, r => by
    cases z with
    | nil => exact r
    | cons d z => simp [zerosK] at h
  | k :: ks, z, vs, j, h, r => by
    have hm : ∀ j, mcell l key j = none := fun j => by simp [mcell, hn]
    cases z with
    | nil => cases k <;> simp [zerosK] at h
    | cons d z =>
      obtain ⟨v, vs', rfl, hv, r⟩ := r
      cases k with
      | int k =>
        cases d with
        | int k' m =>
          simp only [zerosK] at h
          by_cases e : k = k' ∧ m = 0
          · obtain ⟨rfl, rfl⟩ := e
            simp at h
            exact ⟨v, vs', rfl, by simp only [mcellA, real, hm]; exact hv, zk_rel hn ks z vs' (j + 1) h r⟩
          · have : (decide (k = k') && decide (m = 0)) = false := by
              rw [Bool.and_eq_false_iff]
              by_cases e1 : k = k'
              · right; simpa using fun e2 => e ⟨e1, e2⟩
              · left; simpa using e1
            rw [this] at h
            cases h
        | _ => simp [zerosK] at h
      | bool =>
        cases d with
        | bool b =>
          cases b with
          | true => simp [zerosK] at h
          | false =>
            simp [zerosK] at h
            exact ⟨v, vs', rfl, by simp only [mcellA, real, hm]; exact hv, zk_rel hn ks z vs' (j + 1) h r⟩
        | _ => simp [zerosK] at h
      | str =>
        cases d with
        | str s =>
          cases s with
          | nil =>
            simp only [zerosK] at h
            exact ⟨v, vs', rfl, by simp only [mcellA, real, hm]; exact hv, zk_rel hn ks z vs' (j + 1) h r⟩
          | cons x s => simp [zerosK] at h
        | _ => simp [zerosK] at h
      | _ => simp [zerosK] at h
theorem val_rel {l : List (Int × Value)} {key : Int} {agg : Bool} {ks : List Kd} {v : Value} (hl : Mk.look l key = some v) (ho : valOk ks agg v = true) (hk : agg = false → ∃ k, ks = [k]) : RelV ρ w M (mvalA real agg ks l key) v := by
  have hm : ∀ j, mcell l key j = v.cells.toList[j]? := fun j => by simp [mcell, hl]
  cases agg with
  | true =>
    cases v with
    | agg cs => exact ⟨cs, rfl, cv_rel ks _ 0 ho fun i => by rw [Nat.zero_add]; exact hm i⟩
    | _ => simp [valOk] at ho
  | false =>
    obtain ⟨k, rfl⟩ := hk rfl
    have h1 : cvOk [k] [v] = true ∧ v.cells.toList = [v] := by
      cases v <;> first | exact ⟨ho, rfl⟩ | (simp [valOk] at ho)
    obtain ⟨x, r, e, hx, -⟩ := cv_rel (w := w) (M := M) (l := l) (key := key) [k] [v] 0 h1.1 fun i => by rw [Nat.zero_add, hm, h1.2]
    cases e
    exact hx
theorem look_mem' {l : List (Int × Value)} {key : Int} {v : Value} (h : Mk.look l key = some v) : ∃ p ∈ l, p.2 = v := by
  unfold Mk.look at h
  rw [Option.map_eq_some_iff] at h
  obtain ⟨p, h1, h2⟩ := h
  exact ⟨p, List.mem_of_find?_eq_some h1, h2⟩
theorem mok_at {l : List (Int × Value)} {ks : List Kd} {agg : Bool} (h : real.mok l ks agg = true) {p : Int × Value} (hp : p ∈ l) : valOk ks agg p.2 = true := by
  simp only [real, List.all_eq_true] at h
  exact h p hp
/-- The zero value of an element. -/
theorem zero_rel (hT : TysOK P T) {e : Nat} (he : eltOk T e = true) {l : List (Int × Value)} {key : Int} (hn : Mk.look l key = none) : ∃ z, (zeroValue e).run P w = .ok z w ∧ RelV ρ w M (mvalA real (isAggT (T e)) (kinds T 8 e) l key) z := by
  simp only [eltOk, Ab.ty, Bool.and_eq_true] at he
  obtain ⟨⟨⟨h1, h2⟩, h3⟩, h4⟩ := he
  have hs0 : (T e).size ≠ 0 := by have := Nat.le_of_ble_eq_true h4; omega
  cases hz : (T e).zero with
  | none => rw [hz] at h3; cases h3
  | some z =>
    rw [hz] at h3
    obtain ⟨i, v, hi, hv, hzd, -⟩ := hT.zero hs0 hz
    have hr := zeroD_rel (w := w) (M := M) hzd
    obtain ⟨g1, g2⟩ := hT.zsh e hs0
    have hrun : (zeroValue e).run P w = .ok v w := by simp [zeroValue, typeInfo, hi, hv]
    refine ⟨v, hrun, ?_⟩
    have hc := zk_rel hn (kinds T 8 e) z _ 0 h3 hr
    have hsh : zshape P e = (match v with | .agg _ => isAggT (tiOf P e) | _ => !isAggT (tiOf P e)) := by
      simp only [zshape, hi, Option.bind_some, hv]
      cases v <;> rfl
    rw [hsh] at g1
    rw [g2] at h2 ⊢
    cases ha : isAggT (tiOf P e) with
    | true =>
      rw [ha] at g1
      cases v with
      | agg cs => exact ⟨cs, rfl, hc⟩
      | _ => simp at g1
    | false =>
      rw [ha] at g1 h2
      have hk : ∃ k, kinds T 8 e = [k] := by
        match hks : kinds T 8 e, h2 with
        | [k], _ => exact ⟨k, rfl⟩
        | [], h2 => simp at h2
        | _ :: _ :: _, h2 => simp at h2
      obtain ⟨k, hk⟩ := hk
      rw [hk] at hc ⊢
      have hv1 : v.cells.toList = [v] := by cases v <;> first | rfl | (simp at g1)
      rw [hv1] at hc
      obtain ⟨x, r, e1, hx, -⟩ := hc
      cases e1
      exact hx
theorem elt_one {e : Nat} (he : eltOk T e = true) (ha : isAggT (T e) = false) : ∃ k, kinds T 8 e = [k] := by
  simp only [eltOk, Ab.ty, Bool.and_eq_true] at he
  obtain ⟨⟨⟨h1, h2⟩, h3⟩, h4⟩ := he
  rw [ha] at h2
  match hks : kinds T 8 e, h2 with
  | [k], _ => exact ⟨k, rfl⟩
  | [], h2 => simp at h2
  | _ :: _ :: _, h2 => simp at h2
/-- The zero value of a slice. -/
theorem zero_sl (hT : TysOK P T) {e e' : Nat} (hu : (T e).u = .slice e') (h4 : Nat.blt 0 (T e).size = true) (hz : (T e).zero = some [.nilsl]) (w : World) : (zeroValue e).run P w = .ok (.slice none 0 0) w := by
  have hs0 : (T e).size ≠ 0 := by have := Nat.le_of_ble_eq_true h4; omega
  obtain ⟨i, v, hi, hv, hzd, -⟩ := hT.zero hs0 hz
  have hr := zeroD_rel (w := w) (M := fun _ => False) hzd
  obtain ⟨g1, g2⟩ := hT.zsh e hs0
  have hrun : (zeroValue e).run P w = .ok v w := by simp [zeroValue, typeInfo, hi, hv]
  have hsh : zshape P e = (match v with | .agg _ => isAggT (tiOf P e) | _ => !isAggT (tiOf P e)) := by
    simp only [zshape, hi, Option.bind_some, hv]
    cases v <;> rfl
  have ha : isAggT (tiOf P e) = false := by
    rw [← g2]
    unfold isAggT
    rw [hu]
  rw [hsh, ha] at g1
  have hv1 : v.cells.toList = [v] := by cases v <;> first | rfl | (simp at g1)
  rw [hv1] at hr
  obtain ⟨x, r, e1, hx, -⟩ := hr
  cases e1
  rw [hrun, show v = .slice none 0 0 from hx]
theorem slCase_spec {e : Nat} {ok : Bool} (h : slCase T e ok = true) : ∃ e', (T e).u = .slice e' ∧ ok = false ∧ (T e).zero = some [.nilsl] ∧ Nat.blt 0 (T e).size = true := by
  unfold slCase Ab.ty at h
  split at h
  · rename_i e' h1 h2
    exact ⟨e', h1, rfl, h2, h⟩
  · cases h
theorem mraw_sl {l : List (Int × Value)} (h : slOk l) (key : Int) : ∃ a n cap, mraw l key = .slice a n cap := by
  unfold mraw
  cases hl : Mk.look l key with
  | none => exact ⟨_, _, _, rfl⟩
  | some v =>
    obtain ⟨p, hp, rfl⟩ := look_mem' hl
    exact h p hp
theorem mlook_gives (hT : TysOK P T) {st : St} {a : Act} {t : Nat} {m x : AV} {vm vx : Value} {ok : Bool} {K : AV → Prop} (hs : RepS ρ st a w) (hm : RelV ρ w (Mut ρ st.h) m vm) (hx : RelV ρ w (Mut ρ st.h) x vx)
    (h : mlookA T real st t m x ok K) : Gives P ρ w (Mut ρ st.h) K (Instr.lookup t vm vx ok) := by
  unfold mlookA Ab.ty at h
  split at h
  case h_2 => exact h.elim
  rename_i kt e hu
  split at h
  case h_2 => exact h.elim
  rename_i k k' l hk hmo
  cases hky : keyOf k x with
  | none => rw [hky] at h; exact h.elim
  | some key =>
    rw [hky] at h
    dsimp only at h
    cases hsc : slCase T e ok with
    | true =>
      rw [hsc] at h
      obtain ⟨e', he, rfl, hz, hsz⟩ := slCase_spec hsc
      obtain ⟨rfl, ⟨hsl⟩, h⟩ := h
      obtain ⟨r, rfl, him⟩ := mapOf_rel hs hm hmo
      obtain rfl := keyOf_rel hx hky
      have hrun := Mk.run_lookup him (hT.map hu) (hT.int hk) (zero_sl hT he hsz hz w) key false
      exact ⟨_, _, h.h _ rfl, ⟨rfl, mraw_sl hsl key⟩, hrun⟩
    | false =>
    rw [hsc] at h
    dsimp only at h
    have hh := bif_true h not_false
    clear h
    obtain ⟨hc, hok, h⟩ := hh
    rw [Bool.and_eq_true, decide_eq_true_eq] at hc
    obtain ⟨rfl, he⟩ := hc
    obtain ⟨r, rfl, him⟩ := mapOf_rel hs hm hmo
    obtain rfl := keyOf_rel hx hky
    have key' : ∀ z, (zeroValue e).run P w = .ok z w → (Mk.look l key = none → RelV ρ w (Mut ρ st.h) (mvalA real (isAggT (T e)) (kinds T 8 e) l key) z) → Gives P ρ w (Mut ρ st.h) K (Instr.lookup t (.map (some r)) (.int k key) ok) := by
      intro z hz hzr
      have hrun := Mk.run_lookup him (hT.map hu) (hT.int hk) hz key ok
      have hv : RelV ρ w (Mut ρ st.h) (mvalA real (isAggT (T e)) (kinds T 8 e) l key) ((Mk.look l key).getD z) := by
        cases hl : Mk.look l key with
        | none => exact hzr hl
        | some v =>
          obtain ⟨p, hp, rfl⟩ := look_mem' hl
          exact val_rel hl (mok_at hok hp) (elt_one he)
      cases ok with
      | false => exact ⟨_, _, h, hv, hrun⟩
      | true => exact ⟨_, _, h, ⟨_, rfl, _, _, rfl, hv, _, _, rfl, rfl, rfl⟩, hrun⟩
    cases hl : Mk.look l key with
    | none =>
      obtain ⟨z, hz, hr⟩ := zero_rel (w := w) (ρ := ρ) (M := Mut ρ st.h) hT he hl
      exact key' z hz fun _ => hr
    | some v =>
      obtain ⟨z, hz, -⟩ := zero_rel (w := w) (ρ := ρ) (M := Mut ρ st.h) (l := []) (key := key) hT he rfl
      exact key' z hz fun e => by rw [hl] at e; cases e
theorem mkmap_next {st : St} {a : Act} {t : Nat} {k : IntKind} {K : St → AV → Prop} (hs : RepS ρ st a w) (h : K { st with n := st.n + 1, h := st.h ++ [(st.n, .mp k [])] } (.map st.n)) : Nexts P ρ st w K (Instr.makeMap t none) :=
  nexts_new (av := .map st.n) (v := .map (some w.heap.size)) (pv := .map (some w.heap.size)) (o := .mp k []) hs (grows_alloc w (.map #[] 0)) rfl rfl rfl (alloc_size _ _) (by simp [Instr.makeMap, newObj, Sem.run]) (fun b hb => by simp [blkIn, blkOf] at hb; omega)
    (fun _ => ⟨w.heap.size, upd_same _ _ _, Mk.IMap.made (Tr.blk_new w _)⟩) ⟨upd_same _ _ _, _, rfl⟩ h
theorem dval_rel {d : D} {v x : Value} (h : dval d = some v) (r : RelD w M d x) : x = v := by
  cases d <;> simp [dval] at h <;> subst h <;> first | exact r | (obtain rfl := (show x = _ from r); rfl)
theorem dvals_rel : ∀ (l : List D) (vs xs : List Value), dvals l = some vs → RelDs w M l xs → xs = vs
  | [], vs, xs, h, r => by simp [dvals] at h; subst h; exact r
  | d :: l, vs, xs, h, ⟨v, rest, hv, r1, r2⟩ => by
    simp only [dvals] at h
    cases h1 : dval d with
    | none => simp [h1] at h
    | some y =>
      cases h2 : dvals l with
      | none => simp [h1, h2] at h
      | some ys =>
        simp only [h1, h2, Option.some.injEq] at h
        subst h
        rw [hv, dval_rel h1 r1, dvals_rel l ys rest h2 r2]
theorem valA_rel {x : AV} {v y : Value} (h : valA x = some v) (r : RelV ρ w M x y) : y = v := by
  unfold valA at h
  split at h
  · rename_i l
    cases h1 : dvals l with
    | none => simp [h1] at h
    | some vs =>
      simp only [h1, Option.some.injEq] at h
      obtain ⟨cs, rfl, r⟩ := r
      have := dvals_rel l vs _ h1 r
      rw [← h, ← this]
  · rename_i l
    cases h0 : dsOf l with
    | none => simp [h0] at h
    | some ds =>
      cases h1 : dvals ds with
      | none => simp [h0, h1] at h
      | some vs =>
        simp only [h0, h1, Option.some.injEq] at h
        obtain ⟨cs, rfl, r⟩ := r
        have e := dsOf_map _ _ h0
        subst e
        have := dvals_rel ds vs _ h1 (rels_dsM ds _ r)
        rw [← h, ← this]
  · exact dval_rel h r
  · cases h
    exact r.1
  · cases h
where
  rels_dsM : ∀ (ds : List D) (vs : List Value), RelVs ρ w M (ds.map .d) vs → RelDs w M ds vs
    | [], vs, h => h
    | d :: ds, vs, ⟨v, r, hv, h1, h2⟩ => ⟨v, r, hv, h1, rels_dsM ds r h2⟩
theorem mupd_next (hT : TysOK P T) {st : St} {a : Act} {t : Nat} {m x y : AV} {vm vx vy : Value} {K : St → Prop} (hs : RepS ρ st a w) (hm : RelV ρ w (Mut ρ st.h) m vm) (hx : RelV ρ w (Mut ρ st.h) x vx) (hy : RelV ρ w (Mut ρ st.h) y vy)
    (h : mupdA T real st t m x y K) : ∃ w' n' h', (Instr.mapUpdate t vm vx vy).run P w = .ok () w' ∧ K { st with n := n', h := h' } ∧ Rep ρ n' h' w' ∧ st.n ≤ n' ∧ Goes st.n ρ st.h w ρ h' w' := by
  unfold mupdA Ab.ty at h
  split at h
  case h_2 => exact h.elim
  rename_i kt e id hu
  split at h
  case h_2 => exact h.elim
  rename_i k k' l hk ho
  split at h
  case h_2 => exact h.elim
  rename_i key val hky hva
  have hh := bif_true h not_false
  clear h
  obtain ⟨hc, h⟩ := hh
  rw [decide_eq_true_eq] at hc
  subst hc
  obtain ⟨b, h1, h2⟩ := obj_mp hs.rep ho
  obtain ⟨h3, -⟩ := hm
  rw [h1] at h3
  obtain rfl := Option.some.inj h3
  obtain rfl := keyOf_rel hx hky
  obtain rfl := valA_rel hva hy
  obtain ⟨w', hrun, g1, g2, g3⟩ := Mk.run_update h2 (hT.map hu) (hT.int hk) key vy
  have hw : ∀ j, j ≠ b → w'.heap[j]? = w.heap[j]? := fun j hj => by
    rcases Nat.lt_or_ge j w.heap.size with hl | hl
    · exact g2.block j hl hj
    · rw [Array.getElem?_eq_none hl, Array.getElem?_eq_none (by rw [g3]; exact hl)]
  exact ⟨w', st.n, _, hrun, h, hs.rep.set (hget_mem ho) h1 rfl hw (fun _ => ⟨b, h1, g1⟩), Nat.le_refl _, goes_set hs.rep (hget_mem ho) h1 rfl hw g2.os g2.tape g2.output g3⟩
theorem run_delete {κ : IntKind} {t kt e t2 : TypeId} {r : Nat} {l : List (Int × Value)} (h : Mk.IMap κ w r l) (ht : P.underlying t = some (.map kt e)) (hK : P.underlying kt = some (.int κ)) (k : Int) (ty : TypeId) :
    ∃ w', (Builtin.delete_ #[t, t2] ty #[.map (some r), .int κ k]).run P w = .ok (.tuple #[]) w' ∧ Mk.IMap κ w' r (Mk.del l k) ∧ Tr.Chg r w w' ∧ w'.heap.size = w.heap.size := by
  obtain ⟨hn, E, clock, hb, hE, hbn, hlt⟩ := h
  have hg : (getObj r).run P w = .ok (.map E clock) w := by simp [getObj, Sem.run, hb]
  have hs : ∀ o : Obj, (Go.setObj r o).run P w = .ok () (Go.ChangeMaps.setBlock w r o) := fun o => by simp [Go.setObj, Sem.run, hb, Go.ChangeMaps.setBlock]
  have hc : (Instr.checkKey E.isEmpty 10000 kt (.int κ k)).run P w = .ok () w := Mk.run_checkKey hK _ 9999 k w
  have hf := Mk.run_findKey hK k E.toList l hE w
  cases hx : l.findIdx? (·.1 == k) with
  | none =>
    rw [hx] at hf
    refine ⟨Go.ChangeMaps.setBlock w r (.map E clock), ?_, ⟨?_, E, clock, Mk.blk_setBlock hb, ?_, hbn, hlt⟩, Mk.chg_setBlock _, by simp [Go.ChangeMaps.setBlock]⟩
    · unfold Builtin.delete_
      simp [run_underlying ht, hg, hc, hf, hs, Result.andThen]
    · unfold Mk.del; rw [hx]; exact hn
    · unfold Mk.del; rw [hx]; exact hE
  | some i =>
    obtain ⟨hi, hk, _⟩ := List.findIdx?_eq_some_iff_getElem.1 hx
    have hlen : E.size = l.length := by have := congrArg List.length hE; simpa using this
    have hiE : i < E.size := by omega
    have hsub : (E.eraseIdxIfInBounds i).toList = E.toList.eraseIdx i := by
      unfold Array.eraseIdxIfInBounds
      rw [dif_pos hiE]
      simp
    have her : ∀ {α β : Type} (f : α → β) (L : List α) (j : Nat), (L.eraseIdx j).map f = (L.map f).eraseIdx j := by
      intro α β f L
      induction L with
      | nil => intro j; rfl
      | cons a L ih => intro j; cases j with
        | zero => rfl
        | succ j => simp [ih j]
    rw [hx] at hf
    refine ⟨Go.ChangeMaps.setBlock w r (.map (E.eraseIdxIfInBounds i) clock), ?_, ⟨?_, _, clock, Mk.blk_setBlock hb, ?_, ?_, ?_⟩, Mk.chg_setBlock _, by simp [Go.ChangeMaps.setBlock]⟩
    · unfold Builtin.delete_
      simp [run_underlying ht, hg, hc, hf, hs, Result.andThen, List.getElem?_eq_getElem hi]
    · unfold Mk.del; rw [hx]
      dsimp only
      rw [her]
      exact hn.sublist (List.eraseIdx_sublist _ _)
    · unfold Mk.del; rw [hx, hsub]
      dsimp only
      rw [her, her, hE]
    · rw [hsub, her]
      exact hbn.sublist (List.eraseIdx_sublist _ _)
    · intro x hx'
      rw [hsub] at hx'
      exact hlt x ((List.eraseIdx_sublist _ _).subset hx')
theorem mdel_next (hT : TysOK P T) {st : St} {a : Act} {t t2 : Nat} {m x : AV} {vm vx : Value} {ty : TypeId} {K : St → AV → Prop} (hs : RepS ρ st a w) (hm : RelV ρ w (Mut ρ st.h) m vm) (hx : RelV ρ w (Mut ρ st.h) x vx)
    (h : mdelA T real st t m x K) : Nexts P ρ st w K (Builtin.delete_ #[t, t2] ty #[vm, vx]) := by
  unfold mdelA Ab.ty at h
  split at h
  case h_2 => exact h.elim
  rename_i kt e id hu
  split at h
  case h_2 => exact h.elim
  rename_i k k' l hk ho
  split at h
  case h_2 => exact h.elim
  rename_i key hky
  have hh := bif_true h not_false
  clear h
  obtain ⟨hc, h⟩ := hh
  rw [decide_eq_true_eq] at hc
  subst hc
  obtain ⟨b, h1, h2⟩ := obj_mp hs.rep ho
  obtain ⟨h3, -⟩ := hm
  rw [h1] at h3
  obtain rfl := Option.some.inj h3
  obtain rfl := keyOf_rel hx hky
  obtain ⟨w', hrun, g1, g2, g3⟩ := run_delete (t2 := t2) h2 (hT.map hu) (hT.int hk) key ty
  have hw : ∀ j, j ≠ b → w'.heap[j]? = w.heap[j]? := fun j hj => by
    rcases Nat.lt_or_ge j w.heap.size with hl | hl
    · exact g2.block j hl hj
    · rw [Array.getElem?_eq_none hl, Array.getElem?_eq_none (by rw [g3]; exact hl)]
  exact ⟨_, w', .tup [], ρ, st.n, _, hrun, h, hs.rep.set (hget_mem ho) h1 rfl hw (fun _ => ⟨b, h1, g1⟩), ⟨#[], rfl, rfl⟩, Nat.le_refl _, goes_set hs.rep (hget_mem ho) h1 rfl hw g2.os g2.tape g2.output g3⟩
theorem mlen_gives (hT : TysOK P T) {st : St} {a : Act} {b : Builtin} {ts : List Nat} {args : List AV} {vs : List Value} {l : List (Int × Value)} {ty : TypeId} {K : AV → Prop} (hs : RepS ρ st a w) (hr : RelVs ρ w (Mut ρ st.h) args vs) (h : mapLen T st b ts args = some l)
    (hK : K (.d (.int .i64 (real.mlen l)))) : b = .len ∧ ∃ t rest x v, ts = t :: rest ∧ args = [x] ∧ vs = [v] ∧ Gives P ρ w (Mut ρ st.h) K (Builtin.len_ ts.toArray ty vs.toArray) := by
  unfold mapLen Ab.ty at h
  split at h
  case h_2 => cases h
  rename_i t rest x
  split at h
  case h_2 => cases h
  rename_i kt e hu
  split at h
  case h_2 => cases h
  rename_i k l' hmo
  cases h
  obtain ⟨v, r, rfl, hx, hr⟩ := hr
  obtain rfl : r = [] := hr
  obtain ⟨b, rfl, him⟩ := mapOf_rel hs hx hmo
  obtain ⟨E, clock, hb, hE⟩ := him.size
  refine ⟨rfl, t, rest, x, _, rfl, rfl, rfl, _, _, hK, rfl, ?_⟩
  have hg : (getObj b).run P w = .ok (.map E clock) w := by simp [getObj, Sem.run, hb]
  simp [Builtin.len_, run_underlying (hT.map hu), goInt, real, hg, hE]
theorem range_next (hT : TysOK P T) {st : St} {a : Act} {t kt e : Nat} {k : IntKind} {l : List (Int × Value)} {v : Value} {K : St → AV → Prop} (hs : RepS ρ st a w) (hu : (T t).u = .map kt e) (hx : RelV ρ w (Mut ρ st.h) (.d (.fm k l)) v)
    (h : K { st with n := st.n + 1, h := st.h ++ [(st.n, .it k e l none)] } (.iter st.n)) : Nexts P ρ st w K (Instr.range t v) := by
  obtain ⟨r, rfl, him, hn⟩ := hx
  obtain ⟨w', hrun, h1, h2⟩ := Mk.run_range him (hT.map hu)
  have hg : Grows w w' := fun b o hbo => by rw [h2.block b (lt_of_get hbo)]; exact hbo
  have hr : r < w.heap.size := him.lt
  refine nexts_new (av := .iter st.n) (v := .pointer (some ⟨w.heap.size, 0, none⟩)) (pv := .pointer (some ⟨w.heap.size, 0, none⟩)) (o := .it k e l none) hs hg h2.os h2.tape h2.output h2.size hrun (fun b hb => by simp [blkIn, blkOf] at hb; omega)
    (fun hk => ⟨w.heap.size, r, upd_same _ _ _, h1.c, ?_⟩) ⟨upd_same _ _ _, _, rfl⟩ h
  obtain ⟨_, E, c, hb, -⟩ := him
  exact (hk r _ hb hn).2
theorem next_next (hT : TysOK P T) {st : St} {a : Act} {x : AV} {v : Value} {ty : TypeId} {K : St → AV → Prop} (hs : RepS ρ st a w) (hx : RelV ρ w (Mut ρ st.h) x v) (h : nextA T real st x K) : Nexts P ρ st w K (Instr.next v false ty) := by
  unfold nextA Ab.ty at h
  split at h
  case h_2 => exact h.elim
  rename_i id
  split at h
  case h_2 => exact h.elim
  rename_i k e l c0 ho
  split at h
  · rename_i e' he
    obtain ⟨⟨hsl⟩, hdone, hmore⟩ := h
    obtain ⟨b, r, h1, h2, h3⟩ := obj_it hs.rep ho
    obtain ⟨h4, -⟩ := hx
    rw [h1] at h4
    obtain rfl := Option.some.inj h4
    rcases Mk.run_next (P := P) h2.it ty with ⟨h0, hrun⟩ | ⟨⟨key, val⟩, l', w', hperm, hrun, hit, ⟨hch, hsz⟩, -⟩
    · exact ⟨_, w, _, ρ, st.n, st.h, hrun, hdone.h () h0, hs.rep, ⟨_, rfl, _, _, rfl, rfl, rfl⟩, Nat.le_refl _, Goes.refl _ _ _ _⟩
    · have hp : (key, val) ∈ l := hperm.mem_iff.2 (by simp)
      have hK := hmore.h ((key, val), l') hperm
      have hw : ∀ j, j ≠ b → w'.heap[j]? = w.heap[j]? := fun j hj => by
        rcases Nat.lt_or_ge j w.heap.size with hl | hl
        · exact hch.block j hl hj
        · rw [Array.getElem?_eq_none hl, Array.getElem?_eq_none (by rw [hsz]; exact hl)]
      refine ⟨_, w', _, ρ, st.n, _, hrun, hK, hs.rep.set (hget_mem ho) h1 rfl hw (fun hk => ⟨b, r, h1, hit, ?_⟩), ⟨_, rfl, _, _, rfl, rfl, _, _, rfl, rfl, _, _, rfl, ⟨rfl, hsl _ hp⟩, rfl⟩, Nat.le_refl _, goes_set hs.rep (hget_mem ho) h1 rfl hw hch.os hch.tape hch.output hsz⟩
      obtain ⟨E, c, s, g1, g2⟩ := h2
      exact (hk r _ g1 h3).2
  obtain ⟨he, ⟨hok, hdone⟩, hmore⟩ := bif_true h not_false
  obtain ⟨b, r, h1, h2, h3⟩ := obj_it hs.rep ho
  obtain ⟨h4, -⟩ := hx
  rw [h1] at h4
  obtain rfl := Option.some.inj h4
  rcases Mk.run_next (P := P) h2.it ty with ⟨h0, hrun⟩ | ⟨⟨key, val⟩, l', w', hperm, hrun, hit, ⟨hch, hsz⟩, -⟩
  · exact ⟨_, w, _, ρ, st.n, st.h, hrun, hdone.h () h0, hs.rep, ⟨_, rfl, _, _, rfl, rfl, rfl⟩, Nat.le_refl _, Goes.refl _ _ _ _⟩
  · have hp : (key, val) ∈ l := hperm.mem_iff.2 (by simp)
    have hK := hmore.h ((key, val), l') hperm
    have hw : ∀ j, j ≠ b → w'.heap[j]? = w.heap[j]? := fun j hj => by
      rcases Nat.lt_or_ge j w.heap.size with hl | hl
      · exact hch.block j hl hj
      · rw [Array.getElem?_eq_none hl, Array.getElem?_eq_none (by rw [hsz]; exact hl)]
    have hl1 : Mk.look [(key, val)] key = some val := by simp [Mk.look]
    refine ⟨_, w', _, ρ, st.n, _, hrun, hK, hs.rep.set (hget_mem ho) h1 rfl hw (fun hk => ⟨b, r, h1, hit, ?_⟩), ⟨_, rfl, _, _, rfl, rfl, _, _, rfl, rfl, _, _, rfl, val_rel hl1 (mok_at hok hp) (elt_one he), rfl⟩, Nat.le_refl _, goes_set hs.rep (hget_mem ho) h1 rfl hw hch.os hch.tape hch.output hsz⟩
    obtain ⟨E, c, s, g1, g2⟩ := h2
    exact (hk r _ g1 h3).2
theorem entry_gives (hT : TysOK P T) {st : St} {a : Act} {x : AV} {v : Value} {K : AV → Prop} (hs : RepS ρ st a w) (hx : RelV ρ w (Mut ρ st.h) x v) (h : entryA T real st x K) : Gives P ρ w (Mut ρ st.h) K (Instr.entry v) := by
  unfold entryA Ab.ty at h
  split at h
  case h_2 => exact h.elim
  rename_i id
  split at h
  case h_2 => exact h.elim
  rename_i k e l p ho
  split at h
  · rename_i e' he
    obtain ⟨⟨hsl⟩, hK⟩ := h
    obtain ⟨b, r, h1, h2, h3⟩ := obj_it hs.rep ho
    obtain ⟨h4, -⟩ := hx
    rw [h1] at h4
    obtain rfl := Option.some.inj h4
    exact ⟨_, _, hK, ⟨_, rfl, _, _, rfl, rfl, _, _, rfl, ⟨rfl, hsl p (by simp)⟩, rfl⟩, h2.entry P⟩
  obtain ⟨he, hok, hK⟩ := bif_true h not_false
  obtain ⟨b, r, h1, h2, h3⟩ := obj_it hs.rep ho
  obtain ⟨h4, -⟩ := hx
  rw [h1] at h4
  obtain rfl := Option.some.inj h4
  have hl1 : Mk.look [p] p.1 = some p.2 := by simp [Mk.look]
  exact ⟨_, _, hK, ⟨_, rfl, _, _, rfl, rfl, _, _, rfl, val_rel hl1 (mok_at hok (by simp)) (elt_one he), rfl⟩, h2.entry P⟩
theorem srange_next (hT : TysOK P T) {st : St} {a : Act} {t : Nat} {s : List UInt8} {v : Value} {K : St → AV → Prop} (hs : RepS ρ st a w) (hu : (T t).u = .str) (hx : RelV ρ w (Mut ρ st.h) (.d (.str s)) v)
    (h : K { st with n := st.n + 1, h := st.h ++ [(st.n, .sit s 0)] } (.iter st.n)) : Nexts P ρ st w K (Instr.range t v) := by
  obtain rfl : v = .string ⟨s.toArray⟩ := hx
  refine nexts_new (av := .iter st.n) (v := .pointer (some ⟨w.heap.size, 0, none⟩)) (pv := .pointer (some ⟨w.heap.size, 0, none⟩)) (o := .sit s 0) hs (grows_alloc w (.stringIter ⟨s.toArray⟩ 0)) rfl rfl rfl (alloc_size _ _) ?_ (fun b hb => by simp [blkIn, blkOf] at hb; omega)
    (fun hk => ⟨w.heap.size, upd_same _ _ _, Int.le_refl _, Tr.blk_new w _⟩) ⟨upd_same _ _ _, _, rfl⟩ h
  unfold Instr.range
  rw [Sem.run_bind, run_underlying (hT.str hu) w]
  simp [Result.andThen, newObj, Sem.run]
theorem snext_next {st : St} {a : Act} {x : AV} {v : Value} {ty : TypeId} {K : St → AV → Prop} (hs : RepS ρ st a w) (hx : RelV ρ w (Mut ρ st.h) x v) (h : snextA real st x K) : Nexts P ρ st w K (Instr.next v true ty) := by
  unfold snextA at h
  split at h
  case h_2 => exact h.elim
  rename_i id
  split at h
  case h_2 => exact h.elim
  rename_i s p ho
  obtain ⟨b, h1, h2, h3⟩ : ∃ b, ρ id = some (.pointer (some ⟨b, 0, none⟩)) ∧ 0 ≤ p ∧ w.heap[b]? = some (.stringIter ⟨s.toArray⟩ p.toNat) := hs.rep.objs id _ (hget_mem ho)
  obtain ⟨h4, -⟩ := hx
  rw [h1] at h4
  obtain rfl := Option.some.inj h4
  have hsz : (ByteArray.mk s.toArray).size = s.length := by simp [ByteArray.size]
  have hgo : (getObj b).run P w = .ok (.stringIter ⟨s.toArray⟩ p.toNat) w := by simp [getObj, Sem.run, h3]
  cases h with
  | yes hb hK =>
    have hlt : p.toNat < s.length := by simpa [real] using hb
    have hw : ∀ j, j ≠ b → (Go.ChangeMaps.setBlock w b (.stringIter ⟨s.toArray⟩ (p.toNat + (Utf8.decode ⟨s.toArray⟩ p.toNat).2))).heap[j]? = w.heap[j]? := fun j hj => by simp [Go.ChangeMaps.setBlock, Array.getElem?_setIfInBounds, Ne.symm hj]
    refine ⟨_, Go.ChangeMaps.setBlock w b (.stringIter ⟨s.toArray⟩ (p.toNat + (Utf8.decode ⟨s.toArray⟩ p.toNat).2)), _, ρ, st.n, _, ?_, hK, hs.rep.set (hget_mem ho) h1 rfl hw (fun hk => ⟨b, h1, ?_, ?_⟩), ⟨_, rfl, _, _, rfl, rfl, _, _, rfl, rfl, _, _, rfl, rfl, rfl⟩, Nat.le_refl _, goes_set hs.rep (hget_mem ho) h1 rfl hw rfl rfl rfl (by simp [Go.ChangeMaps.setBlock])⟩
    · unfold Instr.next
      simp only [Sem.run_bind, hgo, Result.andThen, hsz, hlt, if_true]
      have e : ((p.toNat : Nat) : Int) = p := by omega
      simp [Go.setObj, Sem.run, h3, Go.ChangeMaps.setBlock, goInt, e, real]
    · simp only [real]; omega
    · simp only [real, Int.toNat_natCast]
      exact Mk.blk_setBlock h3
  | no hb hK =>
    have hlt : ¬ p.toNat < s.length := by simpa [real] using hb
    refine ⟨_, w, _, ρ, st.n, st.h, ?_, hK, hs.rep, ⟨_, rfl, _, _, rfl, rfl, rfl⟩, Nat.le_refl _, Goes.refl _ _ _ _⟩
    unfold Instr.next
    simp only [Sem.run_bind, hgo, Result.andThen, hsz, hlt, if_false]
    rfl
end
end Go.Proofs.Yteakfibolfapiaa.Ab
