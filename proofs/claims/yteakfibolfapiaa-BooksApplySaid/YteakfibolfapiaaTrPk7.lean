/- Several texts in one: Ab16, Ab17. -/
import Derived.Test.YteakfibolfapiaaTrPk6
import Derived.Tactics
section
namespace Go.Proofs.Yteakfibolfapiaa.Ab
open Go.RowKit Go.Sort
set_option linter.unusedVariables false
set_option linter.unusedSimpArgs false

section
variable {P : Program} {T : Nat → TI} {ρ : Env} {w w' : World} {M : Nat → Prop} {n : Nat} {h : Hp}
theorem wp_nexts {o : Oper} {st : St} {a : Act} {K : St → Prop} {Q : Exit → Act → World → Prop} {s : Sem Value} (hs : RepS ρ st a w) (he : execOp a.eval o = (do pure (Next.value (← s)))) (g : Nexts P ρ st w (fun st v => K (st.put o.dst v)) s) :
    o.wp P a w (Out K st.n ρ st.h w) Q := by
  obtain ⟨v, w', h1, h2⟩ := g.out hs
  refine wp_value (v := v) (w' := w') ?_ h2
  rw [he]
  simp [h1]
theorem wp_gives {o : Oper} {st : St} {a : Act} {K : St → Prop} {Q : Exit → Act → World → Prop} {s : Sem Value} (hs : RepS ρ st a w) (he : execOp a.eval o = (do pure (Next.value (← s)))) (g : Gives P ρ w (Mut ρ st.h) (fun v => K (st.put o.dst v)) s) :
    o.wp P a w (Out K st.n ρ st.h w) Q := wp_nexts hs he (Gives.next (K := fun st v => K (st.put o.dst v)) hs g)
theorem wp_givesA {o : Oper} {st : St} {a : Act} {K : St → Prop} {Q : Exit → Act → World → Prop} {s : Sem Value} (hs : RepS ρ st a w) (he : execOp a.eval o = (do pure (Next.value (← s)))) (g : GivesA P ρ w (Mut ρ st.h) (fun v => K (st.put o.dst v)) s) :
    o.wp P a w (Out K st.n ρ st.h w) Q := wp_gives hs he (g.gives trivial)
theorem len_gives (hT : TysOK P T) {st : St} {a : Act} {t : Nat} {ts : List Nat} {x : AV} {xs : List AV} {v : Value} {vs : List Value} {K : St → AV → Prop} {ty : TypeId} (hs : RepS ρ st a w) (hx : RelV ρ w (Mut ρ st.h) x v)
    (h : builtinA T real st .len (t :: ts) (x :: xs) K) : GivesA P ρ w (Mut ρ st.h) (K st) (Builtin.len_ (t :: ts).toArray ty (v :: vs).toArray) := by
  simp only [builtinA, Ab.ty] at h
  split at h
  · rename_i hu
    split at h
    · rename_i s
      obtain rfl : v = .string ⟨s.toArray⟩ := hx
      have hz : (ByteArray.mk s.toArray).size = s.length := by simp [ByteArray.size]
      exact ⟨_, _, h, rfl, fun u _ => by simp [Builtin.len_, run_underlying (hT.str hu), goInt, real, hz]⟩
    · exact h.elim
  · rename_i len e hu
    exact ⟨_, _, h, rfl, fun u _ => by simp [Builtin.len_, run_underlying (hT.array hu), goInt]⟩
  · rename_i e hu
    split at h
    · rename_i len e' hu2
      exact ⟨_, _, h, rfl, fun u _ => by simp [Builtin.len_, run_underlying (hT.ptr hu), run_underlying (hT.array hu2), goInt]⟩
    · exact h.elim
  · rename_i e hu
    split at h
    · rename_i l hl
      cases x with
      | d y =>
        cases y with
        | nilsl =>
          simp [rowsOf] at hl
          subst hl
          obtain rfl : v = .slice none 0 0 := hx
          exact ⟨_, _, h, rfl, fun u _ => by simp [Builtin.len_, run_underlying (hT.slice hu), goInt, real]⟩
        | imm l' =>
          simp [rowsOf] at hl
          subst hl
          obtain ⟨ad, cap, rfl, -⟩ := hx
          exact ⟨_, _, h, rfl, fun u _ => by simp [Builtin.len_, run_underlying (hT.slice hu), goInt, real]⟩
        | _ => simp [rowsOf] at hl
      | sl id =>
        simp only [rowsOf] at hl
        cases ho : hget st.h id with
        | none => simp [ho] at hl
        | some o =>
          cases o with
          | cells q => simp [ho] at hl
          | mp k m => simp [ho] at hl
          | it k e m c0 => simp [ho] at hl
          | sit s p => simp [ho] at hl
          | bag s p => simp [ho] at hl
          | row c l' =>
            simp [ho] at hl
            subst hl
            obtain ⟨hid, a0, n0, cap0, rfl⟩ := hx
            obtain ⟨v', xs', e', hv, hc, hown, hl', hr⟩ := obj_row hs.rep ho
            rw [hid] at hv
            obtain rfl := Option.some.inj hv
            have hn : n0 = l'.length := by
              rcases hown.2 with ⟨hv, h0⟩ | ⟨g', cap', cur, hv, -⟩
              · simp only [Value.slice.injEq] at hv
                omega
              · simp only [Value.slice.injEq] at hv
                exact hv.2.1
            subst hn
            exact ⟨_, _, h, rfl, fun u _ => by simp [Builtin.len_, run_underlying (hT.slice hu), goInt, real]⟩
      | _ => simp [rowsOf] at hl
    · exact h.elim
  · exact h.elim
theorem call_sound {o : Oper} {st : St} {a : Act} {K : St → Prop} {Q : Exit → Act → World → Prop} {f : Nat} {args : List AV} {vs : List Value} (hs : RepS ρ st a w) (ha : RelVs ρ w (Mut ρ st.h) args vs) (he : execOp a.eval o = callFunc f vs.toArray)
    (h : CallE P f args st.n st.h fun v n h => K (({ st with n := n, h := h } : St).put o.dst v)) : o.wp P a w (Out K st.n ρ st.h w) Q := by
  unfold Oper.wp
  rw [he]
  cases h with
  | ext run =>
    obtain ⟨v, w', h0, av, ρ', n', h', hK, h1, h2, h3, h4⟩ := run ρ w vs hs.rep ha
    rw [h0]
    exact out_value hs h1 h3 h4 h2 hK
  | enter fn hf hn hb run =>
    have hr : (callFunc f vs.toArray).run P w = .ok (.enter f vs.toArray) w := by
      have hn' : fn.name ≠ "runtime.NumGoroutine" := by simpa using hn
      have hb' : fn.body ≠ none := by
        intro e; rw [e] at hb; cases hb
      unfold callFunc
      simp [hf, hn', hb']
    rw [hr]
    refine Calls.mono (run ρ w vs hs.rep ha) ?_
    rintro e w' ⟨v, rfl, av, ρ', n', h', hK, h1, h2, h3, h4⟩
    exact out_value hs h1 h3 h4 h2 hK
theorem twoI_eq {l : List AV} {k : IntKind} {a b : Int} (h : twoI l = some (k, a, b)) : l = [.d (.int k a), .d (.int k b)] := by
  unfold twoI at h
  split at h
  · rename_i k' a' k'' b'
    by_cases e : k' = k''
    · subst e
      simp at h
      obtain ⟨rfl, rfl, rfl⟩ := h
      rfl
    · simp [e] at h
  · cases h
theorem op_sound (hT : TysOK P T) {C : CallS} (hC : ∀ f args n h K, C f args n h K → CallE P f args n h K) {own : Bool} {o : Oper} {st : St} {a : Act} {K : St → Prop} {Q : Exit → Act → World → Prop} (hs : RepS ρ st a w) (h : opA T real C own o.dst o.op st K) : o.wp P a w (Out K st.n ρ st.h w) Q := by
  obtain ⟨dst, op, oty, pos, after, guard⟩ := o
  dsimp only at h
  have E := fun x => ev_rel hs x
  cases op with
  | move x => exact wp_gives (s := pure (a.eval x)) hs rfl ⟨_, _, h, E x, rfl⟩
  | assign x => exact wp_gives (s := pure (a.eval x)) hs rfl ⟨_, _, h, E x, rfl⟩
  | pick c x y =>
    obtain ⟨av, v, h1, h2, h3⟩ := (pick_gives (P := P) (K := fun v => K (st.put dst v)) (E c) (E x) (E y) h).gives trivial
    refine wp_value (v := v) (w' := w) ?_ (out_same hs h2 h1)
    show (do pure (Next.value (if ← asBool (a.eval c) then a.eval x else a.eval y)) : Sem Next).run P w = _
    cases hq : (asBool (a.eval c)).run P w with
    | ok b w' =>
      simp only [Sem.run_bind, hq, Result.andThen, Sem.run_pure, Result.ok.injEq] at h3 ⊢
      exact ⟨by rw [h3.1], h3.2⟩
    | halt x w' => simp only [Sem.run_bind, hq, Result.andThen] at h3; cases h3
  | alloc e =>
    simp only [opA, Ab.ty] at h
    cases hb : Nat.blt 0 (T e).size with
    | false => simp [hb] at h
    | true =>
      simp only [hb, cond_true] at h
      have hs0 : (T e).size ≠ 0 := by have := Nat.le_of_ble_eq_true hb; omega
      cases hz : zerosOf T e with
      | none => simp [hz] at h
      | some z =>
        simp only [hz] at h
        exact wp_nexts hs rfl (alloc_next hT hs hs0 hz h)
  | box e x =>
    simp only [opA] at h
    obtain ⟨hk, h⟩ := bif_true h not_false
    exact wp_nexts hs rfl (box_next hs (E x) (by intro e; rw [e] at hk; simp [known] at hk) h)
  | build t ps =>
    have hmap : (ps.map fun (p : Nat × Operand) => (p.1, a.eval p.2)) = (ps.toList.map fun p => (p.1, a.eval p.2)).toArray := by
      apply Array.ext'
      rw [Array.toList_map]
    refine wp_givesA hs ?_ (build_gives hT hs h)
    rw [← hmap]
    rfl
  | buildSlice t len ps =>
    have hmap : (ps.map fun (p : Nat × Operand) => (p.1, a.eval p.2)) = (ps.toList.map fun p => (p.1, a.eval p.2)).toArray := by
      apply Array.ext'
      rw [Array.toList_map]
    refine wp_nexts hs ?_ (bslice_next (own := own) hT hs h)
    rw [← hmap]
    rfl
  | load t x =>
    have key : (∃ g, x = .global g) ∨ loadA T real st t (st.ev x) (fun v => K (st.put dst v)) := by
      cases x with
      | global g => exact .inl ⟨g, rfl⟩
      | _ => exact .inr h
    rcases key with ⟨g, rfl⟩ | h1
    · obtain ⟨hg, h1⟩ := bif_true h not_false
      obtain ⟨v, hv⟩ := hT.globs t g w hg hs.rep.old.inv
      exact wp_gives hs rfl ⟨.top, v, h1, trivial, hv⟩
    · exact wp_gives hs rfl (load_gives hT hs (E x) h1)
  | store t x y =>
    obtain ⟨w', h', h1, h2, h3, h4⟩ := store_sound (K := fun st => K (st.put dst (.tup []))) hT hs (E x) (E y) h
    have hr : (execOp a.eval ⟨dst, .store t x y, oty, pos, after, guard⟩).run P w = .ok .skip w' := by
      show (do Instr.storeAt t (a.eval x) (a.eval y); pure Next.skip : Sem Next).run P w = _
      simp [h1]
    unfold Oper.wp
    rw [hr]
    exact out_value (av := .tup []) (v := undef) (n' := st.n) hs h3 ⟨#[], rfl, rfl⟩ h4 (Nat.le_refl _) h2
  | nilCheck x =>
    simp only [opA] at h
    obtain ⟨hp, h⟩ := bif_true h not_false
    obtain ⟨b, o, hv⟩ := isPtr_addr hp (E x)
    refine wp_gives (s := pure (a.eval x)) hs ?_ ⟨_, _, h, E x, rfl⟩
    have e : execOp a.eval ⟨dst, .nilCheck x, oty, pos, after, guard⟩ = pure (.value (a.eval x)) := by
      simp only [execOp, hv]
    rw [e]
    rfl
  | binOp op t x y ty =>
    simp only [opA] at h
    cases hsc : scalarD (st.ev x) with
    | true =>
      rw [hsc] at h
      simp only [cond_true] at h
      exact wp_givesA hs rfl (bin_gives (E x) (E y) h t x y)
    | false =>
      rw [hsc] at h
      simp only [cond_false] at h
      cases op with
      | eql => exact wp_givesA hs rfl (eq_gives (neq := false) (cst := isConst x || isConst y) (X := x) (Y := y) hT (E x) (E y) rfl h)
      | neq => exact wp_givesA hs rfl (eq_gives (neq := true) (cst := isConst x || isConst y) (X := x) (Y := y) hT (E x) (E y) rfl h)
      | _ => exact h.elim
  | makeInterface t x => exact wp_givesA hs rfl (ifc_gives hT (E x) h)
  | unOp op t x => exact wp_givesA hs rfl (un_gives (E x) h)
  | convert s d x =>
    refine wp_nexts hs rfl ?_
    obtain ⟨v, w', av, ρ', n', h', h1, ⟨h2, h2'⟩, h3⟩ := conv_next (K := fun v => K (st.put dst v)) hT hs (E x) h
    exact ⟨v, w', av, ρ', n', h', h1, by rw [h2]; exact h2', h3⟩
  | slice t x lo hi mx => exact wp_nexts hs rfl (slice_next (K := fun st v => K (st.put dst v)) hT hs (E x) h)
  | makeSlice t l c =>
    simp only [opA, Ab.ty] at h
    split at h
    · rename_i e kl li kc ci hu hl hc
      have hl' := E l
      have hc' := E c
      rw [hl] at hl'
      rw [hc] at hc'
      cases hz : (T e).zero with
      | none => simp [hz] at h
      | some z =>
        simp only [hz] at h
        refine wp_nexts (s := Instr.makeSlice t (a.eval l) (a.eval c)) hs rfl ?_
        rw [show a.eval l = .int kl li from hl', show a.eval c = .int kc ci from hc']
        exact make_next hT hs hu hz h.1 h.2
    · exact h.elim
  | fieldAddr s x f => exact wp_givesA hs rfl (fieldAddr_gives hT (E x) h)
  | field s x f => exact wp_givesA hs rfl (field_gives hT (E x) h)
  | indexAddr t x i => exact wp_givesA hs rfl (indexAddr_gives hT hs (E x) h)
  | index t x i => exact wp_givesA hs rfl (index_gives hT hs (E x) h)
  | extract t i => exact wp_givesA hs rfl (extract_gives (E t) h)
  | makeFunc fn first caps =>
    cases fn with
    | func f =>
      obtain ⟨first⟩ := first
      cases first with
      | nil =>
        refine wp_gives (s := Instr.makeFunc (.func f) (Array.map a.eval ⟨[]⟩) (caps.map a.eval)) hs rfl ⟨_, .func (.func f) #[] (caps.map a.eval), h, ⟨_, rfl, ?_⟩, by simp [Instr.makeFunc]⟩
        rw [Array.toList_map]
        exact evs_rel hs _
      | cons y r => exact h.elim
    | _ => exact h.elim
  | makeMap t r =>
    cases r with
    | some r => exact h.elim
    | none =>
      simp only [opA, Ab.ty] at h
      split at h
      · split at h
        · exact wp_nexts (s := Instr.makeMap t none) hs rfl (mkmap_next (K := fun st v => K (st.put dst v)) hs h)
        · exact h.elim
      · exact h.elim
  | lookup t m x ok => exact wp_gives hs rfl (mlook_gives (K := fun v => K (st.put dst v)) hT hs (E m) (E x) h)
  | mapUpdate t m x y =>
    obtain ⟨w', n', h', h1, h2, h3, h4, h5⟩ := mupd_next (K := fun st => K (st.put dst (.tup []))) hT hs (E m) (E x) (E y) h
    have hr : (execOp a.eval ⟨dst, .mapUpdate t m x y, oty, pos, after, guard⟩).run P w = .ok .skip w' := by
      show (do Instr.mapUpdate t (a.eval m) (a.eval x) (a.eval y); pure Next.skip : Sem Next).run P w = _
      simp [h1]
    unfold Oper.wp
    rw [hr]
    exact out_value (av := .tup []) (v := undef) (n' := n') hs h3 ⟨#[], rfl, rfl⟩ h5 h4 h2
  | range t m =>
    simp only [opA, Ab.ty] at h
    split at h
    · rename_i kt e k l hu hm
      have hx := E m
      rw [hm] at hx
      exact wp_nexts hs rfl (range_next (K := fun st v => K (st.put dst v)) hT hs hu hx h)
    · rename_i s hu hm
      have hx := E m
      rw [hm] at hx
      exact wp_nexts hs rfl (srange_next (K := fun st v => K (st.put dst v)) hT hs hu hx h)
    · exact h.elim
  | entry i => exact wp_gives hs rfl (entry_gives (K := fun v => K (st.put dst v)) hT hs (E i) h)
  | next i b =>
    cases b with
    | true => exact wp_nexts hs rfl (snext_next (K := fun st v => K (st.put dst v)) hs (E i) h)
    | false => exact wp_nexts hs rfl (next_next (K := fun st v => K (st.put dst v)) hT hs (E i) h)
  | call c =>
    obtain ⟨callee, args, argTypes⟩ := c
    simp only [opA] at h
    cases callee with
    | invoke r m => exact h.elim
    | value f =>
      dsimp only at h
      have hf := E f
      cases hfn : fnOf (st.ev f) with
      | none => simp [hfn] at h
      | some p =>
        obtain ⟨g, caps⟩ := p
        simp only [hfn] at h
        have hev : st.ev f = .fn g caps := by
          cases hv : st.ev f <;> rw [hv] at hfn <;> simp [fnOf] at hfn
          obtain ⟨rfl, rfl⟩ := hfn
          rfl
        rw [hev] at hf
        obtain ⟨cs, hfv, hcs⟩ := hf
        refine call_sound (f := g) (vs := args.toList.map a.eval ++ cs.toList) hs (RelVs.append _ _ _ _ (evs_rel hs _) hcs) ?_ (hC _ _ _ _ _ h)
        have e1 : (args.toList.map a.eval ++ cs.toList).toArray = (#[] ++ args.map a.eval) ++ cs := by
          apply Array.ext'
          simp
        rw [e1]
        show (do let d ← Deferred.ofValue (a.eval f) (args.map a.eval); invoke d.target d.args : Sem Next) = _
        rw [hfv]
        rfl
    | builtin b =>
      dsimp only at h
      obtain ⟨tl⟩ := argTypes
      have hargs : args.map a.eval = (args.toList.map a.eval).toArray := by
        apply Array.ext'
        rw [Array.toList_map]
      have hrel := evs_rel hs args.toList
      generalize evs st args.toList = xs at *
      generalize hvs : args.toList.map a.eval = vs at *
      cases hml : mapLen T st b tl xs with
      | some l =>
        rw [hml] at h
        dsimp only at h
        obtain ⟨rfl, t, rest, x, v, rfl, rfl, hv1, hg⟩ := mlen_gives (ty := oty) (K := fun v => K (st.put dst v)) hT hs hrel hml h
        refine wp_gives (s := Builtin.len_ ⟨t :: rest⟩ oty vs.toArray) hs ?_ hg
        rw [← hargs]
        rfl
      | none =>
      rw [hml] at h
      dsimp only at h
      clear hml
      cases b with
      | len =>
        cases tl with
        | nil => simp [builtinA] at h
        | cons t ts =>
          cases xs with
          | nil => simp [builtinA] at h
          | cons x xs =>
            obtain ⟨v, rest, rfl, hx, hrest⟩ := hrel
            refine wp_givesA (s := Builtin.len_ ⟨t :: ts⟩ oty (v :: rest).toArray) hs ?_ (len_gives (K := fun st v => K (st.put dst v)) hT hs hx h)
            rw [← hargs]
            rfl
      | append =>
        match tl, xs, h, hrel with
        | [t, t'], [s, x], h, hrel =>
          simp only [builtinA] at h
          obtain ⟨v1, r1, rfl, hv1, v2, r2, rfl, hv2, hr⟩ := hrel
          have hr : r2 = [] := hr
          subst hr
          refine wp_nexts (s := Builtin.append_ #[t, t'] oty #[v1, v2]) hs ?_ (append_sound (K := fun st v => K (st.put dst v)) hT hs hv1 hv2 h)
          rw [← hargs]
          rfl
        | [], _, h, _ => simp [builtinA] at h
        | [_], _, h, _ => simp [builtinA] at h
        | _ :: _ :: _ :: _, _, h, _ => simp [builtinA] at h
        | [_, _], [], h, _ => simp [builtinA] at h
        | [_, _], [_], h, _ => simp [builtinA] at h
        | [_, _], _ :: _ :: _ :: _, h, _ => simp [builtinA] at h
      | delete =>
        match tl, xs, h, hrel with
        | [t, t'], [s, x], h, hrel =>
          simp only [builtinA] at h
          obtain ⟨v1, r1, rfl, hv1, v2, r2, rfl, hv2, hr⟩ := hrel
          have hr : r2 = [] := hr
          subst hr
          refine wp_nexts (s := Builtin.delete_ #[t, t'] oty #[v1, v2]) hs ?_ (mdel_next (K := fun st v => K (st.put dst v)) hT hs hv1 hv2 h)
          rw [← hargs]
          rfl
        | [], _, h, _ => simp [builtinA] at h
        | [_], _, h, _ => simp [builtinA] at h
        | _ :: _ :: _ :: _, _, h, _ => simp [builtinA] at h
        | [_, _], [], h, _ => simp [builtinA] at h
        | [_, _], [_], h, _ => simp [builtinA] at h
        | [_, _], _ :: _ :: _ :: _, h, _ => simp [builtinA] at h
      | min =>
        simp only [builtinA] at h
        cases h2 : twoI xs with
        | none => simp [h2] at h
        | some p =>
          obtain ⟨k, p, q⟩ := p
          simp only [h2] at h
          obtain rfl := twoI_eq h2
          obtain ⟨v1, r1, hr0, hv1, v2, r2, hr1, hv2, hr⟩ := hrel
          have hr : r2 = [] := hr
          subst hr
          subst hr1
          obtain rfl : v1 = .int k p := hv1
          obtain rfl : v2 = .int k q := hv2
          subst hr0
          refine wp_gives (s := Builtin.min_ ⟨tl⟩ oty #[.int k p, .int k q]) hs ?_ ⟨_, _, h, rfl, ?_⟩
          · rw [← hargs]
            rfl
          · rw [Tr.go_min_two, Tr.go_min2]
            rfl
      | max =>
        simp only [builtinA] at h
        cases h2 : twoI xs with
        | none => simp [h2] at h
        | some p =>
          obtain ⟨k, p, q⟩ := p
          simp only [h2] at h
          obtain rfl := twoI_eq h2
          obtain ⟨v1, r1, hr0, hv1, v2, r2, hr1, hv2, hr⟩ := hrel
          have hr : r2 = [] := hr
          subst hr
          subst hr1
          obtain rfl : v1 = .int k p := hv1
          obtain rfl : v2 = .int k q := hv2
          subst hr0
          refine wp_gives (s := Builtin.max_ ⟨tl⟩ oty #[.int k p, .int k q]) hs ?_ ⟨_, _, h, rfl, ?_⟩
          · rw [← hargs]
            rfl
          · rw [Tr.go_max_two, Tr.go_max2]
            rfl
      | _ => simp [builtinA] at h
  | _ => exact h.elim
end
end Go.Proofs.Yteakfibolfapiaa.Ab
end
section
namespace Go.Proofs.Yteakfibolfapiaa.Ab
open Go.RowKit Go.Sort
set_option linter.unusedVariables false
set_option linter.unusedSimpArgs false

section
variable {P : Program} {T : Nat → TI} {ρ : Env} {w w' : World} {M : Nat → Prop} {n : Nat} {h : Hp}
/-- What a world keeps of another one's blocks. -/
def Stay (w : World) (M : Nat → Prop) (u : World) : Prop := ∀ b o, w.heap[b]? = some o → ¬ M b → u.heap[b]? = some o
theorem Stay.refl (w : World) (M : Nat → Prop) : Stay w M w := fun _ _ h _ => h
theorem Stay.of_keeps {u : World} {M' : Nat → Prop} (k : Keeps w M w' M') (h : Stay w' M' u) : Stay w M u := fun b o hb hm => let ⟨h1, h2⟩ := k b o hb hm; h b o h1 h2
theorem Keeps.stay {M' : Nat → Prop} (k : Keeps w M w' M') : Stay w M w' := fun b o hb hm => (k b o hb hm).1
def GivesE (P : Program) (ρ : Env) (w : World) (M : Nat → Prop) (K : AV → Prop) (a : Act) (o : Oper) : Prop :=
  ∃ av v, K av ∧ RelV ρ w M av v ∧ ∀ u, Stay w M u → (execOp a.eval o).run P u = .ok (.value v) u
theorem easy_of {o : Oper} {a : Act} {U : World → Prop} {K : AV → Prop} {s : Sem Value} (he : execOp a.eval o = (do pure (Next.value (← s)))) (hU : ∀ u, Stay w M u → U u) (g : GivesU P ρ w M U K s) : GivesE P ρ w M K a o := by
  obtain ⟨av, v, h1, h2, h3⟩ := g
  refine ⟨av, v, h1, h2, fun u hu => ?_⟩
  rw [he]
  simp [h3 u (hU u hu)]
theorem easy_ofA {o : Oper} {a : Act} {K : AV → Prop} {s : Sem Value} (he : execOp a.eval o = (do pure (Next.value (← s)))) (g : GivesA P ρ w M K s) : GivesE P ρ w M K a o := easy_of he (fun _ _ => trivial) g
theorem easy_sound (hT : TysOK P T) {C : CallS} {own : Bool} {o : Oper} {st : St} {a : Act} {K : St → Prop} (hs : RepS ρ st a w) (he : easyOp T st o.op = true) (h : opA T real C own o.dst o.op st K) :
    GivesE P ρ w (Mut ρ st.h) (fun v => K (st.put o.dst v)) a o := by
  obtain ⟨dst, op, oty, pos, after, guard⟩ := o
  dsimp only at h he ⊢
  have E := fun x => ev_rel hs x
  cases op with
  | move x => exact easy_ofA (s := pure (a.eval x)) rfl ⟨_, _, h, E x, fun u _ => rfl⟩
  | assign x => exact easy_ofA (s := pure (a.eval x)) rfl ⟨_, _, h, E x, fun u _ => rfl⟩
  | pick c x y =>
    obtain ⟨av, v, h1, h2, h3⟩ := pick_gives (P := P) (K := fun v => K (st.put dst v)) (E c) (E x) (E y) h
    refine ⟨av, v, h1, h2, fun u _ => ?_⟩
    have h3 := h3 u trivial
    show (do pure (Next.value (if ← asBool (a.eval c) then a.eval x else a.eval y)) : Sem Next).run P u = _
    cases hq : (asBool (a.eval c)).run P u with
    | ok b w' =>
      simp only [Sem.run_bind, hq, Result.andThen, Sem.run_pure, Result.ok.injEq] at h3 ⊢
      exact ⟨by rw [h3.1], h3.2⟩
    | halt x w' => simp only [Sem.run_bind, hq, Result.andThen] at h3; cases h3
  | build t ps =>
    have hmap : (ps.map fun (p : Nat × Operand) => (p.1, a.eval p.2)) = (ps.toList.map fun p => (p.1, a.eval p.2)).toArray := by
      apply Array.ext'
      rw [Array.toList_map]
    refine easy_ofA ?_ (build_gives hT hs h)
    rw [← hmap]
    rfl
  | load t x =>
    have h : loadA T real st t (st.ev x) (fun v => K (st.put dst v)) := by
      cases x with
      | global g => cases he
      | _ => exact h
    refine easy_of rfl (fun u hu => hu) (load_imm hT (x := st.ev x) ?_ (E x) h)
    cases hv : st.ev x <;> rw [easyOp, hv] at he <;> first | rfl | cases he
  | nilCheck x =>
    simp only [opA] at h
    obtain ⟨hp, h1⟩ := bif_true h not_false
    obtain ⟨b, o, hv⟩ := isPtr_addr hp (E x)
    refine easy_ofA (s := pure (a.eval x)) ?_ ⟨_, _, h1, E x, fun u _ => rfl⟩
    have e : execOp a.eval ⟨dst, .nilCheck x, oty, pos, after, guard⟩ = pure (.value (a.eval x)) := by
      simp only [execOp, hv]
    rw [e]
    rfl
  | binOp op t x y ty =>
    simp only [opA] at h
    cases hsc : scalarD (st.ev x) with
    | true =>
      rw [hsc] at h
      simp only [cond_true] at h
      exact easy_ofA rfl (bin_gives (E x) (E y) h t x y)
    | false =>
      rw [hsc] at h
      simp only [cond_false] at h
      cases op with
      | eql => exact easy_ofA rfl (eq_gives (neq := false) (cst := isConst x || isConst y) (X := x) (Y := y) hT (E x) (E y) rfl h)
      | neq => exact easy_ofA rfl (eq_gives (neq := true) (cst := isConst x || isConst y) (X := x) (Y := y) hT (E x) (E y) rfl h)
      | _ => exact h.elim
  | makeInterface t x => exact easy_ofA rfl (ifc_gives hT (E x) h)
  | unOp op t x => exact easy_ofA rfl (un_gives (E x) h)
  | convert s d x =>
    simp only [opA, convA, Ab.ty] at h
    simp only [easyOp, Ab.ty] at he
    split at he
    · rename_i k' k hu1 hu2
      rw [hu1, hu2] at h
      split at h
      · rename_i k1 k2 q m e1 e2 hv
        cases e2
        have hx : RelV ρ w (Mut ρ st.h) (.d (.int q m)) (a.eval x) := hv ▸ E x
        obtain hx : a.eval x = .int q m := hx
        refine easy_ofA (s := convert s d (a.eval x)) rfl ⟨_, _, h, rfl, fun u _ => ?_⟩
        rw [hx]
        simp [convert, run_underlying (hT.int hu1), run_underlying (hT.int hu2), Conv.intToInt, real]
      all_goals first | exact h.elim | (rename_i e1 e2; cases e1) | (rename_i e1 e2 _; cases e1) | (rename_i e1 e2 _ _; cases e1)
    · cases he
  | fieldAddr s x f => exact easy_ofA rfl (fieldAddr_gives hT (E x) h)
  | field s x f => exact easy_ofA rfl (field_gives hT (E x) h)
  | indexAddr t x i => exact easy_ofA rfl (indexAddr_gives hT hs (E x) h)
  | index t x i => exact easy_ofA rfl (index_gives hT hs (E x) h)
  | extract t i => exact easy_ofA rfl (extract_gives (E t) h)
  | makeFunc fn first caps =>
    cases fn with
    | func f =>
      obtain ⟨first⟩ := first
      cases first with
      | nil =>
        refine easy_ofA (s := Instr.makeFunc (.func f) (Array.map a.eval ⟨[]⟩) (caps.map a.eval)) rfl ⟨_, .func (.func f) #[] (caps.map a.eval), h, ⟨_, rfl, ?_⟩, fun u _ => by simp [Instr.makeFunc]⟩
        rw [Array.toList_map]
        exact evs_rel hs _
      | cons y r => exact h.elim
    | _ => exact h.elim
  | call c =>
    obtain ⟨callee, args, argTypes⟩ := c
    cases callee with
    | invoke r m => cases he
    | value f => cases he
    | builtin b =>
      cases b with
      | len =>
        simp only [opA] at h
        obtain ⟨tl⟩ := argTypes
        have hargs : args.map a.eval = (args.toList.map a.eval).toArray := by
          apply Array.ext'
          rw [Array.toList_map]
        have hrel := evs_rel hs args.toList
        have hml : mapLen T st .len tl (evs st args.toList) = none := by
          simp only [easyOp] at he
          cases hq : mapLen T st .len tl (evs st args.toList) with
          | none => rfl
          | some l => rw [hq] at he; cases he
        rw [hml] at h
        dsimp only at h
        generalize evs st args.toList = xs at *
        generalize hvs : args.toList.map a.eval = vs at *
        cases tl with
        | nil => simp [builtinA] at h
        | cons t ts =>
          cases xs with
          | nil => simp [builtinA] at h
          | cons x xs =>
            obtain ⟨v, rest, rfl, hx, hrest⟩ := hrel
            refine easy_ofA (s := Builtin.len_ ⟨t :: ts⟩ oty (v :: rest).toArray) ?_ (len_gives (K := fun st v => K (st.put dst v)) hT hs hx h)
            rw [← hargs]
            rfl
      | _ => cases he
  | _ => cases he

/-! guards -/
theorem RelVs.set_same {a0 : AV} {l : List AV} {vs : List Value} (h : RelVs ρ w M l vs) (i : Nat) (v : Value) (hv : vs[i]? = some v) (r : RelV ρ w M a0 v) : RelVs ρ w M (l.set i a0) vs := by
  have := RelVs.set r l vs h i
  rwa [List.set_getElem?_self' hv] at this
where
  List.set_getElem?_self' {vs : List Value} {i : Nat} {v : Value} (h : vs[i]? = some v) : vs.set i v = vs := by
    apply List.ext_getElem?
    intro j
    rw [List.getElem?_set]
    split
    · rename_i e
      subst e
      split
      · exact h.symm
      · rw [List.getElem?_eq_none (by omega)]
    · rfl
theorem guard_sound {ops : Array Oper} {o : Oper} {st : St} {a : Act} {yes no : St → Prop} (hs : RepS ρ st a w) (h : guardA ops.toList o st yes no) :
    ∃ st', RepS ρ st' a w ∧ st'.h = st.h ∧ st'.n = st.n ∧ ((Region.wanted o (yielded ops a.tmps) = true ∧ yes st') ∨ (Region.wanted o (yielded ops a.tmps) = false ∧ no st')) := by
  obtain ⟨dst, op, oty, pos, after, guard⟩ := o
  unfold guardA at h
  unfold Region.wanted
  cases guard with
  | none => exact ⟨st, hs, rfl, rfl, .inl ⟨rfl, h⟩⟩
  | some jw =>
    obtain ⟨j, want⟩ := jw
    dsimp only at h ⊢
    cases ht : slotOf ops.toList j with
    | none => simp [ht] at h
    | some t =>
      simp only [ht] at h
      have hb : (ops[j]?).bind (·.dst) = some t := by
        unfold slotOf at ht
        rw [← Array.getElem?_toList]
        split at ht
        · rename_i x hx; rw [hx]; exact ht
        · cases ht
      have hr := RelVs.getD _ _ hs.fr t
      unfold yielded
      rw [hb]
      simp only [Option.bind_some]
      split at h
      · rename_i b hg
        rw [hg] at hr
        obtain hr : a.tmps.toList.getD t undef = .bool b := hr
        have hv : a.tmps.toList[t]? = some (.bool b) := by
          rw [List.getD_eq_getElem?_getD] at hr
          cases hx : a.tmps.toList[t]? with
          | none => rw [hx] at hr; cases hr
          | some x => rw [hx] at hr; simp at hr; rw [hr]
        have hv2 : a.tmps[t]? = some (.bool b) := by rw [← Array.getElem?_toList]; exact hv
        rw [hv2]
        by_cases e : b = want
        · subst e
          exact ⟨{ st with fr := st.fr.set t (.d (.bool b)) }, ⟨hs.defers, RelVs.set_same (a0 := .d (.bool b)) hs.fr t _ hv rfl, hs.rep⟩, rfl, rfl, .inl ⟨by simp, by cases b <;> first | exact brA_true h | exact brA_false h⟩⟩
        · exact ⟨{ st with fr := st.fr.set t (.d (.bool b)) }, ⟨hs.defers, RelVs.set_same (a0 := .d (.bool b)) hs.fr t _ hv rfl, hs.rep⟩, rfl, rfl, .inr ⟨by simpa using e, by cases b <;> cases want <;> first | exact absurd rfl e | exact brA_true h | exact brA_false h⟩⟩
      · rename_i hg
        rw [hg] at hr
        obtain ⟨cs, hr, -⟩ := hr
        refine ⟨st, hs, rfl, rfl, .inr ⟨?_, h⟩⟩
        rw [List.getD_eq_getElem?_getD, Array.getElem?_toList] at hr
        cases hx : a.tmps[t]? with
        | none => rfl
        | some x => rw [hx] at hr; simp at hr; rw [hr]; rfl
      · exact h.elim
theorem out_undef {K : St → Prop} {st : St} {a : Act} (hs : RepS ρ st a w) (dst : Option Nat) (h : K (st.put dst (.tup []))) : Out K st.n ρ st.h w (a.put dst undef) w := out_same (av := .tup []) hs ⟨#[], rfl, rfl⟩ h

/-! frozen rows -/
mutual
theorem frz_rel {id : Nat} {l : List (List D)} {w : World} {M M' : Nat → Prop} (hk : Keeps w M w M') (hi : ∀ v, ρ id = some v → (∃ a n cap, v = .slice a n cap) → RelD w M' (.imm l) v) (hp : ∀ b off, ρ id = some (.pointer (some ⟨b, 0, none⟩)) → RelV ρ w M' (.iptr l 0 off) (.pointer (some ⟨b, off, none⟩))) : ∀ (x : AV) (v : Value), RelV ρ w M x v → RelV ρ w M' (frzV id l x) v
  | .d x, v, r => RelD.mono hk x v r
  | .ptr i off, v, r => by
    simp only [frzV]
    cases hb : i == id with
    | false => exact r
    | true =>
      obtain rfl := eq_of_beq hb
      obtain ⟨b, h1, rfl⟩ := r
      exact hp b off h1
  | .iptr l' i f, v, r => RelV.mono (EnvSub.refl ρ) hk (.iptr l' i f) v r
  | .rptr i c j f, v, r => by
    simp only [frzV]
    cases i == id
    · exact r
    · exact trivial
  | .aptr i off n c j f, v, r => by
    simp only [frzV]
    cases i == id
    · exact r
    · exact trivial
  | .sl i, v, r => by
    simp only [frzV]
    cases hb : i == id with
    | false => exact r
    | true =>
      obtain rfl := eq_of_beq hb
      exact hi v r.1 r.2
  | .map i, v, r => r
  | .iter i, v, r => r
  | .agg vs, v, ⟨cs, hv, r⟩ => ⟨cs, hv, frzs_rel hk hi hp vs _ r⟩
  | .tup vs, v, ⟨cs, hv, r⟩ => ⟨cs, hv, frzs_rel hk hi hp vs _ r⟩
  | .fn f vs, v, ⟨cs, hv, r⟩ => ⟨cs, hv, frzs_rel hk hi hp vs _ r⟩
  | .ifc t x, v, ⟨y, hv, r⟩ => ⟨y, hv, frz_rel hk hi hp x _ r⟩
  | .top, v, r => trivial
  | .raw v0, v, r => r
theorem frzs_rel {id : Nat} {l : List (List D)} {w : World} {M M' : Nat → Prop} (hk : Keeps w M w M') (hi : ∀ v, ρ id = some v → (∃ a n cap, v = .slice a n cap) → RelD w M' (.imm l) v) (hp : ∀ b off, ρ id = some (.pointer (some ⟨b, 0, none⟩)) → RelV ρ w M' (.iptr l 0 off) (.pointer (some ⟨b, off, none⟩))) : ∀ (x : List AV) (v : List Value), RelVs ρ w M x v → RelVs ρ w M' (frzVs id l x) v
  | [], vs, r => r
  | d :: ds, vs, ⟨v, rest, hv, r1, r2⟩ => ⟨v, rest, hv, frz_rel hk hi hp d v r1, frzs_rel hk hi hp ds rest r2⟩
end
theorem frzH_mem {id : Nat} {l : List (List D)} : ∀ (h : Hp) (i : Nat) (o : Ob), (i, o) ∈ frzH id l h → ∃ o', (i, o') ∈ h ∧ i ≠ id ∧ o = frzO id l o'
  | [], i, o, hm => by simp [frzH] at hm
  | (j, x) :: r, i, o, hm => by
    simp only [frzH] at hm
    cases hb : j == id with
    | true =>
      simp only [hb, cond_true] at hm
      obtain ⟨o', h1, h2⟩ := frzH_mem r i o hm
      exact ⟨o', by simp [h1], h2⟩
    | false =>
      simp only [hb, cond_false, List.mem_cons, Prod.mk.injEq] at hm
      rcases hm with ⟨rfl, rfl⟩ | hm
      · exact ⟨x, by simp, by intro e; rw [e] at hb; simp at hb, rfl⟩
      · obtain ⟨o', h1, h2⟩ := frzH_mem r i o hm
        exact ⟨o', by simp [h1], h2⟩
theorem frzH_ids (id : Nat) (l : List (List D)) : ∀ h : Hp, ((frzH id l h).map (·.1)).Sublist (h.map (·.1))
  | [] => List.Sublist.slnil
  | (j, x) :: r => by
    simp only [frzH]
    cases hb : j == id with
    | true => exact (frzH_ids id l r).trans (List.sublist_cons_self _ _)
    | false => exact (frzH_ids id l r).cons_cons _
theorem rels_dsF {ρ : Env} {w : World} {M : Nat → Prop} : ∀ (ds : List D) (vs : List Value), RelVs ρ w M (ds.map .d) vs → RelDs w M ds vs
  | [], vs, h => h
  | d :: ds, vs, ⟨v, r, hv, h1, h2⟩ => ⟨v, r, hv, h1, rels_dsF ds r h2⟩
/-! frozen maps -/
mutual
theorem frm_rel {id : Nat} {x : D} {w : World} {M M' : Nat → Prop} (hk : Keeps w M w M') (hi : ∀ v, ρ id = some v → (∃ r, v = .map (some r)) → RelD w M' x v) : ∀ (y : AV) (v : Value), RelV ρ w M y v → RelV ρ w M' (frmV id x y) v
  | .d y, v, r => RelD.mono hk y v r
  | .ptr i off, v, r => r
  | .iptr l' i f, v, r => RelV.mono (EnvSub.refl ρ) hk (.iptr l' i f) v r
  | .rptr i c j f, v, r => r
  | .aptr i off n c j f, v, r => r
  | .sl i, v, r => r
  | .map i, v, r => by
    simp only [frmV]
    cases hb : i == id with
    | false => exact r
    | true =>
      obtain rfl := eq_of_beq hb
      exact hi v r.1 r.2
  | .iter i, v, r => r
  | .agg vs, v, ⟨cs, hv, r⟩ => ⟨cs, hv, frms_rel hk hi vs _ r⟩
  | .tup vs, v, ⟨cs, hv, r⟩ => ⟨cs, hv, frms_rel hk hi vs _ r⟩
  | .fn f vs, v, ⟨cs, hv, r⟩ => ⟨cs, hv, frms_rel hk hi vs _ r⟩
  | .ifc t y, v, ⟨z, hv, r⟩ => ⟨z, hv, frm_rel hk hi y _ r⟩
  | .top, v, r => trivial
  | .raw v0, v, r => r
theorem frms_rel {id : Nat} {x : D} {w : World} {M M' : Nat → Prop} (hk : Keeps w M w M') (hi : ∀ v, ρ id = some v → (∃ r, v = .map (some r)) → RelD w M' x v) : ∀ (y : List AV) (v : List Value), RelVs ρ w M y v → RelVs ρ w M' (frmVs id x y) v
  | [], vs, r => r
  | d :: ds, vs, ⟨v, rest, hv, r1, r2⟩ => ⟨v, rest, hv, frm_rel hk hi d v r1, frms_rel hk hi ds rest r2⟩
end
theorem frmH_mem {id : Nat} {l : D} : ∀ (h : Hp) (i : Nat) (o : Ob), (i, o) ∈ frmH id l h → ∃ o', (i, o') ∈ h ∧ i ≠ id ∧ o = frmO id l o'
  | [], i, o, hm => by simp [frmH] at hm
  | (j, x) :: r, i, o, hm => by
    simp only [frmH] at hm
    cases hb : j == id with
    | true =>
      simp only [hb, cond_true] at hm
      obtain ⟨o', h1, h2⟩ := frmH_mem r i o hm
      exact ⟨o', by simp [h1], h2⟩
    | false =>
      simp only [hb, cond_false, List.mem_cons, Prod.mk.injEq] at hm
      rcases hm with ⟨rfl, rfl⟩ | hm
      · exact ⟨x, by simp, by intro e; rw [e] at hb; simp at hb, rfl⟩
      · obtain ⟨o', h1, h2⟩ := frmH_mem r i o hm
        exact ⟨o', by simp [h1], h2⟩
theorem frmH_ids (id : Nat) (l : D) : ∀ h : Hp, ((frmH id l h).map (·.1)).Sublist (h.map (·.1))
  | [] => List.Sublist.slnil
  | (j, x) :: r => by
    simp only [frmH]
    cases hb : j == id with
    | true => exact (frmH_ids id l r).trans (List.sublist_cons_self _ _)
    | false => exact (frmH_ids id l r).cons_cons _
/-- A row of data that is frozen. -/
theorem nilD_rel {w : World} {M : Nat → Prop} (v : Value) (r : RelD w M .nilsl v) : RelD w M (.imm []) v := by
  have e : v = .slice none 0 0 := r
  subst e
  exact ⟨none, 0, rfl, Nat.le_refl _, .inl rfl⟩
theorem nilV_rel {w : World} {M : Nat → Prop} (x : AV) (v : Value) (r : RelV ρ w M x v) : RelV ρ w M (nilV x) v := by
  unfold nilV
  split
  · exact nilD_rel v r
  · obtain ⟨cs, hv, v0, rest, h1, h2, h3⟩ := r
    exact ⟨cs, hv, v0, rest, h1, nilD_rel v0 h2, h3⟩
  · exact r
theorem nilF_rel {w : World} {M : Nat → Prop} (s : Nat) : ∀ (i : Nat) (l : List AV) (vs : List Value), RelVs ρ w M l vs → RelVs ρ w M (nilF s i l) vs
  | _, [], vs, r => r
  | i, x :: l, vs, ⟨v, rest, hv, r1, r2⟩ => by
    unfold nilF
    cases hb : i == s with
    | true => exact ⟨v, rest, hv, nilV_rel x v r1, r2⟩
    | false => exact ⟨v, rest, hv, r1, nilF_rel s (i + 1) l rest r2⟩
theorem frz1_sound {st : St} {a : Act} (hs : RepS ρ st a w) (id : Nat) : RepS ρ (frz1 st id) a w ∧ (frz1 st id).n = st.n ∧ ∀ n0, Goes n0 ρ st.h w ρ (frz1 st id).h w := by
  unfold frz1
  cases ho : hget st.h id with
  | none =>
    dsimp only
    cases hb : id / 1000000 == 1 with
    | true => exact ⟨⟨hs.defers, nilF_rel _ _ _ _ hs.fr, hs.rep⟩, rfl, fun n0 => Goes.refl _ _ _ _⟩
    | false => exact ⟨hs, rfl, fun n0 => Goes.refl _ _ _ _⟩
  | some o =>
    cases o with
    | cells vs =>
      dsimp only
      cases hds : dsOf vs with
      | none => exact ⟨hs, rfl, fun n0 => Goes.refl _ _ _ _⟩
      | some ds =>
      dsimp only
      have hlo : ∀ b, Loc ρ (frzH id [ds] st.h) b → Loc ρ (hdel st.h id) b := by
        rintro b ⟨i, o, v, h1, h2, h3⟩
        obtain ⟨o', h4, h5, rfl⟩ := frzH_mem _ _ _ h1
        exact ⟨i, o', v, hdel_other h4 h5, h2, h3⟩
      have hmu : ∀ b, Mut ρ (frzH id [ds] st.h) b → Mut ρ (hdel st.h id) b := fun b m => m.imp (fun f => f) (hlo b)
      have hk : Keeps w (Mut ρ st.h) w (Mut ρ (frzH id [ds] st.h)) := fun b o hb hm => ⟨hb, fun m => hm (mut_del (hmu b m))⟩
      obtain ⟨g, cs, ty, hv, hg, hrel⟩ := obj_cells hs.rep ho
      have hi : ∀ v', ρ id = some v' → (∃ a n cap, v' = .slice a n cap) → RelD w (Mut ρ (frzH id [ds] st.h)) (.imm [ds]) v' := by
        rintro v' hv' ⟨a, n, cap, rfl⟩
        rw [hv] at hv'
        cases hv'
      have hp : ∀ b off, ρ id = some (.pointer (some ⟨b, 0, none⟩)) → RelV ρ w (Mut ρ (frzH id [ds] st.h)) (.iptr [ds] 0 off) (.pointer (some ⟨b, off, none⟩)) := by
        intro b off hb
        rw [hv] at hb
        injection hb with hb
        injection hb with hb
        injection hb with hb
        injection hb with hb
        subst hb
        rw [dsOf_map _ _ hds] at hrel
        have h1 := rels_dsF ds _ (RelVs.mono (EnvSub.refl ρ) hk _ _ hrel)
        have hlen := RelDs.length _ _ h1
        refine ⟨g, 0, cs, ty, _, ds.length, by simp, Int.le_refl _, hg, ?_, by simp, ?_⟩
        · exact fun m => del_free hs.rep (hget_mem ho) hv rfl (hmu _ m)
        · rw [List.drop_zero]
          refine ⟨?_, trivial⟩
          rw [hlen, List.take_length]
          exact h1
      refine ⟨⟨hs.defers, frzs_rel hk hi hp _ _ hs.fr, ⟨hs.rep.nodup.sublist (frzH_ids id [ds] st.h), ?_, ?_, hs.rep.fresh, ?_, hs.rep.old⟩⟩, rfl, fun n0 => ⟨rfl, rfl, rfl, Nat.le_refl _, fun _ _ _ => rfl, fun b _ m => loc_del (hlo b m), fun _ _ => rfl, rfl⟩⟩
      · intro i o hm
        obtain ⟨o', h1, h2, rfl⟩ := frzH_mem _ _ _ hm
        have r := hs.rep.objs i o' h1
        cases o' with
        | cells q =>
          obtain ⟨b, cs, ty, h3, h4, h5⟩ := r
          exact ⟨b, cs, ty, h3, h4, frzs_rel hk hi hp _ _ h5⟩
        | row c' q =>
          obtain ⟨v, xs, ty, h3, h4, h5, h6, h7⟩ := r
          exact ⟨v, xs, ty, h3, h4, h5, h6, RelRows.mono hk _ _ h7⟩
        | mp k2 q => obtain ⟨r', h3, h4⟩ := r; exact ⟨r', h3, h4⟩
        | it k2 e2 q c0 => obtain ⟨b, r', h3, h4, h5⟩ := r; exact ⟨b, r', h3, h4, by obtain ⟨E, cl, seen, g1, g2⟩ := h4; exact (hk r' _ g1 h5).2⟩
        | sit s p => exact r
        | bag c l =>
          obtain ⟨vs, h3, h4, h5, h6, h7⟩ := r
          exact ⟨vs, h3, h4, h5, fun p hp => by obtain ⟨xs, ty, g1, g2, g3⟩ := h6 p hp; exact ⟨xs, ty, g1, g2, RelRows.mono hk _ _ g3⟩, h7⟩
      · intro i o j o' v v' b hi hj h1 h2 h3 h4
        obtain ⟨o1, h5, -⟩ := frzH_mem _ _ _ hi
        obtain ⟨o2, h6, -⟩ := frzH_mem _ _ _ hj
        exact hs.rep.inj i o1 j o2 v v' b h5 h6 h1 h2 h3 h4
      · intro i o v b hi h1 h2
        obtain ⟨o1, h5, -⟩ := frzH_mem _ _ _ hi
        exact hs.rep.sep i o1 v b h5 h1 h2
    | row c l =>
      dsimp only
      have hlo : ∀ b, Loc ρ (frzH id l st.h) b → Loc ρ (hdel st.h id) b := by
        rintro b ⟨i, o, v, h1, h2, h3⟩
        obtain ⟨o', h4, h5, rfl⟩ := frzH_mem _ _ _ h1
        exact ⟨i, o', v, hdel_other h4 h5, h2, h3⟩
      have hmu : ∀ b, Mut ρ (frzH id l st.h) b → Mut ρ (hdel st.h id) b := fun b m => m.imp (fun f => f) (hlo b)
      have hk : Keeps w (Mut ρ st.h) w (Mut ρ (frzH id l st.h)) := fun b o hb hm => ⟨hb, fun m => hm (mut_del (hmu b m))⟩
      obtain ⟨v, xs, ty, hv, hc, hown, hl, hr⟩ := obj_row hs.rep ho
      have hi : ∀ v', ρ id = some v' → (∃ a n cap, v' = .slice a n cap) → RelD w (Mut ρ (frzH id l st.h)) (.imm l) v' := by
        rintro v' hv' -
        rw [hv] at hv'
        obtain rfl := Option.some.inj hv'
        rcases hown.2 with ⟨rfl, h0⟩ | ⟨g, cap, cur, rfl, hb0, hg, hcap, hmx, hsz, ht⟩
        · have : l = [] := List.eq_nil_of_length_eq_zero h0
          subst this
          exact ⟨none, 0, rfl, Nat.le_refl _, .inl rfl⟩
        · refine ⟨_, _, rfl, hcap, .inr ⟨g, 0, _, _, _, c, rfl, hg, ?_, hl, ?_⟩⟩
          · exact fun m => del_free hs.rep (hget_mem ho) hv rfl (hmu _ m)
          · rw [List.drop_zero, ← List.take_append_drop (l.length * c) cur.toList, ht]
            have := RelRows.append (c := c) l [] xs (cur.toList.drop (l.length * c)) hl (by rw [hown.1]) (RelRows.mono hk _ _ hr) trivial
            rwa [List.append_nil] at this
      have hp : ∀ b off, ρ id = some (.pointer (some ⟨b, 0, none⟩)) → RelV ρ w (Mut ρ (frzH id l st.h)) (.iptr l 0 off) (.pointer (some ⟨b, off, none⟩)) := by
        intro b off hb
        rw [hv] at hb
        obtain rfl := Option.some.inj hb
        rcases hown.2 with ⟨e, -⟩ | ⟨g, cap, cur, e, -⟩ <;> cases e
      refine ⟨⟨hs.defers, frzs_rel hk hi hp _ _ hs.fr, ⟨hs.rep.nodup.sublist (frzH_ids id l st.h), ?_, ?_, hs.rep.fresh, ?_, hs.rep.old⟩⟩, rfl, fun n0 => ⟨rfl, rfl, rfl, Nat.le_refl _, fun _ _ _ => rfl, fun b _ m => loc_del (hlo b m), fun _ _ => rfl, rfl⟩⟩
      · intro i o hm
        obtain ⟨o', h1, h2, rfl⟩ := frzH_mem _ _ _ hm
        have r := hs.rep.objs i o' h1
        cases o' with
        | cells q =>
          obtain ⟨b, cs, ty, h3, h4, h5⟩ := r
          exact ⟨b, cs, ty, h3, h4, frzs_rel hk hi hp _ _ h5⟩
        | row c' q =>
          obtain ⟨v, xs, ty, h3, h4, h5, h6, h7⟩ := r
          exact ⟨v, xs, ty, h3, h4, h5, h6, RelRows.mono hk _ _ h7⟩
        | mp k2 q => obtain ⟨r', h3, h4⟩ := r; exact ⟨r', h3, h4⟩
        | it k2 e2 q c0 => obtain ⟨b, r', h3, h4, h5⟩ := r; exact ⟨b, r', h3, h4, by obtain ⟨E, cl, seen, g1, g2⟩ := h4; exact (hk r' _ g1 h5).2⟩
        | sit s p => exact r
        | bag c l =>
          obtain ⟨vs, h3, h4, h5, h6, h7⟩ := r
          exact ⟨vs, h3, h4, h5, fun p hp => by obtain ⟨xs, ty, g1, g2, g3⟩ := h6 p hp; exact ⟨xs, ty, g1, g2, RelRows.mono hk _ _ g3⟩, h7⟩
      · intro i o j o' v v' b hi hj h1 h2 h3 h4
        obtain ⟨o1, h5, -⟩ := frzH_mem _ _ _ hi
        obtain ⟨o2, h6, -⟩ := frzH_mem _ _ _ hj
        exact hs.rep.inj i o1 j o2 v v' b h5 h6 h1 h2 h3 h4
      · intro i o v b hi h1 h2
        obtain ⟨o1, h5, -⟩ := frzH_mem _ _ _ hi
        exact hs.rep.sep i o1 v b h5 h1 h2
    | mp k l =>
      dsimp only
      have hlo : ∀ b, Loc ρ (frmH id (.fm k l) st.h) b → Loc ρ (hdel st.h id) b := by
        rintro b ⟨i, o, v, h1, h2, h3⟩
        obtain ⟨o', h4, h5, rfl⟩ := frmH_mem _ _ _ h1
        exact ⟨i, o', v, hdel_other h4 h5, h2, h3⟩
      have hmu : ∀ b, Mut ρ (frmH id (.fm k l) st.h) b → Mut ρ (hdel st.h id) b := fun b m => m.imp (fun f => f) (hlo b)
      have hk : Keeps w (Mut ρ st.h) w (Mut ρ (frmH id (.fm k l) st.h)) := fun b o hb hm => ⟨hb, fun m => hm (mut_del (hmu b m))⟩
      obtain ⟨b0, hv, hmap⟩ := obj_mp hs.rep ho
      have hi : ∀ v', ρ id = some v' → (∃ r, v' = .map (some r)) → RelD w (Mut ρ (frmH id (.fm k l) st.h)) (.fm k l) v' := by
        rintro v' hv' -
        rw [hv] at hv'
        obtain rfl := Option.some.inj hv'
        exact ⟨b0, rfl, hmap, fun m => del_free hs.rep (hget_mem ho) hv rfl (hmu _ m)⟩
      refine ⟨⟨hs.defers, frms_rel hk hi _ _ hs.fr, ⟨hs.rep.nodup.sublist (frmH_ids id (.fm k l) st.h), ?_, ?_, hs.rep.fresh, ?_, hs.rep.old⟩⟩, rfl, fun n0 => ⟨rfl, rfl, rfl, Nat.le_refl _, fun _ _ _ => rfl, fun b _ m => loc_del (hlo b m), fun _ _ => rfl, rfl⟩⟩
      · intro i o hm
        obtain ⟨o', h1, h2, rfl⟩ := frmH_mem _ _ _ hm
        have r := hs.rep.objs i o' h1
        cases o' with
        | cells q =>
          obtain ⟨b, cs, ty, h3, h4, h5⟩ := r
          exact ⟨b, cs, ty, h3, h4, frms_rel hk hi _ _ h5⟩
        | row c' q =>
          obtain ⟨v, xs, ty, h3, h4, h5, h6, h7⟩ := r
          exact ⟨v, xs, ty, h3, h4, h5, h6, RelRows.mono hk _ _ h7⟩
        | mp k2 q => obtain ⟨r', h3, h4⟩ := r; exact ⟨r', h3, h4⟩
        | it k2 e2 q c0 => obtain ⟨b, r', h3, h4, h5⟩ := r; exact ⟨b, r', h3, h4, by obtain ⟨E, cl, seen, g1, g2⟩ := h4; exact (hk r' _ g1 h5).2⟩
        | sit s p => exact r
        | bag c l =>
          obtain ⟨vs, h3, h4, h5, h6, h7⟩ := r
          exact ⟨vs, h3, h4, h5, fun p hp => by obtain ⟨xs, ty, g1, g2, g3⟩ := h6 p hp; exact ⟨xs, ty, g1, g2, RelRows.mono hk _ _ g3⟩, h7⟩
      · intro i o j o' v v' b hi hj h1 h2 h3 h4
        obtain ⟨o1, h5, -⟩ := frmH_mem _ _ _ hi
        obtain ⟨o2, h6, -⟩ := frmH_mem _ _ _ hj
        exact hs.rep.inj i o1 j o2 v v' b h5 h6 h1 h2 h3 h4
      · intro i o v b hi h1 h2
        obtain ⟨o1, h5, -⟩ := frmH_mem _ _ _ hi
        exact hs.rep.sep i o1 v b h5 h1 h2
    | it k e l c0 => exact ⟨hs, rfl, fun n0 => Goes.refl _ _ _ _⟩
    | sit s p => exact ⟨hs, rfl, fun n0 => Goes.refl _ _ _ _⟩
    | bag c l => exact ⟨hs, rfl, fun n0 => Goes.refl _ _ _ _⟩
where
  hdel_other {h : Hp} {id i : Nat} {o : Ob} (hm : (i, o) ∈ h) (hne : i ≠ id) : (i, o) ∈ hdel h id := by
    induction h with
    | nil => cases hm
    | cons p r ih =>
      obtain ⟨j, x⟩ := p
      simp only [hdel]
      rcases List.mem_cons.1 hm with e | hm
      · simp only [Prod.mk.injEq] at e
        obtain ⟨rfl, rfl⟩ := e
        have : (i == id) = false := by simpa using hne
        simp [this]
      · cases hb : j == id with
        | true => simpa using hm
        | false => simp [ih hm]
theorem frzs_sound {a : Act} : ∀ (l : List Nat) {st : St}, RepS ρ st a w → RepS ρ (frzs st l) a w ∧ (frzs st l).n = st.n ∧ ∀ n0, Goes n0 ρ st.h w ρ (frzs st l).h w
  | [], st, hs => ⟨hs, rfl, fun n0 => Goes.refl _ _ _ _⟩
  | id :: r, st, hs => by
    obtain ⟨h1, h2, h3⟩ := frz1_sound hs id
    obtain ⟨h4, h5, h6⟩ := frzs_sound r h1
    exact ⟨h4, h5.trans h2, fun n0 => (h3 n0).trans (h6 n0)⟩

/-! an operation with its guard -/
theorem Out.mono {K K' : St → Prop} {n0 : Nat} {a : Act} (hk : ∀ st, K st → K' st) (h' : Out K n0 ρ h w a w') : Out K' n0 ρ h w a w' := by
  obtain ⟨ρ', st', h1, h2⟩ := h'
  exact ⟨ρ', st', hk _ h1, h2⟩
theorem Out.lift {K : St → Prop} {n0 n1 : Nat} {a : Act} {ρ1 : Env} {h1 : Hp} {w1 : World} (g : Goes n0 ρ h w ρ1 h1 w1) (hn : n0 ≤ n1) (h' : Out K n1 ρ1 h1 w1 a w') : Out K n0 ρ h w a w' := by
  obtain ⟨ρ', st', h1, h2, h3, h4⟩ := h'
  exact ⟨ρ', st', h1, h2, Nat.le_trans hn h3, g.trans (h4.mono hn)⟩
theorem step_sound (hT : TysOK P T) {C : CallS} (hC : ∀ f args n h K, C f args n h K → CallE P f args n h K) {H : Hints} {ops : Array Oper} {reg i : Nat} {o : Oper} {st : St} {a : Act} {K : St → Prop} {Q : Exit → Act → World → Prop} {next : Act → World → Prop} (hs : RepS ρ st a w)
    (h : stepA T real C H ops.toList reg i o st K) (hn : ∀ a' w', Out K st.n ρ st.h w a' w' → next a' w') :
    if Region.wanted o (yielded ops a.tmps) then o.wp P a w next Q ∨ (o.asks P a w ∧ LetsOut Q) else next (a.put o.dst undef) w := by
  unfold stepA at h
  obtain ⟨f1, f2, f3⟩ := frzs_sound (lkup (reg, i) H.fz) hs
  obtain ⟨st', h1, h2, h3, h4⟩ := guard_sound f1 h
  have lift : ∀ {a' w'}, Out K st'.n ρ st'.h w a' w' → next a' w' := fun {a' w'} q => hn a' w' (by
    rw [h2, h3, f2] at q
    exact q.lift (f3 st.n) (Nat.le_refl _))
  rcases h4 with ⟨hw, h4⟩ | ⟨hw, h4⟩
  · rw [if_pos hw]
    exact .inl (Oper.wp_mono (fun a' w' q => lift q) (op_sound (Q := Q) hT hC h1 h4))
  · rw [if_neg (by simp [hw])]
    exact lift (out_undef h1 o.dst h4)
theorem ops_sound (hT : TysOK P T) {C : CallS} (hC : ∀ f args n h K, C f args n h K → CallE P f args n h K) {H : Hints} {ops : Array Oper} {reg : Nat} {K : St → Prop} {Q : Exit → Act → World → Prop} : ∀ (l : List Oper) (i : Nat) {ρ : Env} {w : World} {st : St} {a : Act}, RepS ρ st a w →
    opsA T real C H ops.toList reg i l st K → (∀ a' w', Out K st.n ρ st.h w a' w' → Q .normal a' w') → wpList P ops Q l a w
  | [], i, ρ, w, st, a, hs, h, hq => hq a w ⟨ρ, st, h, hs, Nat.le_refl _, Goes.refl _ _ _ _⟩
  | o :: r, i, ρ, w, st, a, hs, h, hq => by
    refine step_sound (K := fun st => opsA T real C H ops.toList reg (i + 1) r st K) hT hC hs h ?_
    rintro a' w' ⟨ρ', st', h1, h2, h3, h4⟩
    exact ops_sound hT hC r (i + 1) h2 h1 (fun a'' w'' q => hq a'' w'' (q.lift h4 h3))
end
end Go.Proofs.Yteakfibolfapiaa.Ab
end
