/- The executor is sound: one operation, whichever. -/
import Derived.Test.YteakfibolfapiaaTrAbM
namespace Go.Proofs.Yteakfibolfapiaa.Ab
open Go.RowKit Go.Sort
set_option linter.unusedVariables false
set_option linter.unusedSimpArgs false

section
variable {P : Program} {T : Nat → TI} {ρ : Env} {w w' : World} {M : Nat → Prop} {n : Nat} {h : Hp}
theorem wp_nexts {o : Oper} {st : St} {a : Act} {K : St → Prop} {Q : Exit → Act → World → Prop} {s : Sem Value} (hs : RepS ρ st a w) (he : execOp a.eval o = (do pure (Next.value (← s)))) (g : Nexts P ρ st w (fun st v => K (st.put o.dst v)) s) :
    o.wp P a w (Out K st.n ρ st.h w) Q := by
  obtain ⟨v, w', h1, h2⟩ := g.out hs
  refine wp_value (v := v) (w' := w') ?_ h2
  rw [he]
  simp [h1]
theorem wp_gives {o : Oper} {st : St} {a : Act} {K : St → Prop} {Q : Exit → Act → World → Prop} {s : Sem Value} (hs : RepS ρ st a w) (he : execOp a.eval o = (do pure (Next.value (← s)))) (g : Gives P ρ w (Mut ρ st.h) (fun v => K (st.put o.dst v)) s) :
    o.wp P a w (Out K st.n ρ st.h w) Q := wp_nexts hs he (Gives.next (K := fun st v => K (st.put o.dst v)) hs g)
theorem wp_givesA {o : Oper} {st : St} {a : Act} {K : St → Prop} {Q : Exit → Act → World → Prop} {s : Sem Value} (hs : RepS ρ st a w) (he : execOp a.eval o = (do pure (Next.value (← s)))) (g : GivesA P ρ w (Mut ρ st.h) (fun v => K (st.put o.dst v)) s) :
    o.wp P a w (Out K st.n ρ st.h w) Q := wp_gives hs he (g.gives trivial)
theorem len_gives (hT : TysOK P T) {st : St} {a : Act} {t : Nat} {ts : List Nat} {x : AV} {xs : List AV} {v : Value} {vs : List Value} {K : St → AV → Prop} {ty : TypeId} (hs : RepS ρ st a w) (hx : RelV ρ w (Mut ρ st.h) x v)
    (h : builtinA T real st .len (t :: ts) (x :: xs) K) : GivesA P ρ w (Mut ρ st.h) (K st) (Builtin.len_ (t :: ts).toArray ty (v :: vs).toArray) := by
  simp only [builtinA, Ab.ty] at h
  split at h
  · rename_i hu
    split at h
    · rename_i s
      obtain rfl : v = .string ⟨s.toArray⟩ := hx
      have hz : (ByteArray.mk s.toArray).size = s.length := by simp [ByteArray.size]
      exact ⟨_, _, h, rfl, fun u _ => by simp [Builtin.len_, run_underlying (hT.str hu), goInt, real, hz]⟩
    · exact h.elim
  · rename_i len e hu
    exact ⟨_, _, h, rfl, fun u _ => by simp [Builtin.len_, run_underlying (hT.array hu), goInt]⟩
  · rename_i e hu
    split at h
    · rename_i len e' hu2
      exact ⟨_, _, h, rfl, fun u _ => by simp [Builtin.len_, run_underlying (hT.ptr hu), run_underlying (hT.array hu2), goInt]⟩
    · exact h.elim
  · rename_i e hu
    split at h
    · rename_i l hl
      cases x with
      | d y =>
        cases y with
        | nilsl =>
          simp [rowsOf] at hl
          subst hl
          obtain rfl : v = .slice none 0 0 := hx
          exact ⟨_, _, h, rfl, fun u _ => by simp [Builtin.len_, run_underlying (hT.slice hu), goInt, real]⟩
        | imm l' =>
          simp [rowsOf] at hl
          subst hl
          obtain ⟨ad, cap, rfl, -⟩ := hx
          exact ⟨_, _, h, rfl, fun u _ => by simp [Builtin.len_, run_underlying (hT.slice hu), goInt, real]⟩
        | _ => simp [rowsOf] at hl
      | sl id =>
        simp only [rowsOf] at hl
        cases ho : hget st.h id with
        | none => simp [ho] at hl
        | some o =>
          cases o with
          | cells q => simp [ho] at hl
          | mp k m => simp [ho] at hl
          | it k e m c0 => simp [ho] at hl
          | sit s p => simp [ho] at hl
          | bag s p => simp [ho] at hl
          | row c l' =>
            simp [ho] at hl
            subst hl
            obtain ⟨hid, a0, n0, cap0, rfl⟩ := hx
            obtain ⟨v', xs', e', hv, hc, hown, hl', hr⟩ := obj_row hs.rep ho
            rw [hid] at hv
            obtain rfl := Option.some.inj hv
            have hn : n0 = l'.length := by
              rcases hown.2 with ⟨hv, h0⟩ | ⟨g', cap', cur, hv, -⟩
              · simp only [Value.slice.injEq] at hv
                omega
              · simp only [Value.slice.injEq] at hv
                exact hv.2.1
            subst hn
            exact ⟨_, _, h, rfl, fun u _ => by simp [Builtin.len_, run_underlying (hT.slice hu), goInt, real]⟩
      | _ => simp [rowsOf] at hl
    · exact h.elim
  · exact h.elim
theorem call_sound {o : Oper} {st : St} {a : Act} {K : St → Prop} {Q : Exit → Act → World → Prop} {f : Nat} {args : List AV} {vs : List Value} (hs : RepS ρ st a w) (ha : RelVs ρ w (Mut ρ st.h) args vs) (he : execOp a.eval o = callFunc f vs.toArray)
    (h : CallE P f args st.n st.h fun v n h => K (({ st with n := n, h := h } : St).put o.dst v)) : o.wp P a w (Out K st.n ρ st.h w) Q := by
  unfold Oper.wp
  rw [he]
  cases h with
  | ext run =>
    obtain ⟨v, w', h0, av, ρ', n', h', hK, h1, h2, h3, h4⟩ := run ρ w vs hs.rep ha
    rw [h0]
    exact out_value hs h1 h3 h4 h2 hK
  | enter fn hf hn hb run =>
    have hr : (callFunc f vs.toArray).run P w = .ok (.enter f vs.toArray) w := by
      have hn' : fn.name ≠ "runtime.NumGoroutine" := by simpa using hn
      have hb' : fn.body ≠ none := by
        intro e; rw [e] at hb; cases hb
      unfold callFunc
      simp [hf, hn', hb']
    rw [hr]
    refine Calls.mono (run ρ w vs hs.rep ha) ?_
    rintro e w' ⟨v, rfl, av, ρ', n', h', hK, h1, h2, h3, h4⟩
    exact out_value hs h1 h3 h4 h2 hK
theorem twoI_eq {l : List AV} {k : IntKind} {a b : Int} (h : twoI l = some (k, a, b)) : l = [.d (.int k a), .d (.int k b)] := by
  unfold twoI at h
  split at h
  · rename_i k' a' k'' b'
    by_cases e : k' = k''
    · subst e
      simp at h
      obtain ⟨rfl, rfl, rfl⟩ := h
      rfl
    · simp [e] at h
  · cases h
theorem op_sound (hT : TysOK P T) {C : CallS} (hC : ∀ f args n h K, C f args n h K → CallE P f args n h K) {own : Bool} {o : Oper} {st : St} {a : Act} {K : St → Prop} {Q : Exit → Act → World → Prop} (hs : RepS ρ st a w) (h : opA T real C own o.dst o.op st K) : o.wp P a w (Out K st.n ρ st.h w) Q := by
  obtain ⟨dst, op, oty, pos, after, guard⟩ := o
  dsimp only at h
  have E := fun x => ev_rel hs x
  cases op with
  | move x => exact wp_gives (s := pure (a.eval x)) hs rfl ⟨_, _, h, E x, rfl⟩
  | assign x => exact wp_gives (s := pure (a.eval x)) hs rfl ⟨_, _, h, E x, rfl⟩
  | pick c x y =>
    obtain ⟨av, v, h1, h2, h3⟩ := (pick_gives (P := P) (K := fun v => K (st.put dst v)) (E c) (E x) (E y) h).gives trivial
    refine wp_value (v := v) (w' := w) ?_ (out_same hs h2 h1)
    show (do pure (Next.value (if ← asBool (a.eval c) then a.eval x else a.eval y)) : Sem Next).run P w = _
    cases hq : (asBool (a.eval c)).run P w with
    | ok b w' =>
      simp only [Sem.run_bind, hq, Result.andThen, Sem.run_pure, Result.ok.injEq] at h3 ⊢
      exact ⟨by rw [h3.1], h3.2⟩
    | halt x w' => simp only [Sem.run_bind, hq, Result.andThen] at h3; cases h3
  | alloc e =>
    simp only [opA, Ab.ty] at h
    cases hb : Nat.blt 0 (T e).size with
    | false => simp [hb] at h
    | true =>
      simp only [hb, cond_true] at h
      have hs0 : (T e).size ≠ 0 := by have := Nat.le_of_ble_eq_true hb; omega
      cases hz : zerosOf T e with
      | none => simp [hz] at h
      | some z =>
        simp only [hz] at h
        exact wp_nexts hs rfl (alloc_next hT hs hs0 hz h)
  | box e x =>
    simp only [opA] at h
    obtain ⟨hk, h⟩ := bif_true h not_false
    exact wp_nexts hs rfl (box_next hs (E x) (by intro e; rw [e] at hk; simp [known] at hk) h)
  | build t ps =>
    have hmap : (ps.map fun (p : Nat × Operand) => (p.1, a.eval p.2)) = (ps.toList.map fun p => (p.1, a.eval p.2)).toArray := by
      apply Array.ext'
      rw [Array.toList_map]
    refine wp_givesA hs ?_ (build_gives hT hs h)
    rw [← hmap]
    rfl
  | buildSlice t len ps =>
    have hmap : (ps.map fun (p : Nat × Operand) => (p.1, a.eval p.2)) = (ps.toList.map fun p => (p.1, a.eval p.2)).toArray := by
      apply Array.ext'
      rw [Array.toList_map]
    refine wp_nexts hs ?_ (bslice_next (own := own) hT hs h)
    rw [← hmap]
    rfl
  | load t x =>
    have key : (∃ g, x = .global g) ∨ loadA T real st t (st.ev x) (fun v => K (st.put dst v)) := by
      cases x with
      | global g => exact .inl ⟨g, rfl⟩
      | _ => exact .inr h
    rcases key with ⟨g, rfl⟩ | h1
    · obtain ⟨hg, h1⟩ := bif_true h not_false
      obtain ⟨v, hv⟩ := hT.globs t g w hg hs.rep.old.inv
      exact wp_gives hs rfl ⟨.top, v, h1, trivial, hv⟩
    · exact wp_gives hs rfl (load_gives hT hs (E x) h1)
  | store t x y =>
    obtain ⟨w', h', h1, h2, h3, h4⟩ := store_sound (K := fun st => K (st.put dst (.tup []))) hT hs (E x) (E y) h
    have hr : (execOp a.eval ⟨dst, .store t x y, oty, pos, after, guard⟩).run P w = .ok .skip w' := by
      show (do Instr.storeAt t (a.eval x) (a.eval y); pure Next.skip : Sem Next).run P w = _
      simp [h1]
    unfold Oper.wp
    rw [hr]
    exact out_value (av := .tup []) (v := undef) (n' := st.n) hs h3 ⟨#[], rfl, rfl⟩ h4 (Nat.le_refl _) h2
  | nilCheck x =>
    simp only [opA] at h
    obtain ⟨hp, h⟩ := bif_true h not_false
    obtain ⟨b, o, hv⟩ := isPtr_addr hp (E x)
    refine wp_gives (s := pure (a.eval x)) hs ?_ ⟨_, _, h, E x, rfl⟩
    have e : execOp a.eval ⟨dst, .nilCheck x, oty, pos, after, guard⟩ = pure (.value (a.eval x)) := by
      simp only [execOp, hv]
    rw [e]
    rfl
  | binOp op t x y ty =>
    simp only [opA] at h
    cases hsc : scalarD (st.ev x) with
    | true =>
      rw [hsc] at h
      simp only [cond_true] at h
      exact wp_givesA hs rfl (bin_gives (E x) (E y) h t x y)
    | false =>
      rw [hsc] at h
      simp only [cond_false] at h
      cases op with
      | eql => exact wp_givesA hs rfl (eq_gives (neq := false) (cst := isConst x || isConst y) (X := x) (Y := y) hT (E x) (E y) rfl h)
      | neq => exact wp_givesA hs rfl (eq_gives (neq := true) (cst := isConst x || isConst y) (X := x) (Y := y) hT (E x) (E y) rfl h)
      | _ => exact h.elim
  | makeInterface t x => exact wp_givesA hs rfl (ifc_gives hT (E x) h)
  | unOp op t x => exact wp_givesA hs rfl (un_gives (E x) h)
  | convert s d x =>
    refine wp_nexts hs rfl ?_
    obtain ⟨v, w', av, ρ', n', h', h1, ⟨h2, h2'⟩, h3⟩ := conv_next (K := fun v => K (st.put dst v)) hT hs (E x) h
    exact ⟨v, w', av, ρ', n', h', h1, by rw [h2]; exact h2', h3⟩
  | slice t x lo hi mx => exact wp_nexts hs rfl (slice_next (K := fun st v => K (st.put dst v)) hT hs (E x) h)
  | makeSlice t l c =>
    simp only [opA, Ab.ty] at h
    split at h
    · rename_i e kl li kc ci hu hl hc
      have hl' := E l
      have hc' := E c
      rw [hl] at hl'
      rw [hc] at hc'
      cases hz : (T e).zero with
      | none => simp [hz] at h
      | some z =>
        simp only [hz] at h
        refine wp_nexts (s := Instr.makeSlice t (a.eval l) (a.eval c)) hs rfl ?_
        rw [show a.eval l = .int kl li from hl', show a.eval c = .int kc ci from hc']
        exact make_next hT hs hu hz h.1 h.2
    · exact h.elim
  | fieldAddr s x f => exact wp_givesA hs rfl (fieldAddr_gives hT (E x) h)
  | field s x f => exact wp_givesA hs rfl (field_gives hT (E x) h)
  | indexAddr t x i => exact wp_givesA hs rfl (indexAddr_gives hT hs (E x) h)
  | index t x i => exact wp_givesA hs rfl (index_gives hT hs (E x) h)
  | extract t i => exact wp_givesA hs rfl (extract_gives (E t) h)
  | makeFunc fn first caps =>
    cases fn with
    | func f =>
      obtain ⟨first⟩ := first
      cases first with
      | nil =>
        refine wp_gives (s := Instr.makeFunc (.func f) (Array.map a.eval ⟨[]⟩) (caps.map a.eval)) hs rfl ⟨_, .func (.func f) #[] (caps.map a.eval), h, ⟨_, rfl, ?_⟩, by simp [Instr.makeFunc]⟩
        rw [Array.toList_map]
        exact evs_rel hs _
      | cons y r => exact h.elim
    | _ => exact h.elim
  | makeMap t r =>
    cases r with
    | some r => exact h.elim
    | none =>
      simp only [opA, Ab.ty] at h
      split at h
      · split at h
        · exact wp_nexts (s := Instr.makeMap t none) hs rfl (mkmap_next (K := fun st v => K (st.put dst v)) hs h)
        · exact h.elim
      · exact h.elim
  | lookup t m x ok => exact wp_gives hs rfl (mlook_gives (K := fun v => K (st.put dst v)) hT hs (E m) (E x) h)
  | mapUpdate t m x y =>
    obtain ⟨w', n', h', h1, h2, h3, h4, h5⟩ := mupd_next (K := fun st => K (st.put dst (.tup []))) hT hs (E m) (E x) (E y) h
    have hr : (execOp a.eval ⟨dst, .mapUpdate t m x y, oty, pos, after, guard⟩).run P w = .ok .skip w' := by
      show (do Instr.mapUpdate t (a.eval m) (a.eval x) (a.eval y); pure Next.skip : Sem Next).run P w = _
      simp [h1]
    unfold Oper.wp
    rw [hr]
    exact out_value (av := .tup []) (v := undef) (n' := n') hs h3 ⟨#[], rfl, rfl⟩ h5 h4 h2
  | range t m =>
    simp only [opA, Ab.ty] at h
    split at h
    · rename_i kt e k l hu hm
      have hx := E m
      rw [hm] at hx
      exact wp_nexts hs rfl (range_next (K := fun st v => K (st.put dst v)) hT hs hu hx h)
    · rename_i s hu hm
      have hx := E m
      rw [hm] at hx
      exact wp_nexts hs rfl (srange_next (K := fun st v => K (st.put dst v)) hT hs hu hx h)
    · exact h.elim
  | entry i => exact wp_gives hs rfl (entry_gives (K := fun v => K (st.put dst v)) hT hs (E i) h)
  | next i b =>
    cases b with
    | true => exact wp_nexts hs rfl (snext_next (K := fun st v => K (st.put dst v)) hs (E i) h)
    | false => exact wp_nexts hs rfl (next_next (K := fun st v => K (st.put dst v)) hT hs (E i) h)
  | call c =>
    obtain ⟨callee, args, argTypes⟩ := c
    simp only [opA] at h
    cases callee with
    | invoke r m => exact h.elim
    | value f =>
      dsimp only at h
      have hf := E f
      cases hfn : fnOf (st.ev f) with
      | none => simp [hfn] at h
      | some p =>
        obtain ⟨g, caps⟩ := p
        simp only [hfn] at h
        have hev : st.ev f = .fn g caps := by
          cases hv : st.ev f <;> rw [hv] at hfn <;> simp [fnOf] at hfn
          obtain ⟨rfl, rfl⟩ := hfn
          rfl
        rw [hev] at hf
        obtain ⟨cs, hfv, hcs⟩ := hf
        refine call_sound (f := g) (vs := args.toList.map a.eval ++ cs.toList) hs (RelVs.append _ _ _ _ (evs_rel hs _) hcs) ?_ (hC _ _ _ _ _ h)
        have e1 : (args.toList.map a.eval ++ cs.toList).toArray = (#[] ++ args.map a.eval) ++ cs := by
          apply Array.ext'
          simp
        rw [e1]
        show (do let d ← Deferred.ofValue (a.eval f) (args.map a.eval); invoke d.target d.args : Sem Next) = _
        rw [hfv]
        rfl
    | builtin b =>
      dsimp only at h
      obtain ⟨tl⟩ := argTypes
      have hargs : args.map a.eval = (args.toList.map a.eval).toArray := by
        apply Array.ext'
        rw [Array.toList_map]
      have hrel := evs_rel hs args.toList
      generalize evs st args.toList = xs at *
      generalize hvs : args.toList.map a.eval = vs at *
      cases hml : mapLen T st b tl xs with
      | some l =>
        rw [hml] at h
        dsimp only at h
        obtain ⟨rfl, t, rest, x, v, rfl, rfl, hv1, hg⟩ := mlen_gives (ty := oty) (K := fun v => K (st.put dst v)) hT hs hrel hml h
        refine wp_gives (s := Builtin.len_ ⟨t :: rest⟩ oty vs.toArray) hs ?_ hg
        rw [← hargs]
        rfl
      | none =>
      rw [hml] at h
      dsimp only at h
      clear hml
      cases b with
      | len =>
        cases tl with
        | nil => simp [builtinA] at h
        | cons t ts =>
          cases xs with
          | nil => simp [builtinA] at h
          | cons x xs =>
            obtain ⟨v, rest, rfl, hx, hrest⟩ := hrel
            refine wp_givesA (s := Builtin.len_ ⟨t :: ts⟩ oty (v :: rest).toArray) hs ?_ (len_gives (K := fun st v => K (st.put dst v)) hT hs hx h)
            rw [← hargs]
            rfl
      | append =>
        match tl, xs, h, hrel with
        | [t, t'], [s, x], h, hrel =>
          simp only [builtinA] at h
          obtain ⟨v1, r1, rfl, hv1, v2, r2, rfl, hv2, hr⟩ := hrel
          have hr : r2 = [] := hr
          subst hr
          refine wp_nexts (s := Builtin.append_ #[t, t'] oty #[v1, v2]) hs ?_ (append_sound (K := fun st v => K (st.put dst v)) hT hs hv1 hv2 h)
          rw [← hargs]
          rfl
        | [], _, h, _ => simp [builtinA] at h
        | [_], _, h, _ => simp [builtinA] at h
        | _ :: _ :: _ :: _, _, h, _ => simp [builtinA] at h
        | [_, _], [], h, _ => simp [builtinA] at h
        | [_, _], [_], h, _ => simp [builtinA] at h
        | [_, _], _ :: _ :: _ :: _, h, _ => simp [builtinA] at h
      | delete =>
        match tl, xs, h, hrel with
        | [t, t'], [s, x], h, hrel =>
          simp only [builtinA] at h
          obtain ⟨v1, r1, rfl, hv1, v2, r2, rfl, hv2, hr⟩ := hrel
          have hr : r2 = [] := hr
          subst hr
          refine wp_nexts (s := Builtin.delete_ #[t, t'] oty #[v1, v2]) hs ?_ (mdel_next (K := fun st v => K (st.put dst v)) hT hs hv1 hv2 h)
          rw [← hargs]
          rfl
        | [], _, h, _ => simp [builtinA] at h
        | [_], _, h, _ => simp [builtinA] at h
        | _ :: _ :: _ :: _, _, h, _ => simp [builtinA] at h
        | [_, _], [], h, _ => simp [builtinA] at h
        | [_, _], [_], h, _ => simp [builtinA] at h
        | [_, _], _ :: _ :: _ :: _, h, _ => simp [builtinA] at h
      | min =>
        simp only [builtinA] at h
        cases h2 : twoI xs with
        | none => simp [h2] at h
        | some p =>
          obtain ⟨k, p, q⟩ := p
          simp only [h2] at h
          obtain rfl := twoI_eq h2
          obtain ⟨v1, r1, hr0, hv1, v2, r2, hr1, hv2, hr⟩ := hrel
          have hr : r2 = [] := hr
          subst hr
          subst hr1
          obtain rfl : v1 = .int k p := hv1
          obtain rfl : v2 = .int k q := hv2
          subst hr0
          refine wp_gives (s := Builtin.min_ ⟨tl⟩ oty #[.int k p, .int k q]) hs ?_ ⟨_, _, h, rfl, ?_⟩
          · rw [← hargs]
            rfl
          · rw [Tr.go_min_two, Tr.go_min2]
            rfl
      | max =>
        simp only [builtinA] at h
        cases h2 : twoI xs with
        | none => simp [h2] at h
        | some p =>
          obtain ⟨k, p, q⟩ := p
          simp only [h2] at h
          obtain rfl := twoI_eq h2
          obtain ⟨v1, r1, hr0, hv1, v2, r2, hr1, hv2, hr⟩ := hrel
          have hr : r2 = [] := hr
          subst hr
          subst hr1
          obtain rfl : v1 = .int k p := hv1
          obtain rfl : v2 = .int k q := hv2
          subst hr0
          refine wp_gives (s := Builtin.max_ ⟨tl⟩ oty #[.int k p, .int k q]) hs ?_ ⟨_, _, h, rfl, ?_⟩
          · rw [← hargs]
            rfl
          · rw [Tr.go_max_two, Tr.go_max2]
            rfl
      | _ => simp [builtinA] at h
  | _ => exact h.elim
end
end Go.Proofs.Yteakfibolfapiaa.Ab
