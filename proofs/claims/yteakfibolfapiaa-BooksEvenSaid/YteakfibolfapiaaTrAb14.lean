/- The executor is sound: literals, new places, equality, what is built in. -/
import Derived.Test.YteakfibolfapiaaTrAb13
namespace Go.Proofs.Yteakfibolfapiaa.Ab
open Go.RowKit Go.Sort
set_option linter.unusedVariables false
set_option linter.unusedSimpArgs false

section
variable {P : Program} {T : Nat → TI} {ρ : Env} {w w' : World} {M : Nat → Prop} {n : Nat} {h : Hp}
theorem fold_set : ∀ (cs : List Value) (k off : Nat) (cur : Array Value), off + k + cs.length ≤ cur.size →
    (cs.zipIdx k).foldl (fun c (p : Value × Nat) => c.setIfInBounds (off + p.2) p.1) cur = (cur.toList.take (off + k) ++ cs ++ cur.toList.drop (off + k + cs.length)).toArray
  | [], k, off, cur, h => by simp
  | c :: cs, k, off, cur, h => by
    simp only [List.length_cons] at h
    rw [List.zipIdx_cons, List.foldl_cons, fold_set cs (k + 1) off _ (by simp; omega)]
    have hlt : off + k < cur.toList.length := by rw [Array.length_toList]; omega
    apply congrArg
    simp only [Array.toList_setIfInBounds]
    rw [← Nat.add_assoc, List.take_add_one, List.take_set_of_le (by omega), List.getElem?_set_self hlt, List.drop_set_of_lt (by omega)]
    simp only [Option.toList_some, List.append_assoc, List.singleton_append, List.length_cons]
    congr 3
    omega
theorem fill_run {place : Nat → Option (Nat × Nat)} : ∀ (ps : List (Nat × AV)) (vs : List (Nat × Value)) (l' : List (Nat × List AV)) (z cs' : List AV) (cur : Array Value),
    (ps.map (·.1) = vs.map (·.1)) → RelVs ρ w M (ps.map (·.2)) (vs.map (·.2)) → (∀ p ∈ ps, p.2 ≠ .top) → partsA.go place ps = some l' → RelVs ρ w M z cur.toList → fillA z l' = some cs' →
    ∃ cur', Instr.fill place cur vs = some cur' ∧ RelVs ρ w M cs' cur'.toList
  | [], vs, l', z, cs', cur, hi, hr, ht, hp, hz, hf => by
    simp at hi
    subst hi
    simp [partsA.go] at hp
    subst hp
    simp [fillA] at hf
    subst hf
    exact ⟨cur, rfl, hz⟩
  | (i, av) :: ps, vs, l', z, cs', cur, hi, hr, ht, hp, hz, hf => by
    cases vs with
    | nil => simp at hi
    | cons q vs =>
      obtain ⟨j, v⟩ := q
      simp only [List.map_cons, List.cons.injEq] at hi
      obtain ⟨rfl, hi⟩ := hi
      obtain ⟨v', rest, hv, hav, hr⟩ := hr
      simp only [List.map_cons, List.cons.injEq] at hv
      obtain ⟨rfl, rfl⟩ := hv
      simp only [partsA.go] at hp
      cases hpl : place i with
      | none => simp [hpl] at hp
      | some os =>
        obtain ⟨off, size⟩ := os
        cases hg : partsA.go place ps with
        | none => simp [hpl, hg] at hp
        | some l =>
          simp only [hpl, hg] at hp
          cases hb : (cellsOf av).length == size with
          | false => simp [hb] at hp
          | true =>
            simp [hb] at hp
            subst hp
            have hsz : (cellsOf av).length = size := by simpa using hb
            have hav : RelV ρ w M av v := hav
            have hcr := cells_rel hav (ht (i, av) (by simp))
            have hcl := RelVs.length _ _ hcr
            simp only [fillA] at hf
            cases hle : Nat.ble (off + (cellsOf av).length) z.length with
            | false => simp [hle] at hf
            | true =>
              simp [hle] at hf
              have hle := Nat.le_of_ble_eq_true hle
              have hzl := RelVs.length _ _ hz
              have q1 : v.cells.toList.length = v.cells.size := Array.length_toList
              have q2 : cur.toList.length = cur.size := Array.length_toList
              have hfit : off + 0 + v.cells.toList.length ≤ cur.size := by omega
              have hfold := fold_set v.cells.toList 0 off cur hfit
              have hset := setMany_rel hz hcr hle
              obtain ⟨cur', h1, h2⟩ := fill_run ps vs l _ cs' (cur.toList.take off ++ v.cells.toList ++ cur.toList.drop (off + v.cells.toList.length)).toArray hi hr (fun p hp => ht p (by simp [hp])) hg (by simpa using hset) hf
              refine ⟨cur', ?_, h2⟩
              simp only [Instr.fill, hpl]
              rw [if_neg (by simp only [Bool.or_eq_true, decide_eq_true_eq]; omega)]
              have e1 : v.cells.zipIdx.foldl (fun cs (c, j) => cs.setIfInBounds (off + j) c) cur = (cur.toList.take off ++ v.cells.toList ++ cur.toList.drop (off + v.cells.toList.length)).toArray := by
                have e2 : v.cells.zipIdx = (v.cells.toList.zipIdx 0).toArray := by apply Array.ext'; simp
                rw [e2, List.foldl_toArray]
                simpa using hfold
              rw [e1]
              exact h1
theorem evp_rel {st : St} {a : Act} (hs : RepS ρ st a w) : ∀ (ps : List (Nat × Operand)), (evp st ps).map (·.1) = (ps.map fun p => (p.1, a.eval p.2)).map (·.1) ∧ RelVs ρ w (Mut ρ st.h) ((evp st ps).map (·.2)) ((ps.map fun p => (p.1, a.eval p.2)).map (·.2))
  | [] => ⟨rfl, rfl⟩
  | (i, o) :: ps => by
    obtain ⟨h1, h2⟩ := evp_rel hs ps
    refine ⟨?_, ?_⟩
    · simp only [evp, List.map_cons]
      rw [h1]
    · simp only [evp, List.map_cons]
      exact ⟨_, _, rfl, ev_rel hs o, h2⟩
theorem noTop_spec : ∀ (ps : List (Nat × AV)), noTop ps = true → ∀ p ∈ ps, p.2 ≠ .top
  | [], _, p, hp => by cases hp
  | (i, v) :: r, h, p, hp => by
    rcases List.mem_cons.1 hp with rfl | hp
    · intro e
      dsimp only at e
      subst e
      simp [noTop] at h
    · refine noTop_spec r ?_ p hp
      cases v <;> first | exact h | simp [noTop] at h
theorem zeros_rel (hT : TysOK P T) {t : Nat} {z : List AV} (hs0 : (T t).size ≠ 0) (hz : zerosOf T t = some z) : ∃ zv, (∀ u, (zeroValue t).run P u = .ok zv u) ∧ RelVs ρ w M z zv.cells.toList ∧ (∀ d, (T t).zero = some d → z = d.map .d ∧ d.length = zv.cells.size) := by
  unfold zerosOf Ab.ty at hz
  cases hd : (T t).zero with
  | none => rw [hd] at hz; cases hz
  | some d =>
    rw [hd] at hz
    simp only [Option.map_some, Option.some.injEq] at hz
    subst hz
    obtain ⟨i, zv, hi, hiz, hzd, -⟩ := hT.zero hs0 hd
    refine ⟨zv, fun u => by simp [zeroValue, typeInfo, hi, hiz], RelDs.rels _ _ (zeroD_rel hzd), fun d' e => ?_⟩
    cases e
    exact ⟨rfl, by rw [RelDs.length _ _ (zeroD_rel (w := w) (M := M) hzd), Array.length_toList]⟩
theorem build_gives (hT : TysOK P T) {K : AV → Prop} {st : St} {a : Act} {t : Nat} {ps : List (Nat × Operand)} (hs : RepS ρ st a w) (h : buildA T t (evp st ps) K) :
    GivesA P ρ w (Mut ρ st.h) K (Instr.build t (ps.map fun p => (p.1, a.eval p.2)).toArray) := by
  unfold buildA Ab.ty at h
  obtain ⟨hb, h1⟩ := bif_true h not_false
  clear h
  simp only [Bool.and_eq_true] at hb
  obtain ⟨hnt, hb⟩ := hb
  have hs0 : (T t).size ≠ 0 := by have := Nat.le_of_ble_eq_true hb; omega
  cases hz : zerosOf T t with
  | none => simp [hz] at h1
  | some z =>
    cases hp : partsA T t (evp st ps) with
    | none => simp [hz, hp] at h1
    | some l =>
      simp only [hz, hp] at h1
      cases hf : fillA z l with
      | none => simp [hf] at h1
      | some cs =>
        simp only [hf] at h1
        obtain ⟨zv, hzr, hzrel, -⟩ := zeros_rel (P := P) (w := w) (ρ := ρ) (M := Mut ρ st.h) hT hs0 hz
        obtain ⟨e1, e2⟩ := evp_rel hs ps
        unfold partsA Ab.ty at hp
        split at hp
        · rename_i fs hu
          obtain ⟨gs, hg, rfl⟩ := hT.struct hu
          cases hall : ((gs.toList.map fun f => (f.offset, f.type)).all fun f => Nat.blt 0 (T f.2).size) with
          | false => simp only [hall, cond_false] at hp; cases hp
          | true =>
            simp only [hall, cond_true] at hp
            obtain ⟨cur', h2, h3⟩ := fill_run _ _ _ _ _ zv.cells e1 e2 (noTop_spec _ hnt) hp hzrel hf
            have hmap : ∀ u, (gs.mapM fun (f : Field) => (do pure (f.offset, ← sizeOf f.type) : Sem (Nat × Nat))).run P u = .ok (gs.map fun f => (f.offset, (T f.type).size)) u := by
              intro u
              have key : ∀ (l : List Field), (∀ f ∈ l, (T f.type).size ≠ 0) → (l.mapM fun (f : Field) => (do pure (f.offset, ← sizeOf f.type) : Sem (Nat × Nat))).run P u = .ok (l.map fun f => (f.offset, (T f.type).size)) u := by
                intro l
                induction l with
                | nil => intro _; rfl
                | cons f l ih =>
                  intro hl
                  rw [List.mapM_cons]
                  have h7 := hT.size (hl f (by simp)) u
                  have h8 := ih (fun g hg => hl g (by simp [hg]))
                  simp only [Sem.run_bind, Sem.run_pure, h7, h8, Result.andThen, List.map_cons]
              have h4 := key gs.toList (by
                intro f hf
                rw [List.all_eq_true] at hall
                have := hall (f.offset, f.type) (List.mem_map.2 ⟨f, hf, rfl⟩)
                have := Nat.le_of_ble_eq_true this
                dsimp only at this
                omega)
              have h5 : gs = gs.toList.toArray := by simp
              rw [h5, List.mapM_toArray]
              rw [show (List.toArray <$> gs.toList.mapM fun (f : Field) => (do pure (f.offset, ← sizeOf f.type) : Sem (Nat × Nat))) = (gs.toList.mapM (fun (f : Field) => (do pure (f.offset, ← sizeOf f.type) : Sem (Nat × Nat))) >>= fun a => pure a.toArray) from rfl]
              rw [Sem.run_bind, h4]
              simp only [Result.andThen, Sem.run_pure]
              congr 1
              apply Array.ext'
              rw [Array.toList_map]
            refine ⟨_, .agg cur', h1, mkAgg_rel h3, fun u _ => ?_⟩
            have h6 : (fun i : Nat => ((gs.toList.map fun (f : Field) => (f.offset, f.type))[i]?).map fun (f : Nat × Nat) => (f.1, (T f.2).size)) = (fun i : Nat => (gs.map fun (f : Field) => (f.offset, (T f.type).size))[i]?) := by
              funext i
              rw [List.getElem?_map, Array.getElem?_map, Array.getElem?_toList, Option.map_map]
              rfl
            rw [h6] at h2
            simp only [Instr.build, Sem.run_bind, hzr, Result.andThen, run_underlying hg, hmap, h2, Sem.run_pure]
        · rename_i len e hu
          cases hb2 : Nat.blt 0 (T e).size with
          | false => simp [hb2] at hp
          | true =>
            simp only [hb2, cond_true] at hp
            have hse : (T e).size ≠ 0 := by have := Nat.le_of_ble_eq_true hb2; omega
            obtain ⟨cur', h2, h3⟩ := fill_run _ _ _ _ _ zv.cells e1 e2 (noTop_spec _ hnt) hp hzrel hf
            refine ⟨_, .agg cur', h1, mkAgg_rel h3, fun u _ => ?_⟩
            simp [Instr.build, hzr, run_underlying (hT.array hu), hT.size hse, h2]
        · cases hp
end
end Go.Proofs.Yteakfibolfapiaa.Ab
