/- The executor is sound: loads, addresses, parts. -/
import Derived.Test.YteakfibolfapiaaTrAb5
namespace Go.Proofs.Yteakfibolfapiaa.Ab
open Go.RowKit Go.Sort
set_option linter.unusedVariables false
set_option linter.unusedSimpArgs false

section
variable {P : Program} {T : Nat → TI} {ρ : Env} {w : World} {M : Nat → Prop}
theorem part_rel {l : List AV} {cs : List Value} {off size : Nat} {v : AV} (h : RelVs ρ w M l cs) (hp : partOf l off size true = some v) :
    off + size ≤ cs.length ∧ RelV ρ w M v (.agg ((cs.drop off).take size).toArray) := by
  unfold partOf at hp
  cases hb : Nat.ble (off + size) l.length with
  | false => simp [hb] at hp
  | true =>
    simp [hb] at hp
    have hle := Nat.le_of_ble_eq_true hb
    have hlen := RelVs.length _ _ h
    subst hp
    exact ⟨by omega, mkAgg_rel (by simpa using RelVs.take _ _ (RelVs.drop _ _ h off) size)⟩
theorem part_one {l : List AV} {cs : List Value} {off size : Nat} {v : AV} (h : RelVs ρ w M l cs) (hp : partOf l off size false = some v) :
    ∃ x, cs[off]? = some x ∧ RelV ρ w M v x := by
  unfold partOf at hp
  cases hb : Nat.ble (off + size) l.length with
  | false => simp [hb] at hp
  | true =>
    cases hs : (size == 1) with
    | false => simp [hb, hs] at hp
    | true =>
      simp [hb, hs] at hp
      exact RelVs.get _ _ h off v hp
theorem steps_get : ∀ (n off c : Nat) (l xs : List AV), stepsA l off c n = some xs → xs.length = n ∧ ∀ j, j < n → xs[j]? = l[off + j * c]?
  | 0, off, c, l, xs, h => by simp [stepsA] at h; subst h; exact ⟨rfl, fun j hj => absurd hj (Nat.not_lt_zero _)⟩
  | n + 1, off, c, l, xs, h => by
    simp only [stepsA] at h
    cases hx : l[off]? with
    | none => simp [hx] at h
    | some x =>
      cases hr : stepsA l (off + c) c n with
      | none => simp [hx, hr] at h
      | some r =>
        simp [hx, hr] at h
        subst h
        obtain ⟨h1, h2⟩ := steps_get n (off + c) c l r hr
        refine ⟨by simp [h1], fun j hj => ?_⟩
        cases j with
        | zero => simp [hx]
        | succ j =>
          have := h2 j (by omega)
          simp only [List.getElem?_cons_succ]
          rw [this, Nat.add_mul]
          congr 1
          omega
theorem sel_ints {k : IntKind} : ∀ (l : List AV) (xs : List Int), selA.ints k l = some xs → l = xs.map fun x => .d (.int k x)
  | [], xs, h => by simp [selA.ints] at h; subst h; rfl
  | v :: r, xs, h => by
    unfold selA.ints at h
    split at h
    · rename_i heq; cases heq
    · rename_i k' x r' heq
      obtain ⟨rfl, rfl⟩ := List.cons.inj heq
      cases hb : decide (k = k') with
      | false => simp [hb] at h
      | true =>
        have : k = k' := by simpa using hb
        subst this
        cases hr : selA.ints k r with
        | none => simp [hr] at h
        | some ys =>
          simp [hr] at h
          subst h
          rw [sel_ints r ys hr]
          rfl
    · cases h
theorem sel_strs : ∀ (l : List AV) (xs : List (List UInt8)), selA.strs l = some xs → l = xs.map fun x => .d (.str x)
  | [], xs, h => by simp [selA.strs] at h; subst h; rfl
  | v :: r, xs, h => by
    unfold selA.strs at h
    split at h
    · rename_i heq; cases heq
    · rename_i x r' heq
      obtain ⟨rfl, rfl⟩ := List.cons.inj heq
      cases hr : selA.strs r with
      | none => simp [hr] at h
      | some ys =>
        simp [hr] at h
        subst h
        rw [sel_strs r ys hr]
        rfl
    · cases h
theorem sel_bools : ∀ (l : List AV) (xs : List Bool), selA.bools l = some xs → l = xs.map fun x => .d (.bool x)
  | [], xs, h => by simp [selA.bools] at h; subst h; rfl
  | v :: r, xs, h => by
    unfold selA.bools at h
    split at h
    · rename_i heq; cases heq
    · rename_i x r' heq
      obtain ⟨rfl, rfl⟩ := List.cons.inj heq
      cases hr : selA.bools r with
      | none => simp [hr] at h
      | some ys =>
        simp [hr] at h
        subst h
        rw [sel_bools r ys hr]
        rfl
    · cases h
/-- What a letter picks is one of them. -/
theorem sel_eq {i : Int} {xs : List AV} {v : AV} (h : selA real i xs = some v) {x : AV} (hx : xs[i.toNat]? = some x) : v = x := by
  unfold selA at h
  split at h
  · rename_i k x0 r
    cases hr : selA.ints k r with
    | none => simp [hr] at h
    | some ys =>
      simp [hr] at h
      subst h
      rw [sel_ints r ys hr, ← List.map_cons (f := fun x => AV.d (.int k x)), List.getElem?_map] at hx
      simp only [real]
      rw [List.getD_eq_getElem?_getD]
      cases hg : (x0 :: ys)[i.toNat]? with
      | none => rw [hg] at hx; simp at hx
      | some y => rw [hg] at hx; simpa using hx
  · rename_i x0 r
    cases hr : selA.strs r with
    | none => simp [hr] at h
    | some ys =>
      simp [hr] at h
      subst h
      rw [sel_strs r ys hr, ← List.map_cons (f := fun x => AV.d (.str x)), List.getElem?_map] at hx
      simp only [real]
      rw [List.getD_eq_getElem?_getD]
      cases hg : (x0 :: ys)[i.toNat]? with
      | none => rw [hg] at hx; simp at hx
      | some y => rw [hg] at hx; simpa using hx
  · rename_i x0 r
    cases hr : selA.bools r with
    | none => simp [hr] at h
    | some ys =>
      simp [hr] at h
      subst h
      rw [sel_bools r ys hr, ← List.map_cons (f := fun x => AV.d (.bool x)), List.getElem?_map] at hx
      simp only [real]
      rw [List.getD_eq_getElem?_getD]
      cases hg : (x0 :: ys)[i.toNat]? with
      | none => rw [hg] at hx; simp at hx
      | some y => rw [hg] at hx; simpa using hx
  · cases h

theorem obj_cells {n : Nat} {h : Hp} {id : Nat} {l : List AV} (r : Rep ρ n h w) (hg : hget h id = some (.cells l)) :
    ∃ b cs ty, ρ id = some (.pointer (some ⟨b, 0, none⟩)) ∧ w.heap[b]? = some (.cells cs ty (0, 0)) ∧ RelVs ρ w (Mut ρ h) l cs.toList := r.objs id _ (hget_mem hg)
theorem obj_row {n : Nat} {h : Hp} {id c : Nat} {l : List (List D)} (r : Rep ρ n h w) (hg : hget h id = some (.row c l)) :
    ∃ v xs ty, ρ id = some v ∧ 0 < c ∧ w.ownsRow 0 ty c v l.length xs ∧ (∀ r ∈ l, r.length = c) ∧ RelRows w (Mut ρ h) l xs := r.objs id _ (hget_mem hg)

theorem load_gives (hT : TysOK P T) {K : AV → Prop} {st : St} {a : Act} {t : Nat} {x : AV} {vx : Value} (hs : RepS ρ st a w) (hx : RelV ρ w (Mut ρ st.h) x vx) (h : loadA T real st t x K) :
    Gives P ρ w (Mut ρ st.h) K (Instr.loadAt t vx) := by
  have fin : ∀ ad : Addr, Gives P ρ w (Mut ρ st.h) K (loadVar t ad) → Gives P ρ w (Mut ρ st.h) K (Instr.loadAt t (.pointer (some ad))) := by
    rintro ad ⟨av, v, h1, h2, h3⟩
    exact ⟨av, v, h1, h2, by simp [Instr.loadAt, Instr.sureAddr, h3]⟩
  cases x with
  | ptr id off =>
    obtain ⟨b, hb, rfl⟩ := hx
    refine fin _ ?_
    simp only [loadA, ty] at h
    cases hg : hget st.h id with
    | none => simp [hg] at h
    | some o =>
      cases o with
      | row c l => simp [hg] at h
      | mp k m => simp [hg] at h
      | it k e m c0 => simp [hg] at h
      | sit s p => simp [hg] at h
      | bag s p => simp [hg] at h
      | cells l =>
        simp only [hg] at h
        obtain ⟨b', cs, e, hb', hcs, hl⟩ := obj_cells hs.rep hg
        obtain rfl : b = b' := by rw [hb] at hb'; simpa using hb'
        have hsz : (T t).size ≠ 0 ∨ isAggT (T t) = true := by
          cases ha : isAggT (T t) with
          | true => exact .inr rfl
          | false =>
            refine .inl fun e => ?_
            rw [ha, e] at h
            unfold partOf at h
            cases hb : Nat.ble (off + 0) l.length <;> simp [hb] at h
        cases ha : isAggT (T t) with
        | true =>
          rw [ha] at h
          cases hp : partOf l off (T t).size true with
          | none => simp [hp] at h
          | some v =>
            simp only [hp] at h
            obtain ⟨hle, hr⟩ := part_rel hl hp
            by_cases hs0 : (T t).size = 0
            · have hu : (T t).u ≠ .other := by
                intro e; unfold isAggT at ha; rw [e] at ha; simp at ha
              obtain ⟨ti, d, hti, hd, hu2, hs2, -⟩ := hT.of_u rfl hu
              have hz : ti.size = 0 := by rw [← hs2, hs0]
              refine ⟨v, _, h, hr, ?_⟩
              simp [loadVar, hT.agg_u hu, ha, sizeOf, typeInfo, hti, hz, loadCells, loadCellsFrom, hs0]
            · refine ⟨v, _, h, hr, run_load_agg hT hs0 ha _ ((cs.toList.drop off).take (T t).size) (by rw [List.length_take, List.length_drop]; omega) ?_⟩
              intro j y hj
              rw [cells_at hcs]
              rw [List.getElem?_take] at hj
              split at hj
              · rw [List.getElem?_drop] at hj
                rw [← hj, Array.getElem?_toList]
              · cases hj
        | false =>
          rw [ha] at h
          have hs0 : (T t).size ≠ 0 := hsz.resolve_right (by rw [ha]; decide)
          cases hp : partOf l off (T t).size false with
          | none => simp [hp] at h
          | some v =>
            simp only [hp] at h
            obtain ⟨y, hy, hr⟩ := part_one hl hp
            refine ⟨v, y, h, hr, run_load_one hT hs0 ha _ y ?_⟩
            rw [Tr.cell_blk hcs]
            rw [← hy, Array.getElem?_toList]
  | iptr l i f =>
    obtain ⟨b, off, cs, e, fz, c, rfl, h0, hb, hm, hl, hr⟩ := hx
    refine fin _ ?_
    simp only [loadA, ty] at h
    exact (load_row hT hb hl hr h0 h.1 h.2).gives rfl
  | rptr id c i f =>
    obtain ⟨g, n, cap, hg, h0, rfl⟩ := hx
    refine fin _ ?_
    simp only [loadA, ty] at h
    cases ho : hget st.h id with
    | none => simp [ho] at h
    | some o =>
      cases o with
      | cells l => simp [ho] at h
      | mp k m => simp [ho] at h
      | it k e m c0 => simp [ho] at h
      | sit s p => simp [ho] at h
      | bag s p => simp [ho] at h
      | row c' l =>
        simp only [ho] at h
        obtain ⟨rfl, hok, h⟩ := h
        obtain ⟨v, xs, e, hv, hc, hown, hl, hr⟩ := obj_row hs.rep ho
        rw [hg] at hv
        obtain rfl := Option.some.inj hv
        rcases hown.2 with ⟨hv, -⟩ | ⟨g', cap', cur, hv, hb, hgg, hcap, hmx, hsz, ht⟩
        · cases hv
        · simp only [Value.slice.injEq, Option.some.injEq, Addr.mk.injEq, and_true] at hv
          obtain ⟨rfl, rfl, rfl⟩ := hv
          have hpre : ∀ (l : List (List D)) (ys zs : List Value), (∀ r ∈ l, r.length = c') → RelRows w (Mut ρ st.h) l ys → RelRows w (Mut ρ st.h) l (ys ++ zs) ∨ ys.length < l.length * c' := by
            intro l
            induction l with
            | nil => intro ys zs _ _; exact .inl trivial
            | cons r rest ih =>
              intro ys zs hl hr
              obtain ⟨h1, h2⟩ := hr
              have hrl := hl r (by simp)
              have hlen := RelDs.length _ _ h1
              rw [List.length_take] at hlen
              rcases ih (ys.drop r.length) zs (fun x hx => hl x (by simp [hx])) h2 with h3 | h3
              · refine .inl ⟨?_, ?_⟩
                · rw [List.take_append_of_le_length (by omega)]; exact h1
                · rw [List.drop_append_of_le_length (by omega)]; exact h3
              · refine .inr ?_
                rw [List.length_drop] at h3
                rw [List.length_cons, Nat.add_mul]
                omega
          have hrr : RelRows w (Mut ρ st.h) l (cur.toList.drop 0) := by
            rw [List.drop_zero, ← List.take_append_drop (l.length * c') cur.toList, ht]
            rcases hpre l xs _ hl hr with h | h
            · exact h
            · rw [hown.1] at h; exact absurd h (Nat.lt_irrefl _)
          have := (load_row (ρ := ρ) (c := c') hT hgg hl hrr h0 hok h).gives rfl
          rwa [Nat.zero_add] at this
  | aptr id off n c i f =>
    obtain ⟨b, hb, h0, hin, rfl⟩ := hx
    refine fin _ ?_
    simp only [loadA, ty] at h
    cases hg : hget st.h id with
    | none => simp [hg] at h
    | some o =>
      cases o with
      | row c l => simp [hg] at h
      | mp k m => simp [hg] at h
      | it k e m c0 => simp [hg] at h
      | sit s p => simp [hg] at h
      | bag s p => simp [hg] at h
      | cells l =>
        simp only [hg] at h
        obtain ⟨b', cs, e, hb', hcs, hl⟩ := obj_cells hs.rep hg
        obtain rfl : b = b' := by rw [hb] at hb'; simpa using hb'
        cases ha : isAggT (T t) with
        | true => simp [ha] at h
        | false =>
          simp only [ha, cond_false] at h
          obtain ⟨hs1, h⟩ := bif_true h not_false
          have hs1 : (T t).size = 1 := by simpa using hs1
          cases hst : stepsA l (off + f) c n with
          | none => simp [hst] at h
          | some xs =>
            simp only [hst] at h
            cases hse : selA real i xs with
            | none => simp [hse] at h
            | some v =>
              simp only [hse] at h
              obtain ⟨hxl, hxs⟩ := steps_get n (off + f) c l xs hst
              have hiN : i.toNat < n := by omega
              obtain ⟨y, hy⟩ : ∃ y, xs[i.toNat]? = some y := ⟨xs[i.toNat]'(by omega), List.getElem?_eq_getElem (by omega)⟩
              obtain rfl := sel_eq hse hy
              rw [hxs _ hiN] at hy
              obtain ⟨z, hz, hr⟩ := RelVs.get _ _ hl _ _ hy
              refine ⟨v, z, h, hr, run_load_one hT (by omega) ha _ z ?_⟩
              rw [Tr.cell_blk hcs, ← Array.getElem?_toList, ← hz]
              congr 1
              omega
  | _ => simp [loadA] at h
/-- A load of what never turns. -/
def isImmP : AV → Bool
  | .iptr _ _ _ => true
  | _ => false
theorem load_imm (hT : TysOK P T) {K : AV → Prop} {st : St} {t : Nat} {x : AV} {vx : Value} (hi : isImmP x = true) (hx : RelV ρ w M x vx) (h : loadA T real st t x K) :
    GivesU P ρ w M (fun u => ∀ b o, w.heap[b]? = some o → ¬ M b → u.heap[b]? = some o) K (Instr.loadAt t vx) := by
  cases x with
  | iptr l i f =>
    obtain ⟨b, off, cs, e, fz, c, rfl, h0, hb, hm, hl, hr⟩ := hx
    simp only [loadA, ty] at h
    obtain ⟨av, v, h1, h2, h3⟩ := load_row (ρ := ρ) (M := M) hT hb hl hr h0 h.1 h.2
    exact ⟨av, v, h1, h2, fun u hu => by simp [Instr.loadAt, Instr.sureAddr, h3 u (show u.heap[b]? = w.heap[b]? from (hu b _ hb hm).trans hb.symm)]⟩
  | _ => simp [isImmP] at hi
end
end Go.Proofs.Yteakfibolfapiaa.Ab
