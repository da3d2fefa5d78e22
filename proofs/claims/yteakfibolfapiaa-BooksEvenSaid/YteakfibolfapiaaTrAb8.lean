/- The executor is sound: stores. -/
import Derived.Test.YteakfibolfapiaaTrAb7
namespace Go.Proofs.Yteakfibolfapiaa.Ab
open Go.RowKit Go.Sort
set_option linter.unusedVariables false
set_option linter.unusedSimpArgs false

section
variable {P : Program} {T : Nat → TI} {ρ : Env} {w : World} {M : Nat → Prop}
theorem flat_one {v : AV} {x : Value} (hf : flatV v = true) (h : RelV ρ w M v x) : x.oneCell' = true := by
  cases v with
  | d y =>
    refine RelD.oneCell h (fun l e => ?_)
    subst e
    simp [flatV] at hf
  | ptr id off => obtain ⟨b, hb, rfl⟩ := h; rfl
  | iptr l i f => obtain ⟨b, off, cs, e, fz, c, rfl, -⟩ := h; rfl
  | rptr id c i f => obtain ⟨g, n, cap, hb, h0, rfl⟩ := h; rfl
  | aptr id off n c i f => obtain ⟨b, hb, h0, h1, rfl⟩ := h; rfl
  | sl id => obtain ⟨hb, a, n, cap, rfl⟩ := h; rfl
  | map id => obtain ⟨hb, r, rfl⟩ := h; rfl
  | iter id => obtain ⟨hb, r, rfl⟩ := h; rfl
  | agg l => simp [flatV] at hf
  | tup l => simp [flatV] at hf
  | fn f c => obtain ⟨cs, rfl, -⟩ := h; rfl
  | ifc t x => obtain ⟨cs, rfl, -⟩ := h; rfl
  | top => simp [flatV] at hf
  | raw v0 => obtain ⟨rfl, a, n, cap, rfl⟩ := h; rfl
theorem flat_all : ∀ (l : List AV) (vs : List Value), flatVs l = true → RelVs ρ w M l vs → ∀ u ∈ vs, u.oneCell' = true
  | [], vs, _, r, u, hu => by rw [show vs = [] from r] at hu; cases hu
  | v :: l, vs, hf, ⟨x, rest, hv, r1, r2⟩, u, hu => by
    subst hv
    simp only [flatVs] at hf
    cases hfv : flatV v with
    | false => simp [hfv] at hf
    | true =>
      simp [hfv] at hf
      rcases List.mem_cons.1 hu with rfl | hu
      · exact flat_one hfv r1
      · exact flat_all l rest hf r2 u hu
theorem flat_top : ∀ {v : AV}, flatVs (cellsOf v) = true → v ≠ .top := by
  rintro v h rfl
  simp [cellsOf, flatVs, flatV] at h
theorem setMany_eq : ∀ (vs l : List AV) (off : Nat), off + vs.length ≤ l.length → setMany l off vs = l.take off ++ vs ++ l.drop (off + vs.length)
  | [], l, off, _ => by simp [setMany]
  | v :: vs, l, off, h => by
    simp only [List.length_cons] at h
    rw [setMany, setMany_eq vs (l.set off v) (off + 1) (by simp; omega)]
    have e1 : (l.set off v).take (off + 1) = l.take off ++ [v] := by
      rw [List.take_add_one]
      rw [List.take_set_of_le (by omega)]
      rw [List.getElem?_set_self (by omega)]
      rfl
    have e2 : (l.set off v).drop (off + 1 + vs.length) = l.drop (off + (v :: vs).length) := by
      rw [List.drop_set_of_lt (by omega), List.length_cons]
      congr 1; omega
    rw [e1, e2]
    simp
theorem setMany_rel {l vs : List AV} {cs xs : List Value} {off : Nat} (h : RelVs ρ w M l cs) (hv : RelVs ρ w M vs xs) (hle : off + vs.length ≤ l.length) :
    RelVs ρ w M (setMany l off vs) (cs.take off ++ xs ++ cs.drop (off + xs.length)) := by
  rw [setMany_eq vs l off hle, ← RelVs.length _ _ hv]
  exact RelVs.append _ _ _ _ (RelVs.append _ _ _ _ (RelVs.take _ _ h off) hv) (RelVs.drop _ _ h _)
theorem RelRows.mk {c : Nat} : ∀ (l : List (List D)) (vs : List Value), (∀ r ∈ l, r.length = c) → (∀ (i : Nat) (r : List D), l[i]? = some r → RelDs w M r ((vs.drop (i * c)).take c)) → RelRows w M l vs
  | [], vs, _, _ => trivial
  | r :: rest, vs, hl, h => by
    have hr := hl r (by simp)
    refine ⟨?_, RelRows.mk rest _ (fun x hx => hl x (by simp [hx])) (fun i r' hi => ?_)⟩
    · have := h 0 r (by simp)
      rw [hr]
      simpa using this
    · have := h (i + 1) r' (by simpa using hi)
      rw [List.drop_drop, hr]
      rw [Nat.add_mul, Nat.one_mul, Nat.add_comm] at this
      exact this
theorem ite_eq {i : Int} {j : Nat} {v old x : AV} (h : iteA real i j v old = some x) : x = if i = (j : Int) then v else old := by
  unfold iteA at h
  split at h
  · rename_i k a k' b
    cases hb : decide (k = k') with
    | false => simp [hb] at h
    | true =>
      have : k = k' := by simpa using hb
      subst this
      simp only [decide_true, cond_true, Option.some.injEq] at h
      subst h
      simp only [real]
      split <;> rfl
  · simp only [Option.some.injEq] at h
    subst h
    simp only [real]
    split <;> rfl
  · simp only [Option.some.injEq] at h
    subst h
    simp only [real]
    split <;> rfl
  · cases h
theorem setA_eq {i : Int} {v : AV} {c : Nat} : ∀ (n : Nat) (l l' : List AV) (off j : Nat), setA real i v l off c j n = some l' → 
    l' = if (j : Int) ≤ i ∧ i < j + n then l.set (off + (i.toNat - j) * c) v else l
  | 0, l, l', off, j, h => by
    simp [setA] at h
    subst h
    rw [if_neg (by omega)]
  | n + 1, l, l', off, j, h => by
    simp only [setA] at h
    cases ho : l[off]? with
    | none => simp [ho] at h
    | some old =>
      simp only [ho] at h
      cases hx : iteA real i j v old with
      | none => simp [hx] at h
      | some x =>
        simp only [hx] at h
        have hxe := ite_eq hx
        have ih := setA_eq n _ _ _ _ h
        by_cases he : i = (j : Int)
        · rw [if_pos he] at hxe
          subst hxe
          rw [if_neg (by omega)] at ih
          rw [if_pos (by omega), ih]
          congr 1
          have : i.toNat - j = 0 := by omega
          rw [this]; omega
        · rw [if_neg he] at hxe
          subst hxe
          have hself : l.set off x = l := by
            apply List.ext_getElem?
            intro k
            rw [List.getElem?_set]
            split
            · rename_i e
              subst e
              split
              · exact ho.symm
              · rename_i hlt
                rw [List.getElem?_eq_none (by omega)] at ho; cases ho
            · rfl
          rw [hself] at ih
          by_cases hr : ((j + 1 : Nat) : Int) ≤ i ∧ i < (j + 1 : Nat) + n
          · rw [if_pos hr] at ih
            rw [if_pos (by omega), ih]
            congr 1
            have : i.toNat - j = (i.toNat - (j + 1)) + 1 := by omega
            rw [this, Nat.add_mul]
            omega
          · rw [if_neg hr] at ih
            rw [if_neg (by omega)]
            exact ih
theorem setA_has {i : Int} {v : AV} {c : Nat} : ∀ (n : Nat) (l l' : List AV) (off j : Nat), setA real i v l off c j n = some l' → ∀ k, k < n → ∃ o, l[off + k * c]? = some o
  | 0, l, l', off, j, h, k, hk => absurd hk (Nat.not_lt_zero _)
  | n + 1, l, l', off, j, h, k, hk => by
    simp only [setA] at h
    cases ho : l[off]? with
    | none => simp [ho] at h
    | some old =>
      simp only [ho] at h
      cases hx : iteA real i j v old with
      | none => simp [hx] at h
      | some x =>
        simp only [hx] at h
        cases k with
        | zero => exact ⟨old, by simpa using ho⟩
        | succ k =>
          obtain ⟨o, h2⟩ := setA_has n _ _ _ _ h k (by omega)
          have h3 := (List.getElem?_eq_some_iff.1 h2).1
          rw [List.length_set] at h3
          refine ⟨l[off + (k + 1) * c]'(by rw [Nat.add_mul]; omega), List.getElem?_eq_getElem _⟩
theorem setRow_old (w : World) (g : Nat) (cs : Array Value) : ∀ k, k ≠ g → (w.setRow g cs).heap[k]? = w.heap[k]? := fun k h => setRow_other w g k cs h
theorem setRow_size (w : World) (g : Nat) (cs : Array Value) : (w.setRow g cs).heap.size = w.heap.size := by simp [World.setRow]

theorem splice_get (a vs : List Value) (p k : Nat) (h : p + vs.length ≤ a.length) : (a.take p ++ vs ++ a.drop (p + vs.length))[k]? = if k < p then a[k]? else if k < p + vs.length then vs[k - p]? else a[k]? := by
  rw [List.append_assoc, List.getElem?_append, List.length_take, List.getElem?_append, List.getElem?_take, List.getElem?_drop]
  have : min p a.length = p := by omega
  rw [this]
  by_cases h1 : k < p
  · rw [if_pos h1, if_pos h1, if_pos h1]
  · rw [if_neg h1, if_neg h1]
    by_cases h2 : k < p + vs.length
    · rw [if_pos (by omega), if_pos h2]
    · rw [if_neg (by omega), if_neg h2]
      congr 1
      omega
theorem window_get (a : List Value) (m p c k : Nat) (h : p + c ≤ m) : (((a.take m).drop p).take c)[k]? = if k < c then a[p + k]? else none := by
  rw [List.getElem?_take, List.getElem?_drop, List.getElem?_take]
  by_cases h1 : k < c
  · rw [if_pos h1, if_pos h1, if_pos (by omega)]
  · rw [if_neg h1, if_neg h1]
/-- What a store leaves. -/
def Stored (P : Program) (ρ : Env) (st : St) (w : World) (K : St → Prop) (s : Sem Unit) : Prop :=
  ∃ w' h', s.run P w = .ok () w' ∧ K { st with h := h' } ∧ Rep ρ st.n h' w' ∧ Goes st.n ρ st.h w ρ h' w'
theorem store_run (hT : TysOK P T) {t g off : Nat} {vx : Value} {cur : Array Value} {e : TypeId} (hs : (T t).size ≠ 0) (hl : vx.cells.size = (T t).size) (hg : w.heap[g]? = some (.cells cur e (0, 0)))
    (hfit : off + vx.cells.size ≤ cur.size) (h1 : ∀ u ∈ vx.cells.toList, u.oneCell' = true) :
    (Instr.storeAt t (.pointer (some ⟨g, off, none⟩)) vx).run P w = .ok () (w.setRow g (cur.toList.take off ++ vx.cells.toList ++ cur.toList.drop (off + vx.cells.toList.length)).toArray) := by
  have h := run_storeCells_at P g off e vx.cells.toList 0 cur w hg (by simpa using hfit) h1
  simp only [Nat.add_zero] at h
  simp [Instr.storeAt, Instr.sureAddr, storeVar, hT.size hs, hl, h]
theorem store_sound (hT : TysOK P T) {K : St → Prop} {st : St} {a : Act} {t : Nat} {x v : AV} {vx vv : Value} (hs : RepS ρ st a w) (hx : RelV ρ w (Mut ρ st.h) x vx) (hv : RelV ρ w (Mut ρ st.h) v vv) (h : storeA T real st t x v K) :
    Stored P ρ st w K (Instr.storeAt t vx vv) := by
  unfold storeA ty at h
  obtain ⟨hc, h⟩ := bif_true h not_false
  simp only [Bool.and_eq_true, beq_iff_eq] at hc
  obtain ⟨⟨hlen, hflat⟩, hs0⟩ := hc
  have hs0 : (T t).size ≠ 0 := by
    have := Nat.le_of_ble_eq_true hs0
    omega
  have hcr := cells_rel hv (flat_top hflat)
  have hcl := RelVs.length _ _ hcr
  have hvl : vv.cells.size = (T t).size := by rw [← hlen, hcl, Array.length_toList]
  have h1 := flat_all _ _ hflat hcr
  cases x with
  | ptr id off =>
    obtain ⟨b, hb, rfl⟩ := hx
    dsimp only at h
    cases hg : hget st.h id with
    | none => simp [hg] at h
    | some o =>
      cases o with
      | row c l => simp [hg] at h
      | mp k m => simp [hg] at h
      | it k e m c0 => simp [hg] at h
      | sit s p => simp [hg] at h
      | bag s p => simp [hg] at h
      | cells l =>
        simp only [hg] at h
        obtain ⟨hle, h⟩ := bif_true h not_false
        have hle := Nat.le_of_ble_eq_true hle
        obtain ⟨b', cs, e, hb', hcs, hl⟩ := obj_cells hs.rep hg
        obtain rfl : b = b' := by rw [hb] at hb'; simpa using hb'
        have hll := RelVs.length _ _ hl
        have hrun := store_run (P := P) (w := w) (off := off) hT hs0 hvl hcs (by rw [hvl, ← Array.length_toList, ← hll]; exact hle) h1
        refine ⟨_, _, hrun, h, ?_, ?_⟩
        · refine hs.rep.set (hget_mem hg) hb rfl (fun k hk => setRow_old _ _ _ k hk) (fun hk => ⟨b, _, e, hb, setRow_heap w b cs _ e _ hcs, ?_⟩)
          have := setMany_rel hl hcr (off := off) (by rw [hlen]; exact hle)
          exact RelVs.mono (EnvSub.refl ρ) hk _ _ this
        · exact goes_set hs.rep (hget_mem hg) hb rfl (fun k hk => setRow_old _ _ _ k hk) rfl rfl rfl (setRow_size _ _ _)
  | rptr id c i f =>
    obtain ⟨g, n, cap, hg, h0, rfl⟩ := hx
    dsimp only at h
    cases ho : hget st.h id with
    | none => simp [ho] at h
    | some o =>
      cases o with
      | cells l => simp [ho] at h
      | mp k m => simp [ho] at h
      | it k e m c0 => simp [ho] at h
      | sit s p => simp [ho] at h
      | bag s p => simp [ho] at h
      | row c' l =>
        cases hd : dsOf (cellsOf v) with
        | none => simp [ho, hd] at h
        | some ds =>
          simp only [ho, hd] at h
          obtain ⟨⟨rfl, hin⟩, h⟩ := h
          obtain ⟨hle, h⟩ := bif_true h not_false
          have hle := Nat.le_of_ble_eq_true hle
          have hin : 0 ≤ i ∧ i < (l.length : Int) := by simpa [real] using hin
          obtain ⟨v', xs, e, hv', hc, hown, hl, hr⟩ := obj_row hs.rep ho
          rw [hg] at hv'
          obtain rfl := Option.some.inj hv'
          rcases hown.2 with ⟨hv', -⟩ | ⟨g', cap', cur, hv', hb, hgg, hcap, hmx, hsz, ht⟩
          · cases hv'
          · simp only [Value.slice.injEq, Option.some.injEq, Addr.mk.injEq, and_true] at hv'
            obtain ⟨rfl, hnl, rfl⟩ := hv'
            obtain ⟨q, hq⟩ : ∃ q, q = i.toNat := ⟨_, rfl⟩
            have hql : q < l.length := by omega
            have hqc : q * c' + c' ≤ l.length * c' := by
              have : (q + 1) * c' ≤ l.length * c' := Nat.mul_le_mul_right c' (by omega)
              rw [Nat.add_mul, Nat.one_mul] at this
              exact this
            have hlc : l.length * c' ≤ cap * c' := Nat.mul_le_mul_right c' hcap
            have hcv : cellsOf v = ds.map .d := dsOf_map _ _ hd
            have hdl : vv.cells.size = ds.length := by rw [hvl, ← hlen, hcv, List.length_map]
            have hfit : q * c' + f + vv.cells.size ≤ cur.size := by rw [hsz, hdl]; omega
            rw [← hq]
            have hrun := store_run (P := P) (w := w) (off := q * c' + f) hT hs0 hvl hgg hfit h1
            generalize hvs : vv.cells.toList = vs at *
            have hvsl : vs.length = ds.length := by rw [← hvs, Array.length_toList, hdl]
            refine ⟨_, _, hrun, h, ?_, ?_⟩
            · refine hs.rep.set (hget_mem ho) hg rfl (fun k hk => setRow_old _ _ _ k hk) (fun hk => ?_)
              refine ⟨_, (cur.toList.take (q * c' + f) ++ vs ++ cur.toList.drop (q * c' + f + vs.length)).take (l.length * c'), e, hg, hc, ⟨?_, .inr ⟨g, cap, _, ?_, Nat.zero_le _, setRow_heap w g cur _ e _ hgg, ?_, hmx, ?_, ?_⟩⟩, ?_, ?_⟩
              · simp only [List.length_take, List.length_append, List.length_drop, Array.length_toList, real, List.length_set]
                omega
              · simp [real, hnl]
              · simp only [real, List.length_set]; exact hcap
              · simp only [List.size_toArray, List.length_take, List.length_append, List.length_drop, Array.length_toList]
                omega
              · simp [real]
              · intro r hr'
                simp only [real] at hr'
                rw [← hq] at hr'
                rcases List.mem_or_eq_of_mem_set hr' with h2 | h2
                · exact hl r h2
                · have hrl : (l.getD q []).length = c' := hl _ (by rw [List.getD_eq_getElem?_getD, List.getElem?_eq_getElem hql]; exact List.getElem_mem _)
                  rw [h2, List.length_append, List.length_append, List.length_take, List.length_drop, hrl]
                  omega
              · have hold := fun j r hj => RelDs.mono hk _ _ (RelRows.get l _ hr hl j r hj)
                refine RelRows.mk (c := c') _ _ ?_ ?_
                · intro r hr'
                  simp only [real] at hr'
                  rw [← hq] at hr'
                  rcases List.mem_or_eq_of_mem_set hr' with h2 | h2
                  · exact hl r h2
                  · have hrl : (l.getD q []).length = c' := hl _ (by rw [List.getD_eq_getElem?_getD, List.getElem?_eq_getElem hql]; exact List.getElem_mem _)
                    rw [h2, List.length_append, List.length_append, List.length_take, List.length_drop, hrl]
                    omega
                · intro j r hj
                  simp only [real] at hj
                  rw [← hq] at hj
                  have hjl : j < l.length := by
                    have := (List.getElem?_eq_some_iff.1 hj).1
                    simpa using this
                  have hjc : j * c' + c' ≤ l.length * c' := by
                    have : (j + 1) * c' ≤ l.length * c' := Nat.mul_le_mul_right c' (by omega)
                    rw [Nat.add_mul, Nat.one_mul] at this
                    exact this
                  have hxs : xs = cur.toList.take (l.length * c') := ht.symm
                  by_cases hjq : j = q
                  · subst hjq
                    rw [List.getElem?_set_self hql] at hj
                    obtain rfl := (Option.some.inj hj).symm
                    have hgq : l[j]? = some (l.getD j []) := by rw [List.getD_eq_getElem?_getD, List.getElem?_eq_getElem hql]; rfl
                    have h2 := hold j _ hgq
                    have hrl : (l.getD j []).length = c' := hl _ (List.mem_of_getElem? hgq)
                    generalize l.getD j [] = r0 at *
                    have hds : RelDs w (Mut ρ st.h) ds vs := rels_ds ds vs (by rw [← hcv]; exact hcr)
                    have h3 := RelDs.append _ _ _ _ (RelDs.append _ _ _ _ (RelDs.take _ _ h2 f) (RelDs.mono hk _ _ hds)) (RelDs.drop _ _ h2 (f + ds.length))
                    have e1 : ((((cur.toList.take (j * c' + f) ++ vs ++ cur.toList.drop (j * c' + f + vs.length)).take (l.length * c')).drop (j * c')).take c') =
                        (((xs.drop (j * c')).take c').take f ++ vs ++ ((xs.drop (j * c')).take c').drop (f + ds.length)) := by
                      have hcl2 : cur.toList.length = cap * c' := by rw [Array.length_toList]; exact hsz
                      have e0 : ((xs.drop (j * c')).take c').length = c' := by rw [hxs]; simp only [List.length_take, List.length_drop]; omega
                      apply List.ext_getElem?
                      intro k
                      rw [window_get _ _ _ _ _ hjc, splice_get _ _ _ _ (by omega), ← hvsl, splice_get _ _ _ _ (by omega), hxs, window_get _ _ _ _ _ hjc]
                      by_cases k1 : k < f
                      · rw [if_pos (by omega), if_pos (by omega), if_pos k1, if_pos (by omega)]
                      · by_cases k2 : k < f + vs.length
                        · rw [if_pos (by omega), if_neg (by omega), if_pos (by omega), if_neg k1, if_pos k2]
                          congr 1; omega
                        · by_cases k3 : k < c'
                          · rw [if_pos k3, if_neg (by omega), if_neg (by omega), if_neg k1, if_neg k2, if_pos k3]
                          · rw [if_neg k3, if_neg k1, if_neg k2, if_neg k3]
                    rw [e1]
                    exact h3
                  · rw [List.getElem?_set_ne (by omega)] at hj
                    have h2 := hold j r hj
                    have hne : j * c' + c' ≤ q * c' ∨ q * c' + c' ≤ j * c' := by
                      rcases Nat.lt_or_gt_of_ne hjq with h3 | h3
                      · left
                        have : (j + 1) * c' ≤ q * c' := Nat.mul_le_mul_right c' h3
                        rw [Nat.add_mul, Nat.one_mul] at this; exact this
                      · right
                        have : (q + 1) * c' ≤ j * c' := Nat.mul_le_mul_right c' h3
                        rw [Nat.add_mul, Nat.one_mul] at this; exact this
                    have e1 : ((((cur.toList.take (q * c' + f) ++ vs ++ cur.toList.drop (q * c' + f + vs.length)).take (l.length * c')).drop (j * c')).take c') = (xs.drop (j * c')).take c' := by
                      have hcl2 : cur.toList.length = cap * c' := by rw [Array.length_toList]; exact hsz
                      apply List.ext_getElem?
                      intro k
                      rw [window_get _ _ _ _ _ hjc, splice_get _ _ _ _ (by omega), hxs, window_get _ _ _ _ _ hjc]
                      by_cases k3 : k < c'
                      · rw [if_pos k3, if_pos k3]
                        rcases hne with hne | hne
                        · rw [if_pos (by omega)]
                        · rw [if_neg (by omega), if_neg (by omega)]
                      · rw [if_neg k3, if_neg k3]
                    rw [e1]
                    exact h2
            · exact goes_set hs.rep (hget_mem ho) hg rfl (fun k hk => setRow_old _ _ _ k hk) rfl rfl rfl (setRow_size _ _ _)
  | aptr id off n c i f =>
    obtain ⟨b, hb, h0, hin, rfl⟩ := hx
    dsimp only at h
    cases hg : hget st.h id with
    | none => simp [hg] at h
    | some o =>
      cases o with
      | row c l => simp [hg] at h
      | mp k m => simp [hg] at h
      | it k e m c0 => simp [hg] at h
      | sit s p => simp [hg] at h
      | bag s p => simp [hg] at h
      | cells l =>
        simp only [hg] at h
        obtain ⟨hs1, h⟩ := bif_true h not_false
        have hs1 : (T t).size = 1 := by simpa using hs1
        obtain ⟨b', cs, e, hb', hcs, hl⟩ := obj_cells hs.rep hg
        obtain rfl : b = b' := by rw [hb] at hb'; simpa using hb'
        generalize hcv : cellsOf v = cv at *
        match cv, h, hcr, hlen with
        | [y], h, hcr, hlen =>
          dsimp only at h
          cases hse : setA real i y l (off + f) c 0 n with
          | none => simp [hse] at h
          | some l' =>
            simp only [hse] at h
            have he := setA_eq n l l' (off + f) 0 hse
            rw [if_pos (by omega)] at he
            obtain ⟨z, r, hz, hyz, hr⟩ := hcr
            have hr : r = [] := hr
            subst hr
            have hll := RelVs.length _ _ hl
            have hpos : off + i.toNat * c + f < cs.size := by
              rcases Nat.lt_or_ge (off + i.toNat * c + f) cs.size with h2 | h2
              · exact h2
              · exfalso
                obtain ⟨o, ho⟩ := setA_has n l l' (off + f) 0 hse i.toNat (by omega)
                have h3 := (List.getElem?_eq_some_iff.1 ho).1
                rw [hll, Array.length_toList] at h3
                have e1 : off + f + i.toNat * c = off + i.toNat * c + f := by omega
                omega
            have hrun := store_run (P := P) (w := w) (off := off + i.toNat * c + f) hT hs0 hvl hcs (by rw [hvl, hs1]; omega) h1
            have e1 : off + f + (i.toNat - 0) * c = off + i.toNat * c + f := by rw [Nat.sub_zero]; omega
            have e2 : (cs.toList.take (off + i.toNat * c + f) ++ [z] ++ cs.toList.drop (off + i.toNat * c + f + [z].length)) = cs.toList.set (off + i.toNat * c + f) z := by
              rw [List.set_eq_take_append_cons_drop, if_pos (by rw [Array.length_toList]; exact hpos)]
              simp
            rw [e1] at he
            subst he
            rw [hz, e2] at hrun
            refine ⟨_, _, hrun, h, ?_, ?_⟩
            · refine hs.rep.set (hget_mem hg) hb rfl (fun k hk => setRow_old _ _ _ k hk) (fun hk => ⟨b, _, e, hb, setRow_heap w b cs _ e _ hcs, ?_⟩)
              exact RelVs.set (RelV.mono (EnvSub.refl ρ) hk _ _ hyz) _ _ (RelVs.mono (EnvSub.refl ρ) hk _ _ hl) (off + i.toNat * c + f)
            · exact goes_set hs.rep (hget_mem hg) hb rfl (fun k hk => setRow_old _ _ _ k hk) rfl rfl rfl (setRow_size _ _ _)
        | [], h, hcr, hlen => exact h.elim
        | _ :: _ :: _, h, hcr, hlen => exact h.elim
  | _ => exact h.elim
end
end Go.Proofs.Yteakfibolfapiaa.Ab
