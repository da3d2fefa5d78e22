/- The executor is sound: parts of slices and strings, literals, new rows. -/
import Derived.Test.YteakfibolfapiaaTrAb12
namespace Go.Proofs.Yteakfibolfapiaa.Ab
open Go.RowKit Go.Sort
set_option linter.unusedVariables false
set_option linter.unusedSimpArgs false

section
variable {P : Program} {T : Nat → TI} {ρ : Env} {w w' : World} {M : Nat → Prop} {n : Nat} {h : Hp}
theorem optI_eval {st : St} {a : Act} {o : Option Operand} {z : Option Int} (hs : RepS ρ st a w) (h : optI st o = some z) : (o = none ∧ z = none) ∨ ∃ x k i, o = some x ∧ z = some i ∧ a.eval x = .int k i := by
  cases o with
  | none => simp [optI] at h; exact .inl ⟨rfl, h.symm⟩
  | some x =>
    simp only [optI] at h
    have hx := ev_rel hs x
    split at h
    · rename_i k i hev
      cases h
      rw [hev] at hx
      exact .inr ⟨x, k, i, rfl, rfl, hx⟩
    · cases h
theorem bounds_run {st : St} {a : Act} {lo hi : Option Operand} {l h : Option Int} {isS : Bool} {len cap : Nat} (hs : RepS ρ st a w) (hl : optI st lo = some l) (hh : optI st hi = some h) (hcap : len ≤ cap)
    (hb : 0 ≤ l.getD 0 ∧ l.getD 0 ≤ h.getD len ∧ h.getD len ≤ (len : Int)) :
    (Instr.sliceBounds isS len cap (lo.map a.eval) (hi.map a.eval) none).run P w = .ok ((l.getD 0).toNat, (h.getD len).toNat, cap) w := by
  rcases optI_eval hs hl with ⟨rfl, rfl⟩ | ⟨x, k, i, rfl, rfl, hx⟩ <;> rcases optI_eval hs hh with ⟨rfl, rfl⟩ | ⟨y, k', j, rfl, rfl, hy⟩
  · simp [Instr.sliceBounds]
  · simp only [Option.getD_none, Option.getD_some] at hb
    have h1 : j ≤ (cap : Int) := by omega
    have h2 : 0 ≤ j := by omega
    simp [Instr.sliceBounds, hy, run_sliceBound w k' j cap _ h2 h1]
  · simp only [Option.getD_none, Option.getD_some] at hb
    simp [Instr.sliceBounds, hx, run_sliceBound w k i len _ hb.1 hb.2.1]
  · simp only [Option.getD_none, Option.getD_some] at hb
    have h1 : j ≤ (cap : Int) := by omega
    have h2 : 0 ≤ j := by omega
    have h3 : i ≤ (j.toNat : Int) := by omega
    simp [Instr.sliceBounds, hx, hy, run_sliceBound w k' j cap _ h2 h1, run_sliceBound w k i j.toNat _ hb.1 h3]
theorem str_extract (s : List UInt8) (l h : Nat) : (ByteArray.mk s.toArray).extract l h = ⟨((s.take h).drop l).toArray⟩ := by
  apply ByteArray.ext
  rw [ByteArray.data_extract]
  apply Array.ext'
  simp [Array.toList_extract, List.extract_eq_take_drop, List.drop_take]
/-- Part of a list of rows that never turns. -/
theorem imm_sub {l : List (List D)} {ad : Option Addr} {cap : Nat} {c : Nat} {lo hi : Int} (hc : ∀ r ∈ l, r.length = c) (hcap : l.length ≤ cap) (hb : 0 ≤ lo ∧ lo ≤ hi ∧ hi ≤ (l.length : Int))
    (hh : l = [] ∨ ∃ b off cs e fz, ad = some ⟨b, off, none⟩ ∧ w.heap[b]? = some (.cells cs e fz) ∧ ¬ M b ∧ RelRows w M l (cs.toList.drop off)) :
    RelD w M (.imm (real.sub l lo hi)) (.slice (if cap = lo.toNat then ad else ad.map (·.add (lo.toNat * c))) (hi.toNat - lo.toNat) (cap - lo.toNat)) := by
  have hlen : (real.sub l lo hi).length = hi.toNat - lo.toNat := by simp only [real, List.length_drop, List.length_take]; omega
  refine ⟨_, _, by rw [hlen], by rw [hlen]; omega, ?_⟩
  by_cases h0 : hi.toNat = lo.toNat
  · exact .inl (List.eq_nil_of_length_eq_zero (by rw [hlen]; omega))
  · rcases hh with rfl | ⟨b, off, cs, e, fz, rfl, hg, hm, hr⟩
    · simp at hb; omega
    · refine .inr ⟨b, off + lo.toNat * c, cs, e, fz, c, ?_, hg, hm, ?_, ?_⟩
      · rw [if_neg (by omega), Option.map_some, addr_add]
      · intro r hr'
        simp only [real] at hr'
        exact hc r (List.mem_of_mem_take (List.mem_of_mem_drop hr'))
      · have hrow := fun i r hi => RelRows.get l _ hr hc i r hi
        refine RelRows.mk (c := c) _ _ (fun r hr' => hc r (List.mem_of_mem_take (List.mem_of_mem_drop (by simpa only [real] using hr')))) (fun i r hi' => ?_)
        simp only [real, List.getElem?_drop, List.getElem?_take] at hi'
        split at hi'
        · have h1 := hrow (lo.toNat + i) r hi'
          rw [List.drop_drop] at h1 ⊢
          rw [show off + lo.toNat * c + i * c = off + (lo.toNat + i) * c by rw [Nat.add_mul]; omega]
          exact h1
        · cases hi'
theorem slice_next (hT : TysOK P T) {K : St → AV → Prop} {st : St} {a : Act} {t : Nat} {x : AV} {v : Value} {lo hi mx : Option Operand} (hs : RepS ρ st a w) (hx : RelV ρ w (Mut ρ st.h) x v) (h : sliceA T real st t x lo hi mx K) :
    Nexts P ρ st w K (Instr.sliceAt t v (lo.map a.eval) (hi.map a.eval) (mx.map a.eval)) := by
  unfold sliceA Ab.ty at h
  cases mx with
  | some m => simp at h
  | none =>
    cases hl : optI st lo with
    | none => simp [hl] at h
    | some l =>
      cases hh : optI st hi with
      | none => simp [hl, hh] at h
      | some hq =>
        simp only [hl, hh] at h
        have sub2 : ∀ {p q r : Int}, real.sub2 p q r = true → 0 ≤ p ∧ p ≤ q ∧ q ≤ r := by intro p q r h; simpa [real] using h
        split at h
        · rename_i s hu
          obtain rfl : v = .string ⟨s.toArray⟩ := hx
          obtain ⟨hb, h⟩ := h
          have hb := sub2 hb
          have hsz : (ByteArray.mk s.toArray).size = s.length := by simp [ByteArray.size]
          have hbr := bounds_run (P := P) (isS := false) (len := s.length) (cap := s.length) hs hl hh (Nat.le_refl _) hb
          refine Gives.next hs ⟨_, _, h, rfl, ?_⟩
          simp only [Option.map_none]
          have e1 := str_extract s (l.getD 0).toNat (hq.getD (s.length : Int)).toNat
          simp [Instr.sliceAt, run_underlying (hT.str hu), Instr.slice, hsz, hbr, e1, real]
        · rename_i e hu
          obtain rfl : v = .slice none 0 0 := hx
          obtain ⟨⟨hb, hs0⟩, h⟩ := h
          have hb := sub2 hb
          have hbr := bounds_run (P := P) (isS := true) (len := 0) (cap := 0) hs hl hh (Nat.le_refl _) hb
          refine Gives.next hs ⟨_, _, h, rfl, ?_⟩
          have e1 : (l.getD 0).toNat = 0 := by omega
          have e2 : (hq.getD ((0 : Nat) : Int)).toNat = 0 := by
            have : hq.getD ((0 : Nat) : Int) = hq.getD 0 := rfl
            omega
          rw [e1, e2] at hbr
          simp only [Option.map_none]
          simp [Instr.sliceAt, run_underlying (hT.slice hu), Instr.slice, hbr, hT.size hs0]
        · rename_i e r hu
          obtain ⟨ad, cap, rfl, hcap, hr⟩ := hx
          obtain ⟨⟨hb, hwf, hs0⟩, h⟩ := h
          have hb := sub2 hb
          have hwf := rWf_iff.1 hwf
          have hbr := bounds_run (P := P) (isS := true) (len := r.length) (cap := cap) hs hl hh hcap hb
          have hrel := imm_sub (ad := ad) (cap := cap) hwf hcap hb (by
            rcases hr with hr | ⟨b, off, cs, e, fz, c, h1, h2, h3, h4, h5⟩
            · exact .inl hr
            · exact .inr ⟨b, off, cs, e, fz, h1, h2, h3, h5⟩)
          refine Gives.next hs ⟨_, _, h, hrel, ?_⟩
          simp only [Option.map_none]
          simp [Instr.sliceAt, run_underlying (hT.slice hu), Instr.slice, hbr, hT.size hs0, real]
        · rename_i e id hu
          obtain ⟨hid, a0, n0, cap0, rfl⟩ := hx
          cases ho : hget st.h id with
          | none => simp [ho] at h
          | some ob =>
            cases ob with
            | cells q => simp [ho] at h
            | mp k m => simp [ho] at h
            | it k e m c0 => simp [ho] at h
            | sit s p => simp [ho] at h
            | bag s p => simp [ho] at h
            | row c r =>
              simp only [ho] at h
              obtain ⟨⟨hb, rfl⟩, h⟩ := h
              have hb := sub2 hb
              obtain ⟨v', xs, e', hv, hc, hown, hl', hr⟩ := obj_row hs.rep ho
              rw [hid] at hv
              obtain rfl := Option.some.inj hv
              have hcells : a0 = a0 ∧ n0 = r.length ∧ r.length ≤ cap0 ∧ (r = [] ∨ ∃ b off cs e fz, a0 = some ⟨b, off, none⟩ ∧ w.heap[b]? = some (.cells cs e fz) ∧ ¬ Mut ρ (hdel st.h id) b ∧ RelRows w (Mut ρ (hdel st.h id)) r (cs.toList.drop off)) := by
                rcases hown.2 with ⟨hv, h0⟩ | ⟨g', cap', cur, hv, hb', hgg, hcap, hmx, hsz, ht⟩
                · simp only [Value.slice.injEq] at hv
                  obtain ⟨rfl, rfl, rfl⟩ := hv
                  exact ⟨rfl, h0.symm, by omega, .inl (List.eq_nil_of_length_eq_zero h0)⟩
                · simp only [Value.slice.injEq] at hv
                  obtain ⟨rfl, rfl, rfl⟩ := hv
                  refine ⟨rfl, rfl, hcap, .inr ⟨g', 0, cur, e', _, rfl, hgg, del_free hs.rep (hget_mem ho) hid rfl, ?_⟩⟩
                  have h1 := RelRows.mono (keeps_del (w := w) (ρ := ρ) (h := st.h) id) _ _ hr
                  have h2 := RelRows.append (c := (T e).size) r [] xs (cur.toList.drop (r.length * (T e).size)) hl' hown.1 h1 trivial
                  rw [List.append_nil, ← ht, List.take_append_drop] at h2
                  exact h2
              obtain ⟨-, rfl, hcap, hh'⟩ := hcells
              have hbr := bounds_run (P := P) (isS := true) (len := r.length) (cap := cap0) hs hl hh hcap hb
              have hrel := imm_sub (ad := a0) (cap := cap0) hl' hcap hb hh'
              refine ⟨_, w, _, ρ, st.n, hdel st.h id, ?_, h, hs.rep.del id, hrel, Nat.le_refl _, goes_del id⟩
              simp only [Option.map_none]
              simp [Instr.sliceAt, run_underlying (hT.slice hu), Instr.slice, hbr, hT.size (show (T e).size ≠ 0 by omega), real]
        · rename_i len e id hu
          obtain ⟨b, hb, rfl⟩ := hx
          cases ho : hget st.h id with
          | none => simp [ho] at h
          | some ob =>
            cases ob with
            | row c r => simp [ho] at h
            | mp k m => simp [ho] at h
            | it k e m c0 => simp [ho] at h
            | sit s p => simp [ho] at h
            | bag s p => simp [ho] at h
            | cells cs0 =>
              simp only [ho] at h
              cases hds : dsOf cs0 with
              | none => simp [hds] at h
              | some ds =>
                simp only [hds] at h
                obtain ⟨hs1, h1⟩ := bif_true h not_false
                obtain ⟨hdl, hbd, hk⟩ := bif_true h1 not_false
                clear h h1
                have hs1 : (T e).size = 1 := by simpa using hs1
                have hdl : ds.length = len := by simpa using hdl
                subst hdl
                have hbd := sub2 hbd
                obtain ⟨b', cs, e', hb', hcs, hrel0⟩ := obj_cells hs.rep ho
                obtain rfl : b = b' := by rw [hb] at hb'; simpa using hb'
                rw [dsOf_map _ _ hds] at hrel0
                have hrel0 := rels_ds ds _ hrel0
                have single : ∀ (ds : List D) (xs : List Value), RelDs w (Mut ρ st.h) ds xs → RelRows w (Mut ρ st.h) (ds.map fun d => [d]) xs := by
                  intro ds
                  induction ds with
                  | nil => intro xs _; exact trivial
                  | cons d ds ih => rintro xs ⟨v, rest, rfl, h1, h2⟩; exact ⟨⟨v, [], rfl, h1, rfl⟩, ih rest h2⟩
                have hrows := RelRows.mono (keeps_del (w := w) (ρ := ρ) (h := st.h) id) _ _ (single ds _ hrel0)
                have hlm : (ds.map fun d => [d]).length = ds.length := by simp
                have hbr := bounds_run (P := P) (isS := false) (len := ds.length) (cap := ds.length) hs hl hh (Nat.le_refl _) hbd
                have hrel := imm_sub (w := w) (M := Mut ρ (hdel st.h id)) (l := ds.map fun d => [d]) (ad := some ⟨b, 0, none⟩) (cap := ds.length) (c := 1) (lo := l.getD 0) (hi := hq.getD (ds.length : Int)) (by
                  intro r hr
                  obtain ⟨d, -, rfl⟩ := List.mem_map.1 hr
                  rfl) (by rw [hlm]; exact Nat.le_refl _) (by rw [hlm]; exact hbd) (.inr ⟨b, 0, cs, e', _, rfl, hcs, del_free hs.rep (hget_mem ho) hb rfl, by rw [List.drop_zero]; exact hrows⟩)
                refine ⟨_, w, _, ρ, st.n, hdel st.h id, ?_, hk, hs.rep.del id, hrel, Nat.le_refl _, goes_del id⟩
                simp only [Option.map_none]
                have e5 : (if ds.length = (l.getD 0).toNat then (some ⟨b, 0, none⟩ : Option Addr) else (some ⟨b, 0, none⟩ : Option Addr).map (·.add ((l.getD 0).toNat * 1))) = some (if ds.length = (l.getD 0).toNat then (⟨b, 0, none⟩ : Addr) else (⟨b, 0, none⟩ : Addr).add ((l.getD 0).toNat * 1)) := by split <;> rfl
                rw [e5]
                simp [Instr.sliceAt, run_underlying (hT.array hu), Instr.sureAddr, hbr, hT.size (show (T e).size ≠ 0 by omega), hs1]
        · exact h.elim
end
end Go.Proofs.Yteakfibolfapiaa.Ab
