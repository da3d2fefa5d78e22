/- The executor is sound: addresses, parts, slices, conversions. -/
import Derived.Test.YteakfibolfapiaaTrAb10
import Derived.Laws.MakeOwn
import Derived.Laws.BytesString
namespace Go.Proofs.Yteakfibolfapiaa.Ab
open Go.RowKit Go.Sort
set_option linter.unusedVariables false
set_option linter.unusedSimpArgs false

section
variable {P : Program} {T : Nat → TI} {ρ : Env} {w w' : World} {M : Nat → Prop} {n : Nat} {h : Hp}
theorem rWf_iff {l : List (List D)} {c : Nat} : rWf l c = true ↔ ∀ r ∈ l, r.length = c := by simp [rWf]
theorem isPtr_addr {x : AV} {v : Value} (hp : isPtr x = true) (h : RelV ρ w M x v) : ∃ b o, v = .pointer (some ⟨b, o, none⟩) := by
  cases x with
  | ptr id off => obtain ⟨b, hb, rfl⟩ := h; exact ⟨_, _, rfl⟩
  | iptr l i f => obtain ⟨b, off, cs, e, fz, c, rfl, -⟩ := h; exact ⟨_, _, rfl⟩
  | rptr id c i f => obtain ⟨g, n, cap, hb, h0, rfl⟩ := h; exact ⟨_, _, rfl⟩
  | aptr id off n c i f => obtain ⟨b, hb, h0, h1, rfl⟩ := h; exact ⟨_, _, rfl⟩
  | _ => simp [isPtr] at hp
theorem field_rel {x : AV} {b o k : Nat} (hp : isPtr x = true) (h : RelV ρ w M x (.pointer (some ⟨b, o, none⟩))) : RelV ρ w M (fieldA k x) (.pointer (some ⟨b, o + k, none⟩)) := by
  cases x with
  | ptr id off =>
    obtain ⟨b', hb, hv⟩ := h
    simp only [Value.pointer.injEq, Option.some.injEq, Addr.mk.injEq, and_true] at hv
    obtain ⟨rfl, rfl⟩ := hv
    exact ⟨b, hb, rfl⟩
  | iptr l i f =>
    obtain ⟨b', off, cs, e, fz, c, hv, r⟩ := h
    simp only [Value.pointer.injEq, Option.some.injEq, Addr.mk.injEq, and_true] at hv
    obtain ⟨rfl, rfl⟩ := hv
    exact ⟨b, off, cs, e, fz, c, by simp only [Nat.add_assoc], r⟩
  | rptr id c i f =>
    obtain ⟨g, n, cap, hb, h0, hv⟩ := h
    simp only [Value.pointer.injEq, Option.some.injEq, Addr.mk.injEq, and_true] at hv
    obtain ⟨rfl, rfl⟩ := hv
    exact ⟨b, n, cap, hb, h0, by simp only [Nat.add_assoc]⟩
  | aptr id off n c i f =>
    obtain ⟨b', hb, h0, h1, hv⟩ := h
    simp only [Value.pointer.injEq, Option.some.injEq, Addr.mk.injEq, and_true] at hv
    obtain ⟨rfl, rfl⟩ := hv
    exact ⟨b, hb, h0, h1, by simp only [Nat.add_assoc]⟩
  | _ => simp [isPtr] at hp
theorem fieldAddr_gives (hT : TysOK P T) {K : AV → Prop} {s f : Nat} {x : AV} {v : Value} (hx : RelV ρ w M x v)
    (h : match (ty T s).u with
      | .struct fs => (match fs[f]? with | some (off, ft) => (bif (ty T ft).size == 0 then False else bif isPtr x then K (fieldA off x) else False) | none => False)
      | _ => False) : GivesA P ρ w M K (Instr.fieldAt s v f) := by
  unfold Ab.ty at h
  split at h
  · rename_i fs hu
    obtain ⟨gs, hg, rfl⟩ := hT.struct hu
    cases hf : (gs.toList.map fun f => (f.offset, f.type))[f]? with
    | none => simp [hf] at h
    | some q =>
      obtain ⟨off, ft⟩ := q
      simp only [hf] at h
      rw [List.getElem?_map] at hf
      cases hgf : gs.toList[f]? with
      | none => rw [hgf] at hf; cases hf
      | some fd =>
        rw [hgf] at hf
        simp only [Option.map_some, Option.some.injEq, Prod.mk.injEq] at hf
        obtain ⟨rfl, rfl⟩ := hf
        have hgf' : gs[f]? = some fd := by simpa using hgf
        cases hsz : (T fd.type).size == 0 with
        | true => simp [hsz] at h
        | false =>
          have hs0 : (T fd.type).size ≠ 0 := by simpa using hsz
          simp only [hsz, cond_false] at h
          obtain ⟨hp, h⟩ := bif_true h not_false
          obtain ⟨b, o, rfl⟩ := isPtr_addr hp hx
          refine ⟨_, _, h, field_rel hp hx, fun u _ => ?_⟩
          have e : (⟨b, o, none⟩ : Addr).add fd.offset = ⟨b, o + fd.offset, none⟩ := addr_add b o fd.offset
          simp [Instr.fieldAt, run_underlying hg, hgf', Instr.sureAddr, fieldPlace, hT.size hs0, hs0, e]
  · exact h.elim
theorem run_part (hT : TysOK P T) {t off : Nat} {l : List AV} {cs : Array Value} {v : AV} (hs0 : (T t).size ≠ 0) (h : RelVs ρ w M l cs.toList) (hp : partOf l off (T t).size (isAggT (T t)) = some v) :
    ∃ x, RelV ρ w M v x ∧ ∀ u, (part t cs off).run P u = .ok x u := by
  cases ha : isAggT (T t) with
  | true =>
    rw [ha] at hp
    obtain ⟨hle, hr⟩ := part_rel h hp
    refine ⟨_, hr, fun u => ?_⟩
    have e : cs.extract off (off + (T t).size) = ((cs.toList.drop off).take (T t).size).toArray := by
      apply Array.ext'
      simp [Array.toList_extract, List.extract_eq_take_drop, Nat.add_sub_cancel_left]
    simp [part, hT.agg hs0, ha, hT.size hs0, e]
  | false =>
    rw [ha] at hp
    obtain ⟨x, hx, hr⟩ := part_one h hp
    have hx' : cs[off]? = some x := by simpa using hx
    refine ⟨x, hr, fun u => ?_⟩
    simp [part, hT.agg hs0, ha, hx']
theorem field_gives (hT : TysOK P T) {K : AV → Prop} {s f : Nat} {x : AV} {v : Value} (hx : RelV ρ w M x v)
    (h : match (ty T s).u, aggOf x with
      | .struct fs, some l => (match fs[f]? with | some (off, ft) => (match (bif Nat.blt 0 (ty T ft).size then partOf l off (ty T ft).size (isAggT (ty T ft)) else none) with | some v => K v | none => False) | none => False)
      | _, _ => False) : GivesA P ρ w M K (Instr.field s v f) := by
  unfold Ab.ty at h
  split at h
  · rename_i fs l hu hl
    obtain ⟨gs, hg, rfl⟩ := hT.struct hu
    obtain ⟨cs, rfl, hcs⟩ := aggOf_rel hx hl
    cases hf : (gs.toList.map fun f => (f.offset, f.type))[f]? with
    | none => simp [hf] at h
    | some q =>
      obtain ⟨off, ft⟩ := q
      simp only [hf] at h
      rw [List.getElem?_map] at hf
      cases hgf : gs.toList[f]? with
      | none => rw [hgf] at hf; cases hf
      | some fd =>
        rw [hgf] at hf
        simp only [Option.map_some, Option.some.injEq, Prod.mk.injEq] at hf
        obtain ⟨rfl, rfl⟩ := hf
        have hgf' : gs[f]? = some fd := by simpa using hgf
        cases hb : Nat.blt 0 (T fd.type).size with
        | false => simp [hb] at h
        | true =>
          have hs0 : (T fd.type).size ≠ 0 := by have := Nat.le_of_ble_eq_true hb; omega
          simp only [hb, cond_true] at h
          cases hp : partOf l fd.offset (T fd.type).size (isAggT (T fd.type)) with
          | none => simp [hp] at h
          | some av =>
            simp only [hp] at h
            obtain ⟨y, hr, hrun⟩ := run_part hT hs0 hcs hp
            exact ⟨av, y, h, hr, fun u _ => by simp [Instr.field, run_underlying hg, hgf', asAgg, hrun]⟩
  · exact h.elim
theorem constI_eq {st : St} {ix : Operand} {j : Int} (h : constI ix = some j) : ∃ k, st.ev ix = .d (.int k j) ∧ ∃ v, ix = .const v ∧ v = .int k j := by
  unfold constI at h
  split at h
  · rename_i k n
    cases h
    exact ⟨k, rfl, _, rfl, rfl⟩
  · cases h
theorem indexAddr_gives (hT : TysOK P T) {K : AV → Prop} {st : St} {a : Act} {t : Nat} {x : AV} {v : Value} {ix : Operand} (hs : RepS ρ st a w) (hx : RelV ρ w (Mut ρ st.h) x v) (h : indexAddrA T real st t x ix K) :
    GivesA P ρ w (Mut ρ st.h) K (Instr.indexAt t v (a.eval ix)) := by
  have hix := ev_rel hs ix
  unfold indexAddrA Ab.ty at h
  split at h
  case h_2 => exact h.elim
  rename_i k i hev
  rw [hev] at hix
  have hvi : a.eval ix = .int k i := hix
  rw [hvi]
  split at h
  · rename_i len e hu
    have hu' := hT.array hu
    obtain ⟨hb, h1⟩ := bif_true h not_false
    replace h := h1
    clear h1
    have hs0 : (T e).size ≠ 0 := by have := Nat.le_of_ble_eq_true hb; omega
    have go : ∀ (b o : Nat) (av : AV), v = .pointer (some ⟨b, o, none⟩) → 0 ≤ i → i < (len : Int) → K av → RelV ρ w (Mut ρ st.h) av (.pointer (some ⟨b, o + i.toNat * (T e).size, none⟩)) → GivesA P ρ w (Mut ρ st.h) K (Instr.indexAt t v (.int k i)) := by
      rintro b o av rfl h0 h1 hk hr
      refine ⟨av, _, hk, hr, fun u _ => ?_⟩
      have e1 : (⟨b, o, none⟩ : Addr).add (i.toNat * (T e).size) = ⟨b, o + i.toNat * (T e).size, none⟩ := addr_add _ _ _
      simp [Instr.indexAt, asIntOf, run_underlying hu', Instr.sureAddr, h0, h1, hT.size hs0, e1]
    have cst : ∀ j : Nat, constI ix = some (.ofNat j) → i = (j : Int) := by
      intro j hj
      obtain ⟨k', hev', -⟩ := constI_eq (st := st) hj
      rw [hev] at hev'
      simp only [AV.d.injEq, D.int.injEq] at hev'
      exact hev'.2
    cases x with
    | ptr id off =>
      obtain ⟨b, hb, rfl⟩ := hx
      cases hj : constI ix with
      | none =>
        simp only [hj] at h
        obtain ⟨hin, h⟩ := h
        have hin : 0 ≤ i ∧ i < (len : Int) := by simpa [real] using hin
        exact go b off _ rfl hin.1 hin.2 h ⟨b, hb, hin.1, hin.2, by simp⟩
      | some z =>
        cases z with
        | negSucc j => simp [hj] at h
        | ofNat j =>
          simp only [hj] at h
          obtain ⟨hlt, hk⟩ := bif_true h not_false
          have hlt := Nat.le_of_ble_eq_true hlt
          have hi := cst j hj
          subst hi
          exact go b off _ rfl (by omega) (by omega) hk ⟨b, hb, by simp⟩
    | rptr id c i' f =>
      obtain ⟨g, n, cap, hb, h0, rfl⟩ := hx
      cases hj : constI ix with
      | none => simp [hj] at h
      | some z =>
        cases z with
        | negSucc j => simp [hj] at h
        | ofNat j =>
          simp only [hj] at h
          obtain ⟨hlt, hk⟩ := bif_true h not_false
          have hlt := Nat.le_of_ble_eq_true hlt
          have hi := cst j hj
          subst hi
          exact go g (i'.toNat * c + f) _ rfl (by omega) (by omega) hk ⟨g, n, cap, hb, h0, by simp [Nat.add_assoc]⟩
    | iptr l i' f =>
      obtain ⟨b, off, cs, e', fz, c, rfl, h0, r⟩ := hx
      cases hj : constI ix with
      | none => simp [hj] at h
      | some z =>
        cases z with
        | negSucc j => simp [hj] at h
        | ofNat j =>
          simp only [hj] at h
          obtain ⟨hlt, hk⟩ := bif_true h not_false
          have hlt := Nat.le_of_ble_eq_true hlt
          have hi := cst j hj
          subst hi
          exact go b (off + i'.toNat * c + f) _ rfl (by omega) (by omega) hk ⟨b, off, cs, e', fz, c, by simp [Nat.add_assoc], h0, r⟩
    | _ => exact h.elim
  · rename_i e hu
    have hu' := hT.slice hu
    obtain ⟨hb, h1⟩ := bif_true h not_false
    replace h := h1
    clear h1
    have hs0 : (T e).size ≠ 0 := by have := Nat.le_of_ble_eq_true hb; omega
    have go : ∀ (b o n cap : Nat) (av : AV), v = .slice (some ⟨b, o, none⟩) n cap → 0 ≤ i → i < (n : Int) → K av → RelV ρ w (Mut ρ st.h) av (.pointer (some ⟨b, o + i.toNat * (T e).size, none⟩)) → GivesA P ρ w (Mut ρ st.h) K (Instr.indexAt t v (.int k i)) := by
      rintro b o n cap av rfl h0 h1 hk hr
      refine ⟨av, _, hk, hr, fun u _ => ?_⟩
      have e1 : (⟨b, o, none⟩ : Addr).add (i.toNat * (T e).size) = ⟨b, o + i.toNat * (T e).size, none⟩ := addr_add _ _ _
      simp [Instr.indexAt, asIntOf, run_underlying hu', h0, h1, hT.size hs0, e1]
    cases x with
    | sl id =>
      obtain ⟨hid, a0, n0, cap0, rfl⟩ := hx
      cases ho : hget st.h id with
      | none => simp [ho] at h
      | some ob =>
        cases ob with
        | cells q => simp [ho] at h
        | mp k m => simp [ho] at h
        | it k e m c0 => simp [ho] at h
        | sit s p => simp [ho] at h
        | bag s p => simp [ho] at h
        | row c l =>
          simp only [ho] at h
          obtain ⟨⟨rfl, hin⟩, h⟩ := h
          have hin : 0 ≤ i ∧ i < (l.length : Int) := by simpa [real] using hin
          obtain ⟨v', xs, e', hv, hc, hown, hl, hr⟩ := obj_row hs.rep ho
          rw [hid] at hv
          obtain rfl := Option.some.inj hv
          rcases hown.2 with ⟨hv, h0⟩ | ⟨g', cap', cur, hv, hb, hgg, hcap, hmx, hsz, ht⟩
          · rw [h0] at hin
            have h3 := hin.1; have h4 := hin.2
            simp at h4
            omega
          · simp only [Value.slice.injEq] at hv
            obtain ⟨rfl, rfl, rfl⟩ := hv
            exact go g' 0 _ _ _ rfl hin.1 hin.2 h ⟨g', _, _, hid, hin.1, by simp⟩
    | d y =>
      cases y with
      | imm l =>
        obtain ⟨⟨hin, hwf⟩, h⟩ := h
        have hin : 0 ≤ i ∧ i < (l.length : Int) := by simpa [real] using hin
        have hwf : ∀ r ∈ l, r.length = (T e).size := rWf_iff.1 hwf
        obtain ⟨ad, cap, rfl, hcap, hh⟩ := hx
        rcases hh with rfl | ⟨b, off, cs, e', fz, c0, rfl, hb, hm, hl0, hr⟩
        · simp at hin; omega
        · exact go b off _ _ _ rfl hin.1 hin.2 h ⟨b, off, cs, e', fz, (T e).size, by simp, hin.1, hb, hm, hwf, hr⟩
      | _ => exact h.elim
    | _ => exact h.elim
  · exact h.elim
theorem index_gives (hT : TysOK P T) {K : AV → Prop} {st : St} {a : Act} {t : Nat} {x : AV} {v : Value} {ix : Operand} (hs : RepS ρ st a w) (hx : RelV ρ w (Mut ρ st.h) x v) (h : indexA T real st t x ix K) :
    GivesA P ρ w (Mut ρ st.h) K (Instr.index t v (a.eval ix)) := by
  have hix := ev_rel hs ix
  unfold indexA Ab.ty at h
  split at h
  case h_2 => exact h.elim
  rename_i k i hev
  rw [hev] at hix
  have hvi : a.eval ix = .int k i := hix
  rw [hvi]
  split at h
  · rename_i hu
    have hu' := hT.str hu
    split at h
    · rename_i s
      obtain rfl : v = .string ⟨s.toArray⟩ := hx
      obtain ⟨hin, h⟩ := h
      have hin : 0 ≤ i ∧ i < (s.length : Int) := by simpa [real] using hin
      have hlt : i.toNat < s.length := by omega
      have hg : (ByteArray.mk s.toArray)[i.toNat]? = some s[i.toNat] := by
        have h1 : i.toNat < (ByteArray.mk s.toArray).size := by simpa [ByteArray.size] using hlt
        rw [getElem?_pos (ByteArray.mk s.toArray) i.toNat h1]
        rfl
      refine ⟨_, _, h, rfl, fun u _ => ?_⟩
      simp only [real, List.getD_eq_getElem?_getD, List.getElem?_eq_getElem hlt, Option.getD_some]
      simp [Instr.index, asIntOf, run_underlying hu', hin.1, hg]
    · exact h.elim
  · rename_i len e hu
    have hu' := hT.array hu
    cases hb : Nat.blt 0 (T e).size with
    | false => simp [hb] at h
    | true =>
      simp only [hb, cond_true] at h
      have hs0 : (T e).size ≠ 0 := by have := Nat.le_of_ble_eq_true hb; omega
      cases hl : aggOf x with
      | none => simp [hl] at h
      | some l =>
        simp only [hl] at h
        obtain ⟨cs, rfl, hcs⟩ := aggOf_rel hx hl
        cases hj : constI ix with
        | some z =>
          cases z with
          | negSucc j => simp [hj] at h
          | ofNat j =>
            simp only [hj] at h
            obtain ⟨hlt, hk⟩ := bif_true h not_false
            have hlt := Nat.le_of_ble_eq_true hlt
            obtain ⟨k', hev', -⟩ := constI_eq (st := st) hj
            rw [hev] at hev'
            simp only [AV.d.injEq, D.int.injEq] at hev'
            obtain ⟨rfl, rfl⟩ := hev'
            cases hp : partOf l (j * (T e).size) (T e).size (isAggT (T e)) with
            | none => simp [hp] at hk
            | some av =>
              simp only [hp] at hk
              obtain ⟨y, hr, hrun⟩ := run_part hT hs0 hcs hp
              have h1 : j < len := hlt
              exact ⟨av, y, hk, hr, fun u _ => by simp [Instr.index, asIntOf, run_underlying hu', h1, hT.size hs0, hrun]⟩
        | none =>
          simp only [hj] at h
          cases ha : isAggT (T e) with
          | true => simp [ha] at h
          | false =>
            simp only [ha, cond_false] at h
            obtain ⟨hs1, hin, h⟩ := bif_true h not_false
            have hs1 : (T e).size = 1 := by simpa using hs1
            have hin : 0 ≤ i ∧ i < (len : Int) := by simpa [real] using hin
            cases hst : stepsA l 0 1 len with
            | none => simp [hst] at h
            | some xs =>
              simp only [hst] at h
              cases hse : selA real i xs with
              | none => simp [hse] at h
              | some av =>
                simp only [hse] at h
                obtain ⟨hxl, hxs⟩ := steps_get len 0 1 l xs hst
                have hiN : i.toNat < len := by omega
                obtain ⟨y, hy⟩ : ∃ y, xs[i.toNat]? = some y := ⟨xs[i.toNat]'(by omega), List.getElem?_eq_getElem (by omega)⟩
                obtain rfl := sel_eq hse hy
                rw [hxs _ hiN] at hy
                have e0 : 0 + i.toNat * 1 = i.toNat := by omega
                rw [e0] at hy
                obtain ⟨z, hz, hr⟩ := RelVs.get _ _ hcs _ _ hy
                have hz' : cs[i.toNat]? = some z := by simpa using hz
                exact ⟨av, z, h, hr, fun u _ => by simp [Instr.index, asIntOf, run_underlying hu', hin.1, hin.2, hT.size hs0, hs1, part, hT.agg hs0, ha, hz']⟩
  · exact h.elim
end
end Go.Proofs.Yteakfibolfapiaa.Ab
