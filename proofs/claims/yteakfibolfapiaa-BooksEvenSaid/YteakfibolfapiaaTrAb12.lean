/- The executor is sound: conversions, slices. -/
import Derived.Test.YteakfibolfapiaaTrAb11
namespace Go.Proofs.Yteakfibolfapiaa.Ab
open Go.RowKit Go.Sort
set_option linter.unusedVariables false
set_option linter.unusedSimpArgs false

section
variable {P : Program} {T : Nat → TI} {ρ : Env} {w w' : World} {M : Nat → Prop} {n : Nat} {h : Hp}
/-- A list of rows, wherever it stands: its cells. -/
theorem rowsOf_cells {st : St} {a : Act} {x : AV} {vx : Value} {l : List (List D)} {c : Nat} (hs : RepS ρ st a w) (hx : RelV ρ w (Mut ρ st.h) x vx) (hl : rowsOf st x = some l) (hc : ∀ r ∈ l, r.length = c) :
    ∃ ad cap, vx = .slice ad l.length cap ∧ (ad = none → l = []) ∧ ∃ xs : List Value, xs.length = l.length * c ∧ RelRows w (Mut ρ st.h) l xs ∧ ∀ a, ad = some a → ∀ (j : Nat) u, xs[j]? = some u → w.cell? (a.add j) = some u := by
  cases x with
  | d y =>
    cases y with
    | nilsl =>
      simp [rowsOf] at hl
      subst hl
      obtain rfl : vx = .slice none 0 0 := hx
      exact ⟨none, 0, rfl, fun _ => rfl, [], by simp, trivial, by simp⟩
    | imm l' =>
      simp [rowsOf] at hl
      subst hl
      obtain ⟨ad, cap, rfl, hcap, hh⟩ := hx
      rcases hh with rfl | ⟨b, off, cs, e, fz, c0, rfl, hb, hm, hl0, hr⟩
      · exact ⟨ad, cap, rfl, fun _ => rfl, [], by simp, trivial, by simp⟩
      · have hr2 := RelRows.take l' _ hc hr
        have hlen := RelRows.len l' _ hc hr
        refine ⟨_, cap, rfl, (fun e => by cases e), (cs.toList.drop off).take (l'.length * c), by rw [List.length_take]; omega, hr2, ?_⟩
        intro a ha j u hj
        cases ha
        rw [cells_at hb]
        rw [List.getElem?_take] at hj
        split at hj
        · rw [List.getElem?_drop] at hj
          rw [← hj, Array.getElem?_toList]
        · cases hj
    | _ => simp [rowsOf] at hl
  | sl id =>
    simp only [rowsOf] at hl
    cases ho : hget st.h id with
    | none => simp [ho] at hl
    | some o =>
      cases o with
      | cells q => simp [ho] at hl
      | mp k m => simp [ho] at hl
      | it k e m c0 => simp [ho] at hl
      | sit s p => simp [ho] at hl
      | bag s p => simp [ho] at hl
      | row c' l' =>
        simp [ho] at hl
        subst hl
        obtain ⟨hid, a0, n0, cap0, rfl⟩ := hx
        obtain ⟨v, xs, e, hv, hc', hown, hl', hr⟩ := obj_row hs.rep ho
        rw [hid] at hv
        obtain rfl := Option.some.inj hv
        rcases hown.2 with ⟨hv, h0⟩ | ⟨g', cap', cur, hv, hb, hgg, hcap, hmx, hsz, ht⟩
        · simp only [Value.slice.injEq] at hv
          obtain ⟨rfl, rfl, rfl⟩ := hv
          have : l' = [] := List.eq_nil_of_length_eq_zero h0
          subst this
          exact ⟨none, 0, rfl, fun _ => rfl, [], by simp, trivial, by simp⟩
        · simp only [Value.slice.injEq] at hv
          obtain ⟨rfl, rfl, rfl⟩ := hv
          by_cases hl0 : l' = []
          · subst hl0
            exact ⟨_, _, rfl, fun _ => rfl, [], by simp, trivial, by simp⟩
          · have hcc : c' = c := by
              obtain ⟨r, hr⟩ := List.exists_mem_of_ne_nil _ hl0
              rw [← hl' r hr, hc r hr]
            subst hcc
            exact ⟨_, _, rfl, (fun e => by cases e), xs, hown.1, hr, fun a ha => by cases ha; exact hown.cells (g := g') rfl⟩
  | _ => simp [rowsOf] at hl
theorem bytes_of_rows : ∀ (l : List (List D)) (xs : List Value), (∀ r ∈ l, r.length = 1) → xs.length = l.length → real.allB l = true → RelRows w M l xs → xs = (real.b2s l).map fun b => Value.int .u8 (b.toNat : Int)
  | [], xs, _, hx, _, _ => by simp [real]; exact List.eq_nil_of_length_eq_zero hx
  | r :: rest, xs, hl, hx, hb, ⟨h1, h2⟩ => by
    have hr := hl r (by simp)
    simp only [real, List.all_cons, Bool.and_eq_true] at hb
    obtain ⟨hb1, hb2⟩ := hb
    cases xs with
    | nil => simp at hx
    | cons x xs =>
      rw [hr] at h1 h2
      simp only [List.take_succ_cons, List.take_zero, List.drop_succ_cons, List.drop_zero] at h1 h2
      have ih := bytes_of_rows rest xs (fun y hy => hl y (by simp [hy])) (by simpa using hx) hb2 h2
      match r, hr, h1, hb1 with
      | [.int .u8 n], _, h1, hb1 =>
        simp only [byteOf] at hb1
        split at hb1
        · rename_i hn
          obtain ⟨v, q, hv, hd, hq⟩ := h1
          obtain rfl : v = .int .u8 n := hd
          simp only [List.cons.injEq] at hv
          obtain ⟨rfl, -⟩ := hv
          simp only [real, List.map_cons, byteOf, if_pos hn, Option.getD_some, List.cons.injEq]
          refine ⟨?_, ih⟩
          congr 1
          rw [UInt8.toNat_ofNat']
          omega
        · cases hb1
      | [.int .i8 _], _, _, hb1 => simp [byteOf] at hb1
      | [.int .i16 _], _, _, hb1 => simp [byteOf] at hb1
      | [.int .i32 _], _, _, hb1 => simp [byteOf] at hb1
      | [.int .i64 _], _, _, hb1 => simp [byteOf] at hb1
      | [.int .u16 _], _, _, hb1 => simp [byteOf] at hb1
      | [.int .u32 _], _, _, hb1 => simp [byteOf] at hb1
      | [.int .u64 _], _, _, hb1 => simp [byteOf] at hb1
      | [.bool _], _, _, hb1 => simp [byteOf] at hb1
      | [.str _], _, _, hb1 => simp [byteOf] at hb1
      | [.nilp], _, _, hb1 => simp [byteOf] at hb1
      | [.nilsl], _, _, hb1 => simp [byteOf] at hb1
      | [.nilm], _, _, hb1 => simp [byteOf] at hb1
      | [.nili], _, _, hb1 => simp [byteOf] at hb1
      | [.agg _], _, _, hb1 => simp [byteOf] at hb1
      | [.imm _], _, _, hb1 => simp [byteOf] at hb1
theorem conv_next (hT : TysOK P T) {K : AV → Prop} {st : St} {a : Act} {s d : Nat} {x : AV} {v : Value} (hs : RepS ρ st a w) (hx : RelV ρ w (Mut ρ st.h) x v) (h : convA T real st s d x K) :
    Nexts P ρ st w (fun st' av => st' = st ∧ K av) (convert s d v) := by
  unfold convA Ab.ty at h
  split at h
  · rename_i k' k q m hu1 hu2
    obtain rfl : v = .int q m := hx
    refine (Gives.next (K := fun st' av => st' = st ∧ K av) hs ⟨_, _, ⟨rfl, h⟩, rfl, ?_⟩)
    simp [convert, run_underlying (hT.int hu1), run_underlying (hT.int hu2), Conv.intToInt, real]
  · rename_i q hu1 hu2
    obtain rfl : v = .string ⟨q.toArray⟩ := hx
    refine (Gives.next (K := fun st' av => st' = st ∧ K av) hs ⟨_, _, ⟨rfl, h⟩, rfl, ?_⟩)
    simp [convert, run_underlying (hT.str hu1), run_underlying (hT.str hu2)]
  · rename_i e av hu1 hu2
    split at h
    · rename_i l hu3 hl
      obtain ⟨⟨hab, hwf⟩, h⟩ := h
      have hwf := rWf_iff.1 hwf
      obtain ⟨ad, cap, rfl, hn, xs, hxl, hr, hcells⟩ := rowsOf_cells hs hx hl hwf
      have hxs := bytes_of_rows l xs hwf (by omega) hab hr
      refine (Gives.next (K := fun st' av => st' = st ∧ K av) hs ⟨_, .string ⟨(real.b2s l).toArray⟩, ⟨rfl, h⟩, rfl, ?_⟩)
      have hbl : (real.b2s l).length = l.length := by simp [real]
      cases ad with
      | none =>
        have := hn rfl
        subst this
        rw [run_convert_bytes_nil w s _ (hT.slice hu1) (hT.int hu3) _ _ d (hT.str hu2)]
        rfl
      | some ad =>
        have := run_convert_bytes_back w s d _ ad cap (real.b2s l) (hT.slice hu1) (hT.int hu3) (hT.str hu2) (fun j hj => by
          refine hcells ad rfl j _ ?_
          rw [hxs, List.getElem?_map, List.getElem?_eq_getElem hj]
          rfl)
        rw [hbl] at this
        exact this
    · exact h.elim
  · rename_i e q hu1 hu2
    split at h
    · rename_i hu3
      obtain rfl : v = .string ⟨q.toArray⟩ := hx
      have hrun := run_bytes_of_string w s d e ⟨q.toArray⟩ (hT.str hu1) (hT.slice hu2) (hT.int hu3)
      have hsz : (ByteArray.mk q.toArray).size = (real.s2b q).length := by simp [real, ByteArray.size]
      refine nexts_grow hs (Grows.trans (grows_drew w) (grows_alloc _ _)) rfl rfl rfl (by simp) hrun ?_ ⟨rfl, h⟩
      refine ⟨_, _, by rw [← hsz], ?_, ?_⟩
      · rw [← hsz]; exact grownCap_ge w _ 0 e
      · refine .inr ⟨w.heap.size, 0, _, _, _, 1, rfl, Tr.blk_new w.drew _, ?_, ?_, ?_⟩
        · intro m
          exact Nat.lt_irrefl _ (Mut.lt hs.rep m)
        · intro r hr
          simp only [real, List.mem_map] at hr
          obtain ⟨b, -, rfl⟩ := hr
          rfl
        · rw [List.drop_zero]
          have h1 := s2b_rows (w := w.drew.alloc (.cells (bytesRow ⟨q.toArray⟩ (grownCap w (ByteArray.mk q.toArray).size 0 e)) e ((bytesRow ⟨q.toArray⟩ (grownCap w (ByteArray.mk q.toArray).size 0 e)).size, (bytesRow ⟨q.toArray⟩ (grownCap w (ByteArray.mk q.toArray).size 0 e)).size + 1))) (M := Mut ρ st.h) q
          have e1 : (bytesRow ⟨q.toArray⟩ (grownCap w (ByteArray.mk q.toArray).size 0 e)).toList = byteCells ⟨q.toArray⟩ ++ List.replicate (grownCap w (ByteArray.mk q.toArray).size 0 e - (ByteArray.mk q.toArray).size) (.int .u8 0) := by
            simp [bytesRow, byteCells]
          rw [e1]
          have h2 := RelRows.append (c := 1) (real.s2b q) [] _ (List.replicate (grownCap w (ByteArray.mk q.toArray).size 0 e - (ByteArray.mk q.toArray).size) (.int .u8 0)) (by
            intro r hr
            simp only [real, List.mem_map] at hr
            obtain ⟨b, -, rfl⟩ := hr
            rfl) (by rw [byteCells_length, hsz, Nat.mul_one]) h1 trivial
          rwa [List.append_nil] at h2
    · exact h.elim
  · exact h.elim
end
end Go.Proofs.Yteakfibolfapiaa.Ab
