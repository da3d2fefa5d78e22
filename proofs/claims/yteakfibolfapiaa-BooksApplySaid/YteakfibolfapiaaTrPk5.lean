/- Several texts in one: Ab10, Ab11, Ab12, Ab13, Ab14. -/
import Derived.Test.YteakfibolfapiaaTrPk4
import Derived.Laws.MakeOwn
import Derived.Laws.BytesString
section
namespace Go.Proofs.Yteakfibolfapiaa.Ab
open Go.RowKit Go.Sort
set_option linter.unusedVariables false
set_option linter.unusedSimpArgs false

section
variable {P : Program} {T : Nat → TI} {ρ : Env} {w w' : World} {M : Nat → Prop} {n : Nat} {h : Hp}
/-- What a value operation leaves. -/
def Nexts (P : Program) (ρ : Env) (st : St) (w : World) (K : St → AV → Prop) (s : Sem Value) : Prop :=
  ∃ v w' av ρ' n' h', s.run P w = .ok v w' ∧ K { st with n := n', h := h' } av ∧ Rep ρ' n' h' w' ∧ RelV ρ' w' (Mut ρ' h') av v ∧ st.n ≤ n' ∧ Goes st.n ρ st.h w ρ' h' w'
theorem Gives.nexts {st : St} {a : Act} {K : AV → Prop} {s : Sem Value} (hs : RepS ρ st a w) (g : Gives P ρ w (Mut ρ st.h) K s) : Nexts P ρ st w (fun st' v => st' = st → K v) s := by
  obtain ⟨av, v, h1, h2, h3⟩ := g
  exact ⟨v, w, av, ρ, st.n, st.h, h3, fun _ => h1, hs.rep, h2, Nat.le_refl _, Goes.refl _ _ _ _⟩
theorem Gives.next {st : St} {a : Act} {K : St → AV → Prop} {s : Sem Value} (hs : RepS ρ st a w) (g : Gives P ρ w (Mut ρ st.h) (K st) s) : Nexts P ρ st w K s := by
  obtain ⟨av, v, h1, h2, h3⟩ := g
  exact ⟨v, w, av, ρ, st.n, st.h, h3, h1, hs.rep, h2, Nat.le_refl _, Goes.refl _ _ _ _⟩
/-- An operation of which 'Nexts' holds. -/
theorem Nexts.out {st : St} {a : Act} {dst : Option Nat} {K : St → Prop} {s : Sem Value} (hs : RepS ρ st a w) (g : Nexts P ρ st w (fun st v => K (st.put dst v)) s) :
    ∃ v w', s.run P w = .ok v w' ∧ Out K st.n ρ st.h w (a.put dst v) w' := by
  obtain ⟨v, w', av, ρ', n', h', h1, h2, h3, h4, h5, h6⟩ := g
  exact ⟨v, w', h1, out_value hs h3 h4 h6 h5 h2⟩
/-- A value in a world that has grown, the places as they were. -/
theorem nexts_grow {st : St} {a : Act} {K : St → AV → Prop} {s : Sem Value} {av : AV} {v : Value} (hs : RepS ρ st a w) (g : Grows w w') (ho : w'.os = w.os) (ht : w'.tape = w.tape) (hp : w'.output = w.output) (hz : w.heap.size ≤ w'.heap.size)
    (hr : s.run P w = .ok v w') (rel : RelV ρ w' (Mut ρ st.h) av v) (hK : K st av) : Nexts P ρ st w K s :=
  ⟨v, w', av, ρ, st.n, st.h, hr, hK, hs.rep.grow g, rel, Nat.le_refl _, goes_grow g ho ht hp hz⟩
/-- A new place. -/
theorem nexts_new {st : St} {a : Act} {K : St → AV → Prop} {s : Sem Value} {av : AV} {v pv : Value} {o : Ob} (hs : RepS ρ st a w) (g : Grows w w') (hos : w'.os = w.os) (ht : w'.tape = w.tape) (hp : w'.output = w.output) (hz : w.heap.size ≤ w'.heap.size)
    (hr : s.run P w = .ok v w') (hb : ∀ b, blkIn pv b → w.heap.size ≤ b)
    (ho : Keeps w (Mut ρ st.h) w' (Mut (upd ρ st.n pv) (st.h ++ [(st.n, o)])) → RelO (upd ρ st.n pv) w' (Mut (upd ρ st.n pv) (st.h ++ [(st.n, o)])) st.n o)
    (rel : RelV (upd ρ st.n pv) w' (Mut (upd ρ st.n pv) (st.h ++ [(st.n, o)])) av v) (hK : K { st with n := st.n + 1, h := st.h ++ [(st.n, o)] } av) : Nexts P ρ st w K s :=
  ⟨v, w', av, upd ρ st.n pv, st.n + 1, st.h ++ [(st.n, o)], hr, hK, hs.rep.new g hb ho, rel, by omega, goes_new hs.rep g hb hos ht hp hz⟩

theorem bagOf_mem : ∀ {h : Hp} {id c : Nat} {L : List (Value × List (List D))}, bagOf h = some (id, c, L) → (id, .bag c L) ∈ h
  | [], _, _, _, e => by simp [bagOf] at e
  | (i, o) :: r, id, c, L, e => by
    cases o with
    | bag c2 l2 =>
      simp only [bagOf, Option.some.injEq, Prod.mk.injEq] at e
      obtain ⟨rfl, rfl, rfl⟩ := e
      exact List.mem_cons_self ..
    | cells l => exact List.mem_cons_of_mem _ (bagOf_mem (h := r) e)
    | row c l => exact List.mem_cons_of_mem _ (bagOf_mem (h := r) e)
    | mp k l => exact List.mem_cons_of_mem _ (bagOf_mem (h := r) e)
    | it k e2 l c0 => exact List.mem_cons_of_mem _ (bagOf_mem (h := r) e)
    | sit s p => exact List.mem_cons_of_mem _ (bagOf_mem (h := r) e)
theorem rowsOf_src {st : St} {a : Act} {x : AV} {vx : Value} {l : List (List D)} {c t' e' : Nat} (hs : RepS ρ st a w) (hx : RelV ρ w (Mut ρ st.h) x vx) (hl : rowsOf st x = some l) (ht' : P.underlying t' = some (.slice e'))
    (hc : ∀ r ∈ l, r.length = c ∧ ∀ d ∈ r, flatD d = true) : ∃ news, Src P c t' vx l.length news w ∧ RelRows w (Mut ρ st.h) l news := by
  cases x with
  | d y =>
    cases y with
    | nilsl =>
      simp [rowsOf] at hl
      subst hl
      obtain rfl : vx = .slice none 0 0 := hx
      exact ⟨[], Src.ofNil w ht' 0, trivial⟩
    | imm l' =>
      simp [rowsOf] at hl
      subst hl
      obtain ⟨ad, cap, rfl, hcap, hh⟩ := hx
      rcases hh with rfl | ⟨b, off, cs, e, fz, c0, rfl, hb, hm, hl0, hr⟩
      · cases ad with
        | none => exact ⟨[], Src.ofNil w ht' cap, trivial⟩
        | some ad => exact ⟨[], Src.ofSlice w ht' ad 0 cap [] (by simp) (by simp) (by simp), trivial⟩
      · have hr2 := RelRows.take l' _ (fun r hr => (hc r hr).1) hr
        have hlen := RelRows.len l' _ (fun r hr => (hc r hr).1) hr
        have hlen2 : ((cs.toList.drop off).take (l'.length * c)).length = l'.length * c := by rw [List.length_take]; omega
        refine ⟨_, Src.ofSlice w ht' ⟨b, off, none⟩ l'.length cap ((cs.toList.drop off).take (l'.length * c)) hlen2 ?_ (RelRows.one (c := c) l' _ hc hlen2 hr2), hr2⟩
        intro j u hj
        rw [cells_at hb]
        rw [List.getElem?_take] at hj
        split at hj
        · rw [List.getElem?_drop] at hj
          rw [← hj, Array.getElem?_toList]
        · cases hj
    | _ => simp [rowsOf] at hl
  | sl id =>
    simp only [rowsOf] at hl
    cases ho : hget st.h id with
    | none => simp [ho] at hl
    | some o =>
      cases o with
      | cells q => simp [ho] at hl
      | mp k m => simp [ho] at hl
      | it k e m c0 => simp [ho] at hl
      | sit s p => simp [ho] at hl
      | bag s p => simp [ho] at hl
      | row c' l' =>
        simp [ho] at hl
        subst hl
        obtain ⟨hid, a0, n0, cap0, rfl⟩ := hx
        obtain ⟨v, xs, e, hv, hc', hown, hl', hr⟩ := obj_row hs.rep ho
        rw [hid] at hv
        obtain rfl := Option.some.inj hv
        have hlen := hown.1
        have hr0 := hr
        rcases hown.2 with ⟨hv, h0⟩ | ⟨g', cap', cur, hv, hb, hgg, hcap, hmx, hsz, ht⟩
        · simp only [Value.slice.injEq] at hv
          obtain ⟨rfl, rfl, rfl⟩ := hv
          have : l' = [] := List.eq_nil_of_length_eq_zero h0
          subst this
          exact ⟨[], Src.ofNil w ht' 0, trivial⟩
        · simp only [Value.slice.injEq] at hv
          obtain ⟨rfl, rfl, rfl⟩ := hv
          by_cases hl0 : l' = []
          · subst hl0
            exact ⟨[], Src.ofSlice w ht' _ 0 _ [] (by simp) (by simp) (by simp), trivial⟩
          · have hcc : c' = c := by
              obtain ⟨r, hr⟩ := List.exists_mem_of_ne_nil _ hl0
              rw [← hl' r hr, (hc r hr).1]
            subst hcc
            exact ⟨xs, Src.ofSlice w ht' ⟨g', 0, none⟩ l'.length _ xs hlen (hown.cells (g := g') rfl) (RelRows.one (c := c') l' _ hc hlen hr0), hr0⟩
  | _ => simp [rowsOf] at hl
theorem src_sound (hT : TysOK P T) {st : St} {a : Act} {x : AV} {vx : Value} {l : List (List D)} {c t' : Nat} (hs : RepS ρ st a w) (hx : RelV ρ w (Mut ρ st.h) x vx) (hl : srcA T real st t' c x = some l)
    (hc : ∀ r ∈ l, r.length = c ∧ ∀ d ∈ r, flatD d = true) : ∃ news, Src P c t' vx l.length news w ∧ RelRows w (Mut ρ st.h) l news := by
  unfold srcA at hl
  split at hl
  · rename_i v
    split at hl
    · rename_i hu
      cases hb : c == 1 with
      | false => simp [hb] at hl
      | true =>
        simp [hb] at hl
        subst hl
        have hc1 : c = 1 := by simpa using hb
        subst hc1
        obtain rfl : vx = .string ⟨v.toArray⟩ := hx
        refine ⟨_, ?_, s2b_rows v⟩
        have h1 := Src.ofString (P := P) w (hT.str hu) ⟨v.toArray⟩
        have h2 : (ByteArray.mk v.toArray).size = (real.s2b v).length := by simp [real, ByteArray.size]
        rw [h2] at h1
        exact h1
    · cases hl
  · rename_i hne
    split at hl
    · rename_i e hu
      exact rowsOf_src hs hx hl (hT.slice hu) hc
    · cases hl
theorem apok_spec {l l' : List (List D)} {c bytes : Nat} (h : real.apok l l' c bytes = true) : l.length + l'.length ≤ maxLen ∧ (l.length + l'.length) * bytes ≤ 140737488355328 ∧ ∀ r ∈ l', r.length = c ∧ ∀ d ∈ r, flatD d = true := by
  simp only [real, Bool.and_eq_true, decide_eq_true_eq, List.all_eq_true, beq_iff_eq] at h
  exact ⟨h.1.1, h.1.2, h.2⟩
theorem zeroD_rel {v : Value} {z : List D} (h : zeroD v = some z) : RelDs w M z v.cells.toList := by
  unfold zeroD at h
  split at h
  · exact cdatas_rel _ _ h
  · rename_i hne
    cases hd : cdata v with
    | none => simp [hd] at h
    | some d =>
      simp [hd] at h
      subst h
      have : v.cells.toList = [v] := by cases v <;> first | rfl | exact absurd rfl (hne _)
      rw [this]
      exact ⟨v, [], rfl, cdata_rel hd, rfl⟩
/-- What a run is told of a type whose zero value it knows. -/
theorem TysOK.zero (hT : TysOK P T) {t : Nat} {z : List D} (hs : (T t).size ≠ 0) (hz : (T t).zero = some z) : ∃ i v, P.info? t = some i ∧ i.zero = some v ∧ zeroD v = some z ∧ i.size = (T t).size ∧ i.bytes = (T t).bytes := by
  obtain ⟨i, d, hi, hd, hu, hs, hb, h0, -⟩ := hT.of_size hs
  rcases h0 with h0 | h0
  · rw [h0] at hz; cases hz
  · rw [h0] at hz
    cases hv : i.zero with
    | none => rw [hv] at hz; cases hz
    | some v =>
      rw [hv] at hz
      exact ⟨i, v, hi, hv, hz, hs.symm, hb.symm⟩

theorem append_sound (hT : TysOK P T) {st : St} {a : Act} {t t' : Nat} {ty : TypeId} {s x : AV} {vs vx : Value} {K : St → AV → Prop} (hs : RepS ρ st a w) (hsv : RelV ρ w (Mut ρ st.h) s vs) (hx : RelV ρ w (Mut ρ st.h) x vx)
    (hA : appendA T real st t t' s x K) : Nexts P ρ st w K (Builtin.append_ #[t, t'] ty #[vs, vx]) := by
  unfold appendA Ab.ty at hA
  split at hA
  case h_2 => exact hA.elim
  rename_i e hu
  dsimp only at hA
  cases hsrc : srcA T real st t' (T e).size x with
  | none => simp [hsrc] at hA
  | some l' =>
    cases hz : (T e).zero with
    | none => simp [hsrc, hz] at hA
    | some z =>
      simp only [hsrc, hz] at hA
      obtain ⟨hcz, hA⟩ := bif_true hA not_false
      simp only [Bool.and_eq_true, beq_iff_eq] at hcz
      have hc0 := Nat.le_of_ble_eq_true hcz.1
      have hu' := hT.slice hu
      obtain ⟨i, zv, hi, hiz, hzd, his, hib⟩ := hT.zero (by omega) hz
      have hzs : zv.cells.size = i.size := by
        have h9 : z.length = zv.cells.toList.length := RelDs.length _ _ (zeroD_rel (w := w) (M := fun _ => False) hzd)
        have h8 : zv.cells.toList.length = zv.cells.size := Array.length_toList
        omega
      -- what was there, as a row
      have key : ∀ (l : List (List D)) (v : Value) (xs : List Value) (ty0 : TypeId), w.ownsRow 0 ty0 (T e).size v l.length xs → (∀ r ∈ l, r.length = (T e).size) → RelRows w (Mut ρ st.h) l xs → real.apok l l' (T e).size (T e).bytes = true →
          ∃ v' w' ty' news, (Builtin.append_ #[t, t'] ty #[v, vx]).run P w = .ok v' w' ∧ w'.ownsRow 0 ty' (T e).size v' (l ++ l').length (xs ++ news) ∧ w.grownBy w' v.ownBlock ∧ (∃ a q cap, v' = .slice a q cap) ∧
            (blkOf v' = blkOf v ∨ ∀ b, blkOf v' = some b → w.heap.size ≤ b) ∧ RelRows w (Mut ρ st.h) (l ++ l') (xs ++ news) ∧ ∀ r ∈ l ++ l', r.length = (T e).size := by
        intro l v xs ty0 hown hl hr hok
        obtain ⟨h1, h2, h3⟩ := apok_spec hok
        obtain ⟨news, hsr, hrn⟩ := src_sound hT hs hx hsrc h3
        rw [← his] at hsr hown
        obtain ⟨v', w', ty', g1, g2, g3, g4, g5⟩ := append_run (ty := ty) hu' hi hiz hzs (by omega) hown hsr h1 (by rw [hib]; exact h2)
        refine ⟨v', w', ty', news, g1, by rw [List.length_append, ← his]; exact g2, g3, g4, g5, RelRows.append (c := (T e).size) l l' xs news hl (by rw [hown.1, his]) hr hrn, ?_⟩
        intro r hr
        rcases List.mem_append.1 hr with hr | hr
        · exact hl r hr
        · exact (h3 r hr).1
      have hob : ∀ v : Value, (∃ a q cap, v = .slice a q cap) → v.ownBlock = blkOf v := by
        rintro v ⟨a, q, cap, rfl⟩
        cases a <;> rfl
      cases s with
      | d y =>
        cases y with
        | nilsl =>
          obtain ⟨hok, hK⟩ := hA
          obtain rfl : vs = .slice none 0 0 := hsv
          obtain ⟨v', w', ty', news, g1, g2, g3, g4, g5, g6, g7⟩ := key [] (.slice none 0 0) [] e (World.ownsRow_nil w 0 e _) (by simp) trivial hok
          have hgr : Grows w w' := fun b o hb => by rw [g3.block b (lt_of_get hb) (by simp [Value.ownBlock])]; exact hb
          have hbn : ∀ b, blkIn v' b → w.heap.size ≤ b := by
            intro b hb
            have hb := ownsRow_in g2 hb
            rcases g5 with g5 | g5
            · rw [g5] at hb; cases hb
            · exact g5 b hb
          refine nexts_new (av := .sl st.n) (pv := v') (o := .row (T e).size (real.app [] l')) hs hgr g3.os g3.tape g3.output g3.size g1 hbn (fun hk => ?_) ⟨upd_same _ _ _, g4⟩ hK
          exact ⟨v', _, ty', upd_same _ _ _, by omega, g2, g7, RelRows.mono hk _ _ g6⟩
        | _ => exact hA.elim
      | sl id =>
        dsimp only at hA
        cases ho : hget st.h id with
        | none => simp [ho] at hA
        | some o =>
          cases o with
          | cells q => simp [ho] at hA
          | mp k m => simp [ho] at hA
          | it k e m c0 => simp [ho] at hA
          | sit s p => simp [ho] at hA
          | bag s p => simp [ho] at hA
          | row c' l =>
            simp only [ho] at hA
            obtain ⟨⟨rfl, hok⟩, hK⟩ := hA
            obtain ⟨hid, hsl⟩ := hsv
            obtain ⟨v, xs, ty0, hv, hc', hown, hl, hr⟩ := obj_row hs.rep ho
            rw [hid] at hv
            obtain rfl := Option.some.inj hv
            obtain ⟨v', w', ty', news, g1, g2, g3, g4, g5, g6, g7⟩ := key l vs xs ty0 hown hl hr hok
            rw [hob vs hsl] at g3
            have hw : ∀ k, k < w.heap.size → ¬ blkIn vs k → w'.heap[k]? = w.heap[k]? := fun k hk hne => g3.block k hk (fun e => hne (in_of_row hown e.symm))
            have g5' : ∀ b, blkIn v' b → blkIn vs b ∨ w.heap.size ≤ b := fun b hb => by
              have hb := ownsRow_in g2 hb
              rcases g5 with g5 | g5
              · exact .inl (in_of_row hown (by rw [← g5]; exact hb))
              · exact .inr (g5 b hb)
            obtain ⟨hrep, hmb⟩ := hs.rep.exch (o := .row (T e).size (l ++ l')) (hget_mem ho) hid hw g5' (fun hk => ⟨v', _, ty', upd_same _ _ _, hc', g2, g7, RelRows.mono hk _ _ g6⟩)
            refine ⟨v', w', .sl st.n, _, _, _, g1, hK, hrep, ⟨upd_same _ _ _, g4⟩, by omega, ⟨g3.os, g3.tape, g3.output, g3.size, ?_, hmb, upd_ext _ _ _, rfl⟩⟩
            intro b hb hm
            exact hw b hb (fun e => hm ⟨id, _, vs, hget_mem ho, hid, e⟩)
      | raw v0 =>
        dsimp only at hA
        cases hbg : bagOf st.h with
        | none => simp [hbg] at hA
        | some q =>
          obtain ⟨id, c', L⟩ := q
          simp only [hbg] at hA
          obtain ⟨rfl, ⟨xs, L', hcs, hok, hK⟩⟩ := hA
          obtain ⟨rfl, a0, n0, cap0, hsl⟩ := hsv
          have hm := bagOf_mem hbg
          obtain ⟨vsb, hid, hvs, hc', hL, hP⟩ := hs.rep.objs id _ hm
          have hin : ∀ p ∈ L, ∀ b, blkOf p.1 = some b → blkIn (.tuple vsb) b := fun p hp b hb => ⟨p.1, by rw [hvs]; exact List.mem_map.2 ⟨p, hp, rfl⟩, hb⟩
          have hsub : (∀ p ∈ L', p ∈ L) ∧ (∀ p ∈ L', ∀ b, blkOf p.1 = some b → blkOf vs ≠ some b) ∧ (L'.Pairwise fun p q => ∀ b, blkOf p.1 = some b → blkOf q.1 ≠ some b) ∧ (∀ b, blkOf vs = some b → blkIn (.tuple vsb) b) ∧
              ∃ cs ty0, w.ownsRow 0 ty0 (T e).size vs xs.length cs ∧ (∀ r ∈ xs, r.length = (T e).size) ∧ RelRows w (Mut ρ st.h) xs cs := by
            rcases hcs with ⟨rfl, rfl, rfl⟩ | ⟨A, B, rfl, rfl⟩
            · exact ⟨fun p hp => hp, (fun p _ b _ h => by cases h), hP, (fun b h => by cases h), [], e, World.ownsRow_nil w 0 e _, (fun r hr => by cases hr), trivial⟩
            · rw [List.pairwise_append] at hP
              obtain ⟨p1, p2, p3⟩ := hP
              rw [List.pairwise_cons] at p2
              have hpm : ∀ p ∈ A ++ B, p ∈ A ++ (vs, xs) :: B := fun p hp => by
                rcases List.mem_append.1 hp with hp | hp
                · exact List.mem_append_left _ hp
                · exact List.mem_append_right _ (List.mem_cons_of_mem _ hp)
              refine ⟨hpm, ?_, ?_, hin (vs, xs) (by simp), hL (vs, xs) (by simp)⟩
              · intro p hp b hb
                rcases List.mem_append.1 hp with hp | hp
                · exact p3 p hp (vs, xs) (by simp) b hb
                · exact fun h => p2.1 p hp b h hb
              · rw [List.pairwise_append]
                exact ⟨p1, p2.2, fun a ha b hb => p3 a ha b (List.mem_cons_of_mem _ hb)⟩
          obtain ⟨k1, k2, k3, k4, cs, ty0, hown, hl, hr⟩ := hsub
          obtain ⟨v', w', ty', news, g1, g2, g3, g4, g5, g6, g7⟩ := key xs vs cs ty0 hown hl hr hok
          rw [hob vs ⟨a0, n0, cap0, hsl⟩] at g3
          have hw : ∀ k, k < w.heap.size → ¬ blkIn (.tuple vsb) k → w'.heap[k]? = w.heap[k]? := fun k hk hne => g3.block k hk (fun e => hne (k4 k e.symm))
          have hbl : ∀ p ∈ L, ∀ b, blkOf p.1 = some b → b < w.heap.size := fun p hp b hb => by
            obtain ⟨cs2, ty2, h2, -⟩ := hL p hp
            obtain ⟨c3, f3, h3⟩ := ownsRow_blk h2 hb
            exact lt_of_get h3
          have g5' : ∀ b, blkIn (.tuple ⟨v' :: L'.map (·.1)⟩) b → blkIn (.tuple vsb) b ∨ w.heap.size ≤ b := by
            rintro b ⟨u, hu, hb⟩
            rcases List.mem_cons.1 hu with rfl | hu
            · rcases g5 with g5 | g5
              · exact .inl (k4 b (by rw [← g5]; exact hb))
              · exact .inr (g5 b hb)
            · obtain ⟨p, hp, rfl⟩ := List.mem_map.1 hu
              exact .inl (hin p (k1 p hp) b hb)
          obtain ⟨hrep, hmb⟩ := hs.rep.exch (v' := .tuple ⟨v' :: L'.map (·.1)⟩) (o := .bag (T e).size ((v', xs ++ l') :: L')) hm hid hw g5' (fun hk => by
            refine ⟨⟨v' :: L'.map (·.1)⟩, upd_same _ _ _, rfl, hc', ?_, ?_⟩
            · intro p hp
              rcases List.mem_cons.1 hp with rfl | hp
              · exact ⟨_, ty', g2, g7, RelRows.mono hk _ _ g6⟩
              · obtain ⟨cs2, ty2, h2, h3, h4⟩ := hL p (k1 p hp)
                refine ⟨cs2, ty2, ownsRow_of_block (fun b hb => g3.block b (hbl p (k1 p hp) b hb) (fun e => k2 p hp b hb e.symm)) h2, h3, RelRows.mono hk _ _ h4⟩
            · rw [List.pairwise_cons]
              refine ⟨fun p hp b hb hb2 => ?_, k3⟩
              rcases g5 with g5 | g5
              · exact k2 p hp b hb2 (by rw [← g5]; exact hb)
              · have h1 := g5 b hb
                have h2 := hbl p (k1 p hp) b hb2
                omega)
          refine ⟨v', w', .raw v', _, _, _, g1, hK v' g4, hrep, ⟨rfl, g4⟩, by omega, ⟨g3.os, g3.tape, g3.output, g3.size, ?_, hmb, upd_ext _ _ _, rfl⟩⟩
          intro b hb hm2
          exact hw b hb (fun e => hm2 ⟨id, _, _, hm, hid, e⟩)
      | _ => exact hA.elim
end
end Go.Proofs.Yteakfibolfapiaa.Ab
end
section
namespace Go.Proofs.Yteakfibolfapiaa.Ab
open Go.RowKit Go.Sort
set_option linter.unusedVariables false
set_option linter.unusedSimpArgs false

section
variable {P : Program} {T : Nat → TI} {ρ : Env} {w w' : World} {M : Nat → Prop} {n : Nat} {h : Hp}
theorem rWf_iff {l : List (List D)} {c : Nat} : rWf l c = true ↔ ∀ r ∈ l, r.length = c := by simp [rWf]
theorem isPtr_addr {x : AV} {v : Value} (hp : isPtr x = true) (h : RelV ρ w M x v) : ∃ b o, v = .pointer (some ⟨b, o, none⟩) := by
  cases x with
  | ptr id off => obtain ⟨b, hb, rfl⟩ := h; exact ⟨_, _, rfl⟩
  | iptr l i f => obtain ⟨b, off, cs, e, fz, c, rfl, -⟩ := h; exact ⟨_, _, rfl⟩
  | rptr id c i f => obtain ⟨g, n, cap, hb, h0, rfl⟩ := h; exact ⟨_, _, rfl⟩
  | aptr id off n c i f => obtain ⟨b, hb, h0, h1, rfl⟩ := h; exact ⟨_, _, rfl⟩
  | _ => simp [isPtr] at hp
theorem field_rel {x : AV} {b o k : Nat} (hp : isPtr x = true) (h : RelV ρ w M x (.pointer (some ⟨b, o, none⟩))) : RelV ρ w M (fieldA k x) (.pointer (some ⟨b, o + k, none⟩)) := by
  cases x with
  | ptr id off =>
    obtain ⟨b', hb, hv⟩ := h
    simp only [Value.pointer.injEq, Option.some.injEq, Addr.mk.injEq, and_true] at hv
    obtain ⟨rfl, rfl⟩ := hv
    exact ⟨b, hb, rfl⟩
  | iptr l i f =>
    obtain ⟨b', off, cs, e, fz, c, hv, r⟩ := h
    simp only [Value.pointer.injEq, Option.some.injEq, Addr.mk.injEq, and_true] at hv
    obtain ⟨rfl, rfl⟩ := hv
    exact ⟨b, off, cs, e, fz, c, by simp only [Nat.add_assoc], r⟩
  | rptr id c i f =>
    obtain ⟨g, n, cap, hb, h0, hv⟩ := h
    simp only [Value.pointer.injEq, Option.some.injEq, Addr.mk.injEq, and_true] at hv
    obtain ⟨rfl, rfl⟩ := hv
    exact ⟨b, n, cap, hb, h0, by simp only [Nat.add_assoc]⟩
  | aptr id off n c i f =>
    obtain ⟨b', hb, h0, h1, hv⟩ := h
    simp only [Value.pointer.injEq, Option.some.injEq, Addr.mk.injEq, and_true] at hv
    obtain ⟨rfl, rfl⟩ := hv
    exact ⟨b, hb, h0, h1, by simp only [Nat.add_assoc]⟩
  | _ => simp [isPtr] at hp
theorem fieldAddr_gives (hT : TysOK P T) {K : AV → Prop} {s f : Nat} {x : AV} {v : Value} (hx : RelV ρ w M x v)
    (h : match (ty T s).u with
      | .struct fs => (match fs[f]? with | some (off, ft) => (bif (ty T ft).size == 0 then False else bif isPtr x then K (fieldA off x) else False) | none => False)
      | _ => False) : GivesA P ρ w M K (Instr.fieldAt s v f) := by
  unfold Ab.ty at h
  split at h
  · rename_i fs hu
    obtain ⟨gs, hg, rfl⟩ := hT.struct hu
    cases hf : (gs.toList.map fun f => (f.offset, f.type))[f]? with
    | none => simp [hf] at h
    | some q =>
      obtain ⟨off, ft⟩ := q
      simp only [hf] at h
      rw [List.getElem?_map] at hf
      cases hgf : gs.toList[f]? with
      | none => rw [hgf] at hf; cases hf
      | some fd =>
        rw [hgf] at hf
        simp only [Option.map_some, Option.some.injEq, Prod.mk.injEq] at hf
        obtain ⟨rfl, rfl⟩ := hf
        have hgf' : gs[f]? = some fd := by simpa using hgf
        cases hsz : (T fd.type).size == 0 with
        | true => simp [hsz] at h
        | false =>
          have hs0 : (T fd.type).size ≠ 0 := by simpa using hsz
          simp only [hsz, cond_false] at h
          obtain ⟨hp, h⟩ := bif_true h not_false
          obtain ⟨b, o, rfl⟩ := isPtr_addr hp hx
          refine ⟨_, _, h, field_rel hp hx, fun u _ => ?_⟩
          have e : (⟨b, o, none⟩ : Addr).add fd.offset = ⟨b, o + fd.offset, none⟩ := addr_add b o fd.offset
          simp [Instr.fieldAt, run_underlying hg, hgf', Instr.sureAddr, fieldPlace, hT.size hs0, hs0, e]
  · exact h.elim
theorem run_part (hT : TysOK P T) {t off : Nat} {l : List AV} {cs : Array Value} {v : AV} (hs0 : (T t).size ≠ 0) (h : RelVs ρ w M l cs.toList) (hp : partOf l off (T t).size (isAggT (T t)) = some v) :
    ∃ x, RelV ρ w M v x ∧ ∀ u, (part t cs off).run P u = .ok x u := by
  cases ha : isAggT (T t) with
  | true =>
    rw [ha] at hp
    obtain ⟨hle, hr⟩ := part_rel h hp
    refine ⟨_, hr, fun u => ?_⟩
    have e : cs.extract off (off + (T t).size) = ((cs.toList.drop off).take (T t).size).toArray := by
      apply Array.ext'
      simp [Array.toList_extract, List.extract_eq_take_drop, Nat.add_sub_cancel_left]
    simp [part, hT.agg hs0, ha, hT.size hs0, e]
  | false =>
    rw [ha] at hp
    obtain ⟨x, hx, hr⟩ := part_one h hp
    have hx' : cs[off]? = some x := by simpa using hx
    refine ⟨x, hr, fun u => ?_⟩
    simp [part, hT.agg hs0, ha, hx']
theorem field_gives (hT : TysOK P T) {K : AV → Prop} {s f : Nat} {x : AV} {v : Value} (hx : RelV ρ w M x v)
    (h : match (ty T s).u, aggOf x with
      | .struct fs, some l => (match fs[f]? with | some (off, ft) => (match (bif Nat.blt 0 (ty T ft).size then partOf l off (ty T ft).size (isAggT (ty T ft)) else none) with | some v => K v | none => False) | none => False)
      | _, _ => False) : GivesA P ρ w M K (Instr.field s v f) := by
  unfold Ab.ty at h
  split at h
  · rename_i fs l hu hl
    obtain ⟨gs, hg, rfl⟩ := hT.struct hu
    obtain ⟨cs, rfl, hcs⟩ := aggOf_rel hx hl
    cases hf : (gs.toList.map fun f => (f.offset, f.type))[f]? with
    | none => simp [hf] at h
    | some q =>
      obtain ⟨off, ft⟩ := q
      simp only [hf] at h
      rw [List.getElem?_map] at hf
      cases hgf : gs.toList[f]? with
      | none => rw [hgf] at hf; cases hf
      | some fd =>
        rw [hgf] at hf
        simp only [Option.map_some, Option.some.injEq, Prod.mk.injEq] at hf
        obtain ⟨rfl, rfl⟩ := hf
        have hgf' : gs[f]? = some fd := by simpa using hgf
        cases hb : Nat.blt 0 (T fd.type).size with
        | false => simp [hb] at h
        | true =>
          have hs0 : (T fd.type).size ≠ 0 := by have := Nat.le_of_ble_eq_true hb; omega
          simp only [hb, cond_true] at h
          cases hp : partOf l fd.offset (T fd.type).size (isAggT (T fd.type)) with
          | none => simp [hp] at h
          | some av =>
            simp only [hp] at h
            obtain ⟨y, hr, hrun⟩ := run_part hT hs0 hcs hp
            exact ⟨av, y, h, hr, fun u _ => by simp [Instr.field, run_underlying hg, hgf', asAgg, hrun]⟩
  · exact h.elim
theorem constI_eq {st : St} {ix : Operand} {j : Int} (h : constI ix = some j) : ∃ k, st.ev ix = .d (.int k j) ∧ ∃ v, ix = .const v ∧ v = .int k j := by
  unfold constI at h
  split at h
  · rename_i k n
    cases h
    exact ⟨k, rfl, _, rfl, rfl⟩
  · cases h
theorem indexAddr_gives (hT : TysOK P T) {K : AV → Prop} {st : St} {a : Act} {t : Nat} {x : AV} {v : Value} {ix : Operand} (hs : RepS ρ st a w) (hx : RelV ρ w (Mut ρ st.h) x v) (h : indexAddrA T real st t x ix K) :
    GivesA P ρ w (Mut ρ st.h) K (Instr.indexAt t v (a.eval ix)) := by
  have hix := ev_rel hs ix
  unfold indexAddrA Ab.ty at h
  split at h
  case h_2 => exact h.elim
  rename_i k i hev
  rw [hev] at hix
  have hvi : a.eval ix = .int k i := hix
  rw [hvi]
  split at h
  · rename_i len e hu
    have hu' := hT.array hu
    obtain ⟨hb, h1⟩ := bif_true h not_false
    replace h := h1
    clear h1
    have hs0 : (T e).size ≠ 0 := by have := Nat.le_of_ble_eq_true hb; omega
    have go : ∀ (b o : Nat) (av : AV), v = .pointer (some ⟨b, o, none⟩) → 0 ≤ i → i < (len : Int) → K av → RelV ρ w (Mut ρ st.h) av (.pointer (some ⟨b, o + i.toNat * (T e).size, none⟩)) → GivesA P ρ w (Mut ρ st.h) K (Instr.indexAt t v (.int k i)) := by
      rintro b o av rfl h0 h1 hk hr
      refine ⟨av, _, hk, hr, fun u _ => ?_⟩
      have e1 : (⟨b, o, none⟩ : Addr).add (i.toNat * (T e).size) = ⟨b, o + i.toNat * (T e).size, none⟩ := addr_add _ _ _
      simp [Instr.indexAt, asIntOf, run_underlying hu', Instr.sureAddr, h0, h1, hT.size hs0, e1]
    have cst : ∀ j : Nat, constI ix = some (.ofNat j) → i = (j : Int) := by
      intro j hj
      obtain ⟨k', hev', -⟩ := constI_eq (st := st) hj
      rw [hev] at hev'
      simp only [AV.d.injEq, D.int.injEq] at hev'
      exact hev'.2
    cases x with
    | ptr id off =>
      obtain ⟨b, hb, rfl⟩ := hx
      cases hj : constI ix with
      | none =>
        simp only [hj] at h
        obtain ⟨hin, h⟩ := h
        have hin : 0 ≤ i ∧ i < (len : Int) := by simpa [real] using hin
        exact go b off _ rfl hin.1 hin.2 h ⟨b, hb, hin.1, hin.2, by simp⟩
      | some z =>
        cases z with
        | negSucc j => simp [hj] at h
        | ofNat j =>
          simp only [hj] at h
          obtain ⟨hlt, hk⟩ := bif_true h not_false
          have hlt := Nat.le_of_ble_eq_true hlt
          have hi := cst j hj
          subst hi
          exact go b off _ rfl (by omega) (by omega) hk ⟨b, hb, by simp⟩
    | rptr id c i' f =>
      obtain ⟨g, n, cap, hb, h0, rfl⟩ := hx
      cases hj : constI ix with
      | none => simp [hj] at h
      | some z =>
        cases z with
        | negSucc j => simp [hj] at h
        | ofNat j =>
          simp only [hj] at h
          obtain ⟨hlt, hk⟩ := bif_true h not_false
          have hlt := Nat.le_of_ble_eq_true hlt
          have hi := cst j hj
          subst hi
          exact go g (i'.toNat * c + f) _ rfl (by omega) (by omega) hk ⟨g, n, cap, hb, h0, by simp [Nat.add_assoc]⟩
    | iptr l i' f =>
      obtain ⟨b, off, cs, e', fz, c, rfl, h0, r⟩ := hx
      cases hj : constI ix with
      | none => simp [hj] at h
      | some z =>
        cases z with
        | negSucc j => simp [hj] at h
        | ofNat j =>
          simp only [hj] at h
          obtain ⟨hlt, hk⟩ := bif_true h not_false
          have hlt := Nat.le_of_ble_eq_true hlt
          have hi := cst j hj
          subst hi
          exact go b (off + i'.toNat * c + f) _ rfl (by omega) (by omega) hk ⟨b, off, cs, e', fz, c, by simp [Nat.add_assoc], h0, r⟩
    | _ => exact h.elim
  · rename_i e hu
    have hu' := hT.slice hu
    obtain ⟨hb, h1⟩ := bif_true h not_false
    replace h := h1
    clear h1
    have hs0 : (T e).size ≠ 0 := by have := Nat.le_of_ble_eq_true hb; omega
    have go : ∀ (b o n cap : Nat) (av : AV), v = .slice (some ⟨b, o, none⟩) n cap → 0 ≤ i → i < (n : Int) → K av → RelV ρ w (Mut ρ st.h) av (.pointer (some ⟨b, o + i.toNat * (T e).size, none⟩)) → GivesA P ρ w (Mut ρ st.h) K (Instr.indexAt t v (.int k i)) := by
      rintro b o n cap av rfl h0 h1 hk hr
      refine ⟨av, _, hk, hr, fun u _ => ?_⟩
      have e1 : (⟨b, o, none⟩ : Addr).add (i.toNat * (T e).size) = ⟨b, o + i.toNat * (T e).size, none⟩ := addr_add _ _ _
      simp [Instr.indexAt, asIntOf, run_underlying hu', h0, h1, hT.size hs0, e1]
    cases x with
    | sl id =>
      obtain ⟨hid, a0, n0, cap0, rfl⟩ := hx
      cases ho : hget st.h id with
      | none => simp [ho] at h
      | some ob =>
        cases ob with
        | cells q => simp [ho] at h
        | mp k m => simp [ho] at h
        | it k e m c0 => simp [ho] at h
        | sit s p => simp [ho] at h
        | bag s p => simp [ho] at h
        | row c l =>
          simp only [ho] at h
          obtain ⟨⟨rfl, hin⟩, h⟩ := h
          have hin : 0 ≤ i ∧ i < (l.length : Int) := by simpa [real] using hin
          obtain ⟨v', xs, e', hv, hc, hown, hl, hr⟩ := obj_row hs.rep ho
          rw [hid] at hv
          obtain rfl := Option.some.inj hv
          rcases hown.2 with ⟨hv, h0⟩ | ⟨g', cap', cur, hv, hb, hgg, hcap, hmx, hsz, ht⟩
          · rw [h0] at hin
            have h3 := hin.1; have h4 := hin.2
            simp at h4
            omega
          · simp only [Value.slice.injEq] at hv
            obtain ⟨rfl, rfl, rfl⟩ := hv
            exact go g' 0 _ _ _ rfl hin.1 hin.2 h ⟨g', _, _, hid, hin.1, by simp⟩
    | d y =>
      cases y with
      | imm l =>
        obtain ⟨⟨hin, hwf⟩, h⟩ := h
        have hin : 0 ≤ i ∧ i < (l.length : Int) := by simpa [real] using hin
        have hwf : ∀ r ∈ l, r.length = (T e).size := rWf_iff.1 hwf
        obtain ⟨ad, cap, rfl, hcap, hh⟩ := hx
        rcases hh with rfl | ⟨b, off, cs, e', fz, c0, rfl, hb, hm, hl0, hr⟩
        · simp at hin; omega
        · exact go b off _ _ _ rfl hin.1 hin.2 h ⟨b, off, cs, e', fz, (T e).size, by simp, hin.1, hb, hm, hwf, hr⟩
      | _ => exact h.elim
    | _ => exact h.elim
  · exact h.elim
theorem index_gives (hT : TysOK P T) {K : AV → Prop} {st : St} {a : Act} {t : Nat} {x : AV} {v : Value} {ix : Operand} (hs : RepS ρ st a w) (hx : RelV ρ w (Mut ρ st.h) x v) (h : indexA T real st t x ix K) :
    GivesA P ρ w (Mut ρ st.h) K (Instr.index t v (a.eval ix)) := by
  have hix := ev_rel hs ix
  unfold indexA Ab.ty at h
  split at h
  case h_2 => exact h.elim
  rename_i k i hev
  rw [hev] at hix
  have hvi : a.eval ix = .int k i := hix
  rw [hvi]
  split at h
  · rename_i hu
    have hu' := hT.str hu
    split at h
    · rename_i s
      obtain rfl : v = .string ⟨s.toArray⟩ := hx
      obtain ⟨hin, h⟩ := h
      have hin : 0 ≤ i ∧ i < (s.length : Int) := by simpa [real] using hin
      have hlt : i.toNat < s.length := by omega
      have hg : (ByteArray.mk s.toArray)[i.toNat]? = some s[i.toNat] := by
        have h1 : i.toNat < (ByteArray.mk s.toArray).size := by simpa [ByteArray.size] using hlt
        rw [getElem?_pos (ByteArray.mk s.toArray) i.toNat h1]
        rfl
      refine ⟨_, _, h, rfl, fun u _ => ?_⟩
      simp only [real, List.getD_eq_getElem?_getD, List.getElem?_eq_getElem hlt, Option.getD_some]
      simp [Instr.index, asIntOf, run_underlying hu', hin.1, hg]
    · exact h.elim
  · rename_i len e hu
    have hu' := hT.array hu
    cases hb : Nat.blt 0 (T e).size with
    | false => simp [hb] at h
    | true =>
      simp only [hb, cond_true] at h
      have hs0 : (T e).size ≠ 0 := by have := Nat.le_of_ble_eq_true hb; omega
      cases hl : aggOf x with
      | none => simp [hl] at h
      | some l =>
        simp only [hl] at h
        obtain ⟨cs, rfl, hcs⟩ := aggOf_rel hx hl
        cases hj : constI ix with
        | some z =>
          cases z with
          | negSucc j => simp [hj] at h
          | ofNat j =>
            simp only [hj] at h
            obtain ⟨hlt, hk⟩ := bif_true h not_false
            have hlt := Nat.le_of_ble_eq_true hlt
            obtain ⟨k', hev', -⟩ := constI_eq (st := st) hj
            rw [hev] at hev'
            simp only [AV.d.injEq, D.int.injEq] at hev'
            obtain ⟨rfl, rfl⟩ := hev'
            cases hp : partOf l (j * (T e).size) (T e).size (isAggT (T e)) with
            | none => simp [hp] at hk
            | some av =>
              simp only [hp] at hk
              obtain ⟨y, hr, hrun⟩ := run_part hT hs0 hcs hp
              have h1 : j < len := hlt
              exact ⟨av, y, hk, hr, fun u _ => by simp [Instr.index, asIntOf, run_underlying hu', h1, hT.size hs0, hrun]⟩
        | none =>
          simp only [hj] at h
          cases ha : isAggT (T e) with
          | true => simp [ha] at h
          | false =>
            simp only [ha, cond_false] at h
            obtain ⟨hs1, hin, h⟩ := bif_true h not_false
            have hs1 : (T e).size = 1 := by simpa using hs1
            have hin : 0 ≤ i ∧ i < (len : Int) := by simpa [real] using hin
            cases hst : stepsA l 0 1 len with
            | none => simp [hst] at h
            | some xs =>
              simp only [hst] at h
              cases hse : selA real i xs with
              | none => simp [hse] at h
              | some av =>
                simp only [hse] at h
                obtain ⟨hxl, hxs⟩ := steps_get len 0 1 l xs hst
                have hiN : i.toNat < len := by omega
                obtain ⟨y, hy⟩ : ∃ y, xs[i.toNat]? = some y := ⟨xs[i.toNat]'(by omega), List.getElem?_eq_getElem (by omega)⟩
                obtain rfl := sel_eq hse hy
                rw [hxs _ hiN] at hy
                have e0 : 0 + i.toNat * 1 = i.toNat := by omega
                rw [e0] at hy
                obtain ⟨z, hz, hr⟩ := RelVs.get _ _ hcs _ _ hy
                have hz' : cs[i.toNat]? = some z := by simpa using hz
                exact ⟨av, z, h, hr, fun u _ => by simp [Instr.index, asIntOf, run_underlying hu', hin.1, hin.2, hT.size hs0, hs1, part, hT.agg hs0, ha, hz']⟩
  · exact h.elim
end
end Go.Proofs.Yteakfibolfapiaa.Ab
end
section
namespace Go.Proofs.Yteakfibolfapiaa.Ab
open Go.RowKit Go.Sort
set_option linter.unusedVariables false
set_option linter.unusedSimpArgs false

section
variable {P : Program} {T : Nat → TI} {ρ : Env} {w w' : World} {M : Nat → Prop} {n : Nat} {h : Hp}
/-- A list of rows, wherever it stands: its cells. -/
theorem rowsOf_cells {st : St} {a : Act} {x : AV} {vx : Value} {l : List (List D)} {c : Nat} (hs : RepS ρ st a w) (hx : RelV ρ w (Mut ρ st.h) x vx) (hl : rowsOf st x = some l) (hc : ∀ r ∈ l, r.length = c) :
    ∃ ad cap, vx = .slice ad l.length cap ∧ (ad = none → l = []) ∧ ∃ xs : List Value, xs.length = l.length * c ∧ RelRows w (Mut ρ st.h) l xs ∧ ∀ a, ad = some a → ∀ (j : Nat) u, xs[j]? = some u → w.cell? (a.add j) = some u := by
  cases x with
  | d y =>
    cases y with
    | nilsl =>
      simp [rowsOf] at hl
      subst hl
      obtain rfl : vx = .slice none 0 0 := hx
      exact ⟨none, 0, rfl, fun _ => rfl, [], by simp, trivial, by simp⟩
    | imm l' =>
      simp [rowsOf] at hl
      subst hl
      obtain ⟨ad, cap, rfl, hcap, hh⟩ := hx
      rcases hh with rfl | ⟨b, off, cs, e, fz, c0, rfl, hb, hm, hl0, hr⟩
      · exact ⟨ad, cap, rfl, fun _ => rfl, [], by simp, trivial, by simp⟩
      · have hr2 := RelRows.take l' _ hc hr
        have hlen := RelRows.len l' _ hc hr
        refine ⟨_, cap, rfl, (fun e => by cases e), (cs.toList.drop off).take (l'.length * c), by rw [List.length_take]; omega, hr2, ?_⟩
        intro a ha j u hj
        cases ha
        rw [cells_at hb]
        rw [List.getElem?_take] at hj
        split at hj
        · rw [List.getElem?_drop] at hj
          rw [← hj, Array.getElem?_toList]
        · cases hj
    | _ => simp [rowsOf] at hl
  | sl id =>
    simp only [rowsOf] at hl
    cases ho : hget st.h id with
    | none => simp [ho] at hl
    | some o =>
      cases o with
      | cells q => simp [ho] at hl
      | mp k m => simp [ho] at hl
      | it k e m c0 => simp [ho] at hl
      | sit s p => simp [ho] at hl
      | bag s p => simp [ho] at hl
      | row c' l' =>
        simp [ho] at hl
        subst hl
        obtain ⟨hid, a0, n0, cap0, rfl⟩ := hx
        obtain ⟨v, xs, e, hv, hc', hown, hl', hr⟩ := obj_row hs.rep ho
        rw [hid] at hv
        obtain rfl := Option.some.inj hv
        rcases hown.2 with ⟨hv, h0⟩ | ⟨g', cap', cur, hv, hb, hgg, hcap, hmx, hsz, ht⟩
        · simp only [Value.slice.injEq] at hv
          obtain ⟨rfl, rfl, rfl⟩ := hv
          have : l' = [] := List.eq_nil_of_length_eq_zero h0
          subst this
          exact ⟨none, 0, rfl, fun _ => rfl, [], by simp, trivial, by simp⟩
        · simp only [Value.slice.injEq] at hv
          obtain ⟨rfl, rfl, rfl⟩ := hv
          by_cases hl0 : l' = []
          · subst hl0
            exact ⟨_, _, rfl, fun _ => rfl, [], by simp, trivial, by simp⟩
          · have hcc : c' = c := by
              obtain ⟨r, hr⟩ := List.exists_mem_of_ne_nil _ hl0
              rw [← hl' r hr, hc r hr]
            subst hcc
            exact ⟨_, _, rfl, (fun e => by cases e), xs, hown.1, hr, fun a ha => by cases ha; exact hown.cells (g := g') rfl⟩
  | _ => simp [rowsOf] at hl
theorem bytes_of_rows : ∀ (l : List (List D)) (xs : List Value), (∀ r ∈ l, r.length = 1) → xs.length = l.length → real.allB l = true → RelRows w M l xs → xs = (real.b2s l).map fun b => Value.int .u8 (b.toNat : Int)
  | [], xs, _, hx, _, _ => by simp [real]; exact List.eq_nil_of_length_eq_zero hx
  | r :: rest, xs, hl, hx, hb, ⟨h1, h2⟩ => by
    have hr := hl r (by simp)
    simp only [real, List.all_cons, Bool.and_eq_true] at hb
    obtain ⟨hb1, hb2⟩ := hb
    cases xs with
    | nil => simp at hx
    | cons x xs =>
      rw [hr] at h1 h2
      simp only [List.take_succ_cons, List.take_zero, List.drop_succ_cons, List.drop_zero] at h1 h2
      have ih := bytes_of_rows rest xs (fun y hy => hl y (by simp [hy])) (by simpa using hx) hb2 h2
      match r, hr, h1, hb1 with
      | [.int .u8 n], _, h1, hb1 =>
        simp only [byteOf] at hb1
        split at hb1
        · rename_i hn
          obtain ⟨v, q, hv, hd, hq⟩ := h1
          obtain rfl : v = .int .u8 n := hd
          simp only [List.cons.injEq] at hv
          obtain ⟨rfl, -⟩ := hv
          simp only [real, List.map_cons, byteOf, if_pos hn, Option.getD_some, List.cons.injEq]
          refine ⟨?_, ih⟩
          congr 1
          rw [UInt8.toNat_ofNat']
          omega
        · cases hb1
      | [.int .i8 _], _, _, hb1 => simp [byteOf] at hb1
      | [.int .i16 _], _, _, hb1 => simp [byteOf] at hb1
      | [.int .i32 _], _, _, hb1 => simp [byteOf] at hb1
      | [.int .i64 _], _, _, hb1 => simp [byteOf] at hb1
      | [.int .u16 _], _, _, hb1 => simp [byteOf] at hb1
      | [.int .u32 _], _, _, hb1 => simp [byteOf] at hb1
      | [.int .u64 _], _, _, hb1 => simp [byteOf] at hb1
      | [.bool _], _, _, hb1 => simp [byteOf] at hb1
      | [.str _], _, _, hb1 => simp [byteOf] at hb1
      | [.nilp], _, _, hb1 => simp [byteOf] at hb1
      | [.nilsl], _, _, hb1 => simp [byteOf] at hb1
      | [.nilm], _, _, hb1 => simp [byteOf] at hb1
      | [.nili], _, _, hb1 => simp [byteOf] at hb1
      | [.agg _], _, _, hb1 => simp [byteOf] at hb1
      | [.imm _], _, _, hb1 => simp [byteOf] at hb1
theorem conv_next (hT : TysOK P T) {K : AV → Prop} {st : St} {a : Act} {s d : Nat} {x : AV} {v : Value} (hs : RepS ρ st a w) (hx : RelV ρ w (Mut ρ st.h) x v) (h : convA T real st s d x K) :
    Nexts P ρ st w (fun st' av => st' = st ∧ K av) (convert s d v) := by
  unfold convA Ab.ty at h
  split at h
  · rename_i k' k q m hu1 hu2
    obtain rfl : v = .int q m := hx
    refine (Gives.next (K := fun st' av => st' = st ∧ K av) hs ⟨_, _, ⟨rfl, h⟩, rfl, ?_⟩)
    simp [convert, run_underlying (hT.int hu1), run_underlying (hT.int hu2), Conv.intToInt, real]
  · rename_i q hu1 hu2
    obtain rfl : v = .string ⟨q.toArray⟩ := hx
    refine (Gives.next (K := fun st' av => st' = st ∧ K av) hs ⟨_, _, ⟨rfl, h⟩, rfl, ?_⟩)
    simp [convert, run_underlying (hT.str hu1), run_underlying (hT.str hu2)]
  · rename_i e av hu1 hu2
    split at h
    · rename_i l hu3 hl
      obtain ⟨⟨hab, hwf⟩, h⟩ := h
      have hwf := rWf_iff.1 hwf
      obtain ⟨ad, cap, rfl, hn, xs, hxl, hr, hcells⟩ := rowsOf_cells hs hx hl hwf
      have hxs := bytes_of_rows l xs hwf (by omega) hab hr
      refine (Gives.next (K := fun st' av => st' = st ∧ K av) hs ⟨_, .string ⟨(real.b2s l).toArray⟩, ⟨rfl, h⟩, rfl, ?_⟩)
      have hbl : (real.b2s l).length = l.length := by simp [real]
      cases ad with
      | none =>
        have := hn rfl
        subst this
        rw [run_convert_bytes_nil w s _ (hT.slice hu1) (hT.int hu3) _ _ d (hT.str hu2)]
        rfl
      | some ad =>
        have := run_convert_bytes_back w s d _ ad cap (real.b2s l) (hT.slice hu1) (hT.int hu3) (hT.str hu2) (fun j hj => by
          refine hcells ad rfl j _ ?_
          rw [hxs, List.getElem?_map, List.getElem?_eq_getElem hj]
          rfl)
        rw [hbl] at this
        exact this
    · exact h.elim
  · rename_i e q hu1 hu2
    split at h
    · rename_i hu3
      obtain rfl : v = .string ⟨q.toArray⟩ := hx
      have hrun := run_bytes_of_string w s d e ⟨q.toArray⟩ (hT.str hu1) (hT.slice hu2) (hT.int hu3)
      have hsz : (ByteArray.mk q.toArray).size = (real.s2b q).length := by simp [real, ByteArray.size]
      refine nexts_grow hs (Grows.trans (grows_drew w) (grows_alloc _ _)) rfl rfl rfl (by simp) hrun ?_ ⟨rfl, h⟩
      refine ⟨_, _, by rw [← hsz], ?_, ?_⟩
      · rw [← hsz]; exact grownCap_ge w _ 0 e
      · refine .inr ⟨w.heap.size, 0, _, _, _, 1, rfl, Tr.blk_new w.drew _, ?_, ?_, ?_⟩
        · intro m
          exact Nat.lt_irrefl _ (Mut.lt hs.rep m)
        · intro r hr
          simp only [real, List.mem_map] at hr
          obtain ⟨b, -, rfl⟩ := hr
          rfl
        · rw [List.drop_zero]
          have h1 := s2b_rows (w := w.drew.alloc (.cells (bytesRow ⟨q.toArray⟩ (grownCap w (ByteArray.mk q.toArray).size 0 e)) e ((bytesRow ⟨q.toArray⟩ (grownCap w (ByteArray.mk q.toArray).size 0 e)).size, (bytesRow ⟨q.toArray⟩ (grownCap w (ByteArray.mk q.toArray).size 0 e)).size + 1))) (M := Mut ρ st.h) q
          have e1 : (bytesRow ⟨q.toArray⟩ (grownCap w (ByteArray.mk q.toArray).size 0 e)).toList = byteCells ⟨q.toArray⟩ ++ List.replicate (grownCap w (ByteArray.mk q.toArray).size 0 e - (ByteArray.mk q.toArray).size) (.int .u8 0) := by
            simp [bytesRow, byteCells]
          rw [e1]
          have h2 := RelRows.append (c := 1) (real.s2b q) [] _ (List.replicate (grownCap w (ByteArray.mk q.toArray).size 0 e - (ByteArray.mk q.toArray).size) (.int .u8 0)) (by
            intro r hr
            simp only [real, List.mem_map] at hr
            obtain ⟨b, -, rfl⟩ := hr
            rfl) (by rw [byteCells_length, hsz, Nat.mul_one]) h1 trivial
          rwa [List.append_nil] at h2
    · exact h.elim
  · exact h.elim
end
end Go.Proofs.Yteakfibolfapiaa.Ab
end
section
namespace Go.Proofs.Yteakfibolfapiaa.Ab
open Go.RowKit Go.Sort
set_option linter.unusedVariables false
set_option linter.unusedSimpArgs false

section
variable {P : Program} {T : Nat → TI} {ρ : Env} {w w' : World} {M : Nat → Prop} {n : Nat} {h : Hp}
theorem optI_eval {st : St} {a : Act} {o : Option Operand} {z : Option Int} (hs : RepS ρ st a w) (h : optI st o = some z) : (o = none ∧ z = none) ∨ ∃ x k i, o = some x ∧ z = some i ∧ a.eval x = .int k i := by
  cases o with
  | none => simp [optI] at h; exact .inl ⟨rfl, h.symm⟩
  | some x =>
    simp only [optI] at h
    have hx := ev_rel hs x
    split at h
    · rename_i k i hev
      cases h
      rw [hev] at hx
      exact .inr ⟨x, k, i, rfl, rfl, hx⟩
    · cases h
theorem bounds_run {st : St} {a : Act} {lo hi : Option Operand} {l h : Option Int} {isS : Bool} {len cap : Nat} (hs : RepS ρ st a w) (hl : optI st lo = some l) (hh : optI st hi = some h) (hcap : len ≤ cap)
    (hb : 0 ≤ l.getD 0 ∧ l.getD 0 ≤ h.getD len ∧ h.getD len ≤ (len : Int)) :
    (Instr.sliceBounds isS len cap (lo.map a.eval) (hi.map a.eval) none).run P w = .ok ((l.getD 0).toNat, (h.getD len).toNat, cap) w := by
  rcases optI_eval hs hl with ⟨rfl, rfl⟩ | ⟨x, k, i, rfl, rfl, hx⟩ <;> rcases optI_eval hs hh with ⟨rfl, rfl⟩ | ⟨y, k', j, rfl, rfl, hy⟩
  · simp [Instr.sliceBounds]
  · simp only [Option.getD_none, Option.getD_some] at hb
    have h1 : j ≤ (cap : Int) := by omega
    have h2 : 0 ≤ j := by omega
    simp [Instr.sliceBounds, hy, run_sliceBound w k' j cap _ h2 h1]
  · simp only [Option.getD_none, Option.getD_some] at hb
    simp [Instr.sliceBounds, hx, run_sliceBound w k i len _ hb.1 hb.2.1]
  · simp only [Option.getD_none, Option.getD_some] at hb
    have h1 : j ≤ (cap : Int) := by omega
    have h2 : 0 ≤ j := by omega
    have h3 : i ≤ (j.toNat : Int) := by omega
    simp [Instr.sliceBounds, hx, hy, run_sliceBound w k' j cap _ h2 h1, run_sliceBound w k i j.toNat _ hb.1 h3]
theorem str_extract (s : List UInt8) (l h : Nat) : (ByteArray.mk s.toArray).extract l h = ⟨((s.take h).drop l).toArray⟩ := by
  apply ByteArray.ext
  rw [ByteArray.data_extract]
  apply Array.ext'
  simp [Array.toList_extract, List.extract_eq_take_drop, List.drop_take]
/-- Part of a list of rows that never turns. -/
theorem imm_sub {l : List (List D)} {ad : Option Addr} {cap : Nat} {c : Nat} {lo hi : Int} (hc : ∀ r ∈ l, r.length = c) (hcap : l.length ≤ cap) (hb : 0 ≤ lo ∧ lo ≤ hi ∧ hi ≤ (l.length : Int))
    (hh : l = [] ∨ ∃ b off cs e fz, ad = some ⟨b, off, none⟩ ∧ w.heap[b]? = some (.cells cs e fz) ∧ ¬ M b ∧ RelRows w M l (cs.toList.drop off)) :
    RelD w M (.imm (real.sub l lo hi)) (.slice (if cap = lo.toNat then ad else ad.map (·.add (lo.toNat * c))) (hi.toNat - lo.toNat) (cap - lo.toNat)) := by
  have hlen : (real.sub l lo hi).length = hi.toNat - lo.toNat := by simp only [real, List.length_drop, List.length_take]; omega
  refine ⟨_, _, by rw [hlen], by rw [hlen]; omega, ?_⟩
  by_cases h0 : hi.toNat = lo.toNat
  · exact .inl (List.eq_nil_of_length_eq_zero (by rw [hlen]; omega))
  · rcases hh with rfl | ⟨b, off, cs, e, fz, rfl, hg, hm, hr⟩
    · simp at hb; omega
    · refine .inr ⟨b, off + lo.toNat * c, cs, e, fz, c, ?_, hg, hm, ?_, ?_⟩
      · rw [if_neg (by omega), Option.map_some, addr_add]
      · intro r hr'
        simp only [real] at hr'
        exact hc r (List.mem_of_mem_take (List.mem_of_mem_drop hr'))
      · have hrow := fun i r hi => RelRows.get l _ hr hc i r hi
        refine RelRows.mk (c := c) _ _ (fun r hr' => hc r (List.mem_of_mem_take (List.mem_of_mem_drop (by simpa only [real] using hr')))) (fun i r hi' => ?_)
        simp only [real, List.getElem?_drop, List.getElem?_take] at hi'
        split at hi'
        · have h1 := hrow (lo.toNat + i) r hi'
          rw [List.drop_drop] at h1 ⊢
          rw [show off + lo.toNat * c + i * c = off + (lo.toNat + i) * c by rw [Nat.add_mul]; omega]
          exact h1
        · cases hi'
theorem slice_next (hT : TysOK P T) {K : St → AV → Prop} {st : St} {a : Act} {t : Nat} {x : AV} {v : Value} {lo hi mx : Option Operand} (hs : RepS ρ st a w) (hx : RelV ρ w (Mut ρ st.h) x v) (h : sliceA T real st t x lo hi mx K) :
    Nexts P ρ st w K (Instr.sliceAt t v (lo.map a.eval) (hi.map a.eval) (mx.map a.eval)) := by
  unfold sliceA Ab.ty at h
  cases mx with
  | some m => simp at h
  | none =>
    cases hl : optI st lo with
    | none => simp [hl] at h
    | some l =>
      cases hh : optI st hi with
      | none => simp [hl, hh] at h
      | some hq =>
        simp only [hl, hh] at h
        have sub2 : ∀ {p q r : Int}, real.sub2 p q r = true → 0 ≤ p ∧ p ≤ q ∧ q ≤ r := by intro p q r h; simpa [real] using h
        split at h
        · rename_i s hu
          obtain rfl : v = .string ⟨s.toArray⟩ := hx
          obtain ⟨hb, h⟩ := h
          have hb := sub2 hb
          have hsz : (ByteArray.mk s.toArray).size = s.length := by simp [ByteArray.size]
          have hbr := bounds_run (P := P) (isS := false) (len := s.length) (cap := s.length) hs hl hh (Nat.le_refl _) hb
          refine Gives.next hs ⟨_, _, h, rfl, ?_⟩
          simp only [Option.map_none]
          have e1 := str_extract s (l.getD 0).toNat (hq.getD (s.length : Int)).toNat
          simp [Instr.sliceAt, run_underlying (hT.str hu), Instr.slice, hsz, hbr, e1, real]
        · rename_i e hu
          obtain rfl : v = .slice none 0 0 := hx
          obtain ⟨⟨hb, hs0⟩, h⟩ := h
          have hb := sub2 hb
          have hbr := bounds_run (P := P) (isS := true) (len := 0) (cap := 0) hs hl hh (Nat.le_refl _) hb
          refine Gives.next hs ⟨_, _, h, rfl, ?_⟩
          have e1 : (l.getD 0).toNat = 0 := by omega
          have e2 : (hq.getD ((0 : Nat) : Int)).toNat = 0 := by
            have : hq.getD ((0 : Nat) : Int) = hq.getD 0 := rfl
            omega
          rw [e1, e2] at hbr
          simp only [Option.map_none]
          simp [Instr.sliceAt, run_underlying (hT.slice hu), Instr.slice, hbr, hT.size hs0]
        · rename_i e r hu
          obtain ⟨ad, cap, rfl, hcap, hr⟩ := hx
          obtain ⟨⟨hb, hwf, hs0⟩, h⟩ := h
          have hb := sub2 hb
          have hwf := rWf_iff.1 hwf
          have hbr := bounds_run (P := P) (isS := true) (len := r.length) (cap := cap) hs hl hh hcap hb
          have hrel := imm_sub (ad := ad) (cap := cap) hwf hcap hb (by
            rcases hr with hr | ⟨b, off, cs, e, fz, c, h1, h2, h3, h4, h5⟩
            · exact .inl hr
            · exact .inr ⟨b, off, cs, e, fz, h1, h2, h3, h5⟩)
          refine Gives.next hs ⟨_, _, h, hrel, ?_⟩
          simp only [Option.map_none]
          simp [Instr.sliceAt, run_underlying (hT.slice hu), Instr.slice, hbr, hT.size hs0, real]
        · rename_i e id hu
          obtain ⟨hid, a0, n0, cap0, rfl⟩ := hx
          cases ho : hget st.h id with
          | none => simp [ho] at h
          | some ob =>
            cases ob with
            | cells q => simp [ho] at h
            | mp k m => simp [ho] at h
            | it k e m c0 => simp [ho] at h
            | sit s p => simp [ho] at h
            | bag s p => simp [ho] at h
            | row c r =>
              simp only [ho] at h
              obtain ⟨⟨hb, rfl⟩, h⟩ := h
              have hb := sub2 hb
              obtain ⟨v', xs, e', hv, hc, hown, hl', hr⟩ := obj_row hs.rep ho
              rw [hid] at hv
              obtain rfl := Option.some.inj hv
              have hcells : a0 = a0 ∧ n0 = r.length ∧ r.length ≤ cap0 ∧ (r = [] ∨ ∃ b off cs e fz, a0 = some ⟨b, off, none⟩ ∧ w.heap[b]? = some (.cells cs e fz) ∧ ¬ Mut ρ (hdel st.h id) b ∧ RelRows w (Mut ρ (hdel st.h id)) r (cs.toList.drop off)) := by
                rcases hown.2 with ⟨hv, h0⟩ | ⟨g', cap', cur, hv, hb', hgg, hcap, hmx, hsz, ht⟩
                · simp only [Value.slice.injEq] at hv
                  obtain ⟨rfl, rfl, rfl⟩ := hv
                  exact ⟨rfl, h0.symm, by omega, .inl (List.eq_nil_of_length_eq_zero h0)⟩
                · simp only [Value.slice.injEq] at hv
                  obtain ⟨rfl, rfl, rfl⟩ := hv
                  refine ⟨rfl, rfl, hcap, .inr ⟨g', 0, cur, e', _, rfl, hgg, del_free hs.rep (hget_mem ho) hid rfl, ?_⟩⟩
                  have h1 := RelRows.mono (keeps_del (w := w) (ρ := ρ) (h := st.h) id) _ _ hr
                  have h2 := RelRows.append (c := (T e).size) r [] xs (cur.toList.drop (r.length * (T e).size)) hl' hown.1 h1 trivial
                  rw [List.append_nil, ← ht, List.take_append_drop] at h2
                  exact h2
              obtain ⟨-, rfl, hcap, hh'⟩ := hcells
              have hbr := bounds_run (P := P) (isS := true) (len := r.length) (cap := cap0) hs hl hh hcap hb
              have hrel := imm_sub (ad := a0) (cap := cap0) hl' hcap hb hh'
              refine ⟨_, w, _, ρ, st.n, hdel st.h id, ?_, h, hs.rep.del id, hrel, Nat.le_refl _, goes_del id⟩
              simp only [Option.map_none]
              simp [Instr.sliceAt, run_underlying (hT.slice hu), Instr.slice, hbr, hT.size (show (T e).size ≠ 0 by omega), real]
        · rename_i len e id hu
          obtain ⟨b, hb, rfl⟩ := hx
          cases ho : hget st.h id with
          | none => simp [ho] at h
          | some ob =>
            cases ob with
            | row c r => simp [ho] at h
            | mp k m => simp [ho] at h
            | it k e m c0 => simp [ho] at h
            | sit s p => simp [ho] at h
            | bag s p => simp [ho] at h
            | cells cs0 =>
              simp only [ho] at h
              cases hds : dsOf cs0 with
              | none => simp [hds] at h
              | some ds =>
                simp only [hds] at h
                obtain ⟨hs1, h1⟩ := bif_true h not_false
                obtain ⟨hdl, hbd, hk⟩ := bif_true h1 not_false
                clear h h1
                have hs1 : (T e).size = 1 := by simpa using hs1
                have hdl : ds.length = len := by simpa using hdl
                subst hdl
                have hbd := sub2 hbd
                obtain ⟨b', cs, e', hb', hcs, hrel0⟩ := obj_cells hs.rep ho
                obtain rfl : b = b' := by rw [hb] at hb'; simpa using hb'
                rw [dsOf_map _ _ hds] at hrel0
                have hrel0 := rels_ds ds _ hrel0
                have single : ∀ (ds : List D) (xs : List Value), RelDs w (Mut ρ st.h) ds xs → RelRows w (Mut ρ st.h) (ds.map fun d => [d]) xs := by
                  intro ds
                  induction ds with
                  | nil => intro xs _; exact trivial
                  | cons d ds ih => rintro xs ⟨v, rest, rfl, h1, h2⟩; exact ⟨⟨v, [], rfl, h1, rfl⟩, ih rest h2⟩
                have hrows := RelRows.mono (keeps_del (w := w) (ρ := ρ) (h := st.h) id) _ _ (single ds _ hrel0)
                have hlm : (ds.map fun d => [d]).length = ds.length := by simp
                have hbr := bounds_run (P := P) (isS := false) (len := ds.length) (cap := ds.length) hs hl hh (Nat.le_refl _) hbd
                have hrel := imm_sub (w := w) (M := Mut ρ (hdel st.h id)) (l := ds.map fun d => [d]) (ad := some ⟨b, 0, none⟩) (cap := ds.length) (c := 1) (lo := l.getD 0) (hi := hq.getD (ds.length : Int)) (by
                  intro r hr
                  obtain ⟨d, -, rfl⟩ := List.mem_map.1 hr
                  rfl) (by rw [hlm]; exact Nat.le_refl _) (by rw [hlm]; exact hbd) (.inr ⟨b, 0, cs, e', _, rfl, hcs, del_free hs.rep (hget_mem ho) hb rfl, by rw [List.drop_zero]; exact hrows⟩)
                refine ⟨_, w, _, ρ, st.n, hdel st.h id, ?_, hk, hs.rep.del id, hrel, Nat.le_refl _, goes_del id⟩
                simp only [Option.map_none]
                have e5 : (if ds.length = (l.getD 0).toNat then (some ⟨b, 0, none⟩ : Option Addr) else (some ⟨b, 0, none⟩ : Option Addr).map (·.add ((l.getD 0).toNat * 1))) = some (if ds.length = (l.getD 0).toNat then (⟨b, 0, none⟩ : Addr) else (⟨b, 0, none⟩ : Addr).add ((l.getD 0).toNat * 1)) := by split <;> rfl
                rw [e5]
                simp [Instr.sliceAt, run_underlying (hT.array hu), Instr.sureAddr, hbr, hT.size (show (T e).size ≠ 0 by omega), hs1]
        · exact h.elim
end
end Go.Proofs.Yteakfibolfapiaa.Ab
end
section
namespace Go.Proofs.Yteakfibolfapiaa.Ab
open Go.RowKit Go.Sort
set_option linter.unusedVariables false
set_option linter.unusedSimpArgs false

section
variable {P : Program} {T : Nat → TI} {ρ : Env} {w w' : World} {M : Nat → Prop} {n : Nat} {h : Hp}
theorem fold_set : ∀ (cs : List Value) (k off : Nat) (cur : Array Value), off + k + cs.length ≤ cur.size →
    (cs.zipIdx k).foldl (fun c (p : Value × Nat) => c.setIfInBounds (off + p.2) p.1) cur = (cur.toList.take (off + k) ++ cs ++ cur.toList.drop (off + k + cs.length)).toArray
  | [], k, off, cur, h => by simp
  | c :: cs, k, off, cur, h => by
    simp only [List.length_cons] at h
    rw [List.zipIdx_cons, List.foldl_cons, fold_set cs (k + 1) off _ (by simp; omega)]
    have hlt : off + k < cur.toList.length := by rw [Array.length_toList]; omega
    apply congrArg
    simp only [Array.toList_setIfInBounds]
    rw [← Nat.add_assoc, List.take_add_one, List.take_set_of_le (by omega), List.getElem?_set_self hlt, List.drop_set_of_lt (by omega)]
    simp only [Option.toList_some, List.append_assoc, List.singleton_append, List.length_cons]
    congr 3
    omega
theorem fill_run {place : Nat → Option (Nat × Nat)} : ∀ (ps : List (Nat × AV)) (vs : List (Nat × Value)) (l' : List (Nat × List AV)) (z cs' : List AV) (cur : Array Value),
    (ps.map (·.1) = vs.map (·.1)) → RelVs ρ w M (ps.map (·.2)) (vs.map (·.2)) → (∀ p ∈ ps, p.2 ≠ .top) → partsA.go place ps = some l' → RelVs ρ w M z cur.toList → fillA z l' = some cs' →
    ∃ cur', Instr.fill place cur vs = some cur' ∧ RelVs ρ w M cs' cur'.toList
  | [], vs, l', z, cs', cur, hi, hr, ht, hp, hz, hf => by
    simp at hi
    subst hi
    simp [partsA.go] at hp
    subst hp
    simp [fillA] at hf
    subst hf
    exact ⟨cur, rfl, hz⟩
  | (i, av) :: ps, vs, l', z, cs', cur, hi, hr, ht, hp, hz, hf => by
    cases vs with
    | nil => simp at hi
    | cons q vs =>
      obtain ⟨j, v⟩ := q
      simp only [List.map_cons, List.cons.injEq] at hi
      obtain ⟨rfl, hi⟩ := hi
      obtain ⟨v', rest, hv, hav, hr⟩ := hr
      simp only [List.map_cons, List.cons.injEq] at hv
      obtain ⟨rfl, rfl⟩ := hv
      simp only [partsA.go] at hp
      cases hpl : place i with
      | none => simp [hpl] at hp
      | some os =>
        obtain ⟨off, size⟩ := os
        cases hg : partsA.go place ps with
        | none => simp [hpl, hg] at hp
        | some l =>
          simp only [hpl, hg] at hp
          cases hb : (cellsOf av).length == size with
          | false => simp [hb] at hp
          | true =>
            simp [hb] at hp
            subst hp
            have hsz : (cellsOf av).length = size := by simpa using hb
            have hav : RelV ρ w M av v := hav
            have hcr := cells_rel hav (ht (i, av) (by simp))
            have hcl := RelVs.length _ _ hcr
            simp only [fillA] at hf
            cases hle : Nat.ble (off + (cellsOf av).length) z.length with
            | false => simp [hle] at hf
            | true =>
              simp [hle] at hf
              have hle := Nat.le_of_ble_eq_true hle
              have hzl := RelVs.length _ _ hz
              have q1 : v.cells.toList.length = v.cells.size := Array.length_toList
              have q2 : cur.toList.length = cur.size := Array.length_toList
              have hfit : off + 0 + v.cells.toList.length ≤ cur.size := by omega
              have hfold := fold_set v.cells.toList 0 off cur hfit
              have hset := setMany_rel hz hcr hle
              obtain ⟨cur', h1, h2⟩ := fill_run ps vs l _ cs' (cur.toList.take off ++ v.cells.toList ++ cur.toList.drop (off + v.cells.toList.length)).toArray hi hr (fun p hp => ht p (by simp [hp])) hg (by simpa using hset) hf
              refine ⟨cur', ?_, h2⟩
              simp only [Instr.fill, hpl]
              rw [if_neg (by simp only [Bool.or_eq_true, decide_eq_true_eq]; omega)]
              have e1 : v.cells.zipIdx.foldl (fun cs (c, j) => cs.setIfInBounds (off + j) c) cur = (cur.toList.take off ++ v.cells.toList ++ cur.toList.drop (off + v.cells.toList.length)).toArray := by
                have e2 : v.cells.zipIdx = (v.cells.toList.zipIdx 0).toArray := by apply Array.ext'; simp
                rw [e2, List.foldl_toArray]
                simpa using hfold
              rw [e1]
              exact h1
theorem evp_rel {st : St} {a : Act} (hs : RepS ρ st a w) : ∀ (ps : List (Nat × Operand)), (evp st ps).map (·.1) = (ps.map fun p => (p.1, a.eval p.2)).map (·.1) ∧ RelVs ρ w (Mut ρ st.h) ((evp st ps).map (·.2)) ((ps.map fun p => (p.1, a.eval p.2)).map (·.2))
  | [] => ⟨rfl, rfl⟩
  | (i, o) :: ps => by
    obtain ⟨h1, h2⟩ := evp_rel hs ps
    refine ⟨?_, ?_⟩
    · simp only [evp, List.map_cons]
      rw [h1]
    · simp only [evp, List.map_cons]
      exact ⟨_, _, rfl, ev_rel hs o, h2⟩
theorem noTop_spec : ∀ (ps : List (Nat × AV)), noTop ps = true → ∀ p ∈ ps, p.2 ≠ .top
  | [], _, p, hp => by cases hp
  | (i, v) :: r, h, p, hp => by
    rcases List.mem_cons.1 hp with rfl | hp
    · intro e
      dsimp only at e
      subst e
      simp [noTop] at h
    · refine noTop_spec r ?_ p hp
      cases v <;> first | exact h | simp [noTop] at h
theorem zeros_rel (hT : TysOK P T) {t : Nat} {z : List AV} (hs0 : (T t).size ≠ 0) (hz : zerosOf T t = some z) : ∃ zv, (∀ u, (zeroValue t).run P u = .ok zv u) ∧ RelVs ρ w M z zv.cells.toList ∧ (∀ d, (T t).zero = some d → z = d.map .d ∧ d.length = zv.cells.size) := by
  unfold zerosOf Ab.ty at hz
  cases hd : (T t).zero with
  | none => rw [hd] at hz; cases hz
  | some d =>
    rw [hd] at hz
    simp only [Option.map_some, Option.some.injEq] at hz
    subst hz
    obtain ⟨i, zv, hi, hiz, hzd, -⟩ := hT.zero hs0 hd
    refine ⟨zv, fun u => by simp [zeroValue, typeInfo, hi, hiz], RelDs.rels _ _ (zeroD_rel hzd), fun d' e => ?_⟩
    cases e
    exact ⟨rfl, by rw [RelDs.length _ _ (zeroD_rel (w := w) (M := M) hzd), Array.length_toList]⟩
theorem build_gives (hT : TysOK P T) {K : AV → Prop} {st : St} {a : Act} {t : Nat} {ps : List (Nat × Operand)} (hs : RepS ρ st a w) (h : buildA T t (evp st ps) K) :
    GivesA P ρ w (Mut ρ st.h) K (Instr.build t (ps.map fun p => (p.1, a.eval p.2)).toArray) := by
  unfold buildA Ab.ty at h
  obtain ⟨hb, h1⟩ := bif_true h not_false
  clear h
  simp only [Bool.and_eq_true] at hb
  obtain ⟨hnt, hb⟩ := hb
  have hs0 : (T t).size ≠ 0 := by have := Nat.le_of_ble_eq_true hb; omega
  cases hz : zerosOf T t with
  | none => simp [hz] at h1
  | some z =>
    cases hp : partsA T t (evp st ps) with
    | none => simp [hz, hp] at h1
    | some l =>
      simp only [hz, hp] at h1
      cases hf : fillA z l with
      | none => simp [hf] at h1
      | some cs =>
        simp only [hf] at h1
        obtain ⟨zv, hzr, hzrel, -⟩ := zeros_rel (P := P) (w := w) (ρ := ρ) (M := Mut ρ st.h) hT hs0 hz
        obtain ⟨e1, e2⟩ := evp_rel hs ps
        unfold partsA Ab.ty at hp
        split at hp
        · rename_i fs hu
          obtain ⟨gs, hg, rfl⟩ := hT.struct hu
          cases hall : ((gs.toList.map fun f => (f.offset, f.type)).all fun f => Nat.blt 0 (T f.2).size) with
          | false => simp only [hall, cond_false] at hp; cases hp
          | true =>
            simp only [hall, cond_true] at hp
            obtain ⟨cur', h2, h3⟩ := fill_run _ _ _ _ _ zv.cells e1 e2 (noTop_spec _ hnt) hp hzrel hf
            have hmap : ∀ u, (gs.mapM fun (f : Field) => (do pure (f.offset, ← sizeOf f.type) : Sem (Nat × Nat))).run P u = .ok (gs.map fun f => (f.offset, (T f.type).size)) u := by
              intro u
              have key : ∀ (l : List Field), (∀ f ∈ l, (T f.type).size ≠ 0) → (l.mapM fun (f : Field) => (do pure (f.offset, ← sizeOf f.type) : Sem (Nat × Nat))).run P u = .ok (l.map fun f => (f.offset, (T f.type).size)) u := by
                intro l
                induction l with
                | nil => intro _; rfl
                | cons f l ih =>
                  intro hl
                  rw [List.mapM_cons]
                  have h7 := hT.size (hl f (by simp)) u
                  have h8 := ih (fun g hg => hl g (by simp [hg]))
                  simp only [Sem.run_bind, Sem.run_pure, h7, h8, Result.andThen, List.map_cons]
              have h4 := key gs.toList (by
                intro f hf
                rw [List.all_eq_true] at hall
                have := hall (f.offset, f.type) (List.mem_map.2 ⟨f, hf, rfl⟩)
                have := Nat.le_of_ble_eq_true this
                dsimp only at this
                omega)
              have h5 : gs = gs.toList.toArray := by simp
              rw [h5, List.mapM_toArray]
              rw [show (List.toArray <$> gs.toList.mapM fun (f : Field) => (do pure (f.offset, ← sizeOf f.type) : Sem (Nat × Nat))) = (gs.toList.mapM (fun (f : Field) => (do pure (f.offset, ← sizeOf f.type) : Sem (Nat × Nat))) >>= fun a => pure a.toArray) from rfl]
              rw [Sem.run_bind, h4]
              simp only [Result.andThen, Sem.run_pure]
              congr 1
              apply Array.ext'
              rw [Array.toList_map]
            refine ⟨_, .agg cur', h1, mkAgg_rel h3, fun u _ => ?_⟩
            have h6 : (fun i : Nat => ((gs.toList.map fun (f : Field) => (f.offset, f.type))[i]?).map fun (f : Nat × Nat) => (f.1, (T f.2).size)) = (fun i : Nat => (gs.map fun (f : Field) => (f.offset, (T f.type).size))[i]?) := by
              funext i
              rw [List.getElem?_map, Array.getElem?_map, Array.getElem?_toList, Option.map_map]
              rfl
            rw [h6] at h2
            simp only [Instr.build, Sem.run_bind, hzr, Result.andThen, run_underlying hg, hmap, h2, Sem.run_pure]
        · rename_i len e hu
          cases hb2 : Nat.blt 0 (T e).size with
          | false => simp [hb2] at hp
          | true =>
            simp only [hb2, cond_true] at hp
            have hse : (T e).size ≠ 0 := by have := Nat.le_of_ble_eq_true hb2; omega
            obtain ⟨cur', h2, h3⟩ := fill_run _ _ _ _ _ zv.cells e1 e2 (noTop_spec _ hnt) hp hzrel hf
            refine ⟨_, .agg cur', h1, mkAgg_rel h3, fun u _ => ?_⟩
            simp [Instr.build, hzr, run_underlying (hT.array hu), hT.size hse, h2]
        · cases hp
end
end Go.Proofs.Yteakfibolfapiaa.Ab
end
