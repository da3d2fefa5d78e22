/- The executor is sound: append, slices, addresses, conversions. -/
import Derived.Test.YteakfibolfapiaaTrAb9
namespace Go.Proofs.Yteakfibolfapiaa.Ab
open Go.RowKit Go.Sort
set_option linter.unusedVariables false
set_option linter.unusedSimpArgs false

section
variable {P : Program} {T : Nat → TI} {ρ : Env} {w w' : World} {M : Nat → Prop} {n : Nat} {h : Hp}
/-- What a value operation leaves. -/
def Nexts (P : Program) (ρ : Env) (st : St) (w : World) (K : St → AV → Prop) (s : Sem Value) : Prop :=
  ∃ v w' av ρ' n' h', s.run P w = .ok v w' ∧ K { st with n := n', h := h' } av ∧ Rep ρ' n' h' w' ∧ RelV ρ' w' (Mut ρ' h') av v ∧ st.n ≤ n' ∧ Goes st.n ρ st.h w ρ' h' w'
theorem Gives.nexts {st : St} {a : Act} {K : AV → Prop} {s : Sem Value} (hs : RepS ρ st a w) (g : Gives P ρ w (Mut ρ st.h) K s) : Nexts P ρ st w (fun st' v => st' = st → K v) s := by
  obtain ⟨av, v, h1, h2, h3⟩ := g
  exact ⟨v, w, av, ρ, st.n, st.h, h3, fun _ => h1, hs.rep, h2, Nat.le_refl _, Goes.refl _ _ _ _⟩
theorem Gives.next {st : St} {a : Act} {K : St → AV → Prop} {s : Sem Value} (hs : RepS ρ st a w) (g : Gives P ρ w (Mut ρ st.h) (K st) s) : Nexts P ρ st w K s := by
  obtain ⟨av, v, h1, h2, h3⟩ := g
  exact ⟨v, w, av, ρ, st.n, st.h, h3, h1, hs.rep, h2, Nat.le_refl _, Goes.refl _ _ _ _⟩
/-- An operation of which 'Nexts' holds. -/
theorem Nexts.out {st : St} {a : Act} {dst : Option Nat} {K : St → Prop} {s : Sem Value} (hs : RepS ρ st a w) (g : Nexts P ρ st w (fun st v => K (st.put dst v)) s) :
    ∃ v w', s.run P w = .ok v w' ∧ Out K st.n ρ st.h w (a.put dst v) w' := by
  obtain ⟨v, w', av, ρ', n', h', h1, h2, h3, h4, h5, h6⟩ := g
  exact ⟨v, w', h1, out_value hs h3 h4 h6 h5 h2⟩
/-- A value in a world that has grown, the places as they were. -/
theorem nexts_grow {st : St} {a : Act} {K : St → AV → Prop} {s : Sem Value} {av : AV} {v : Value} (hs : RepS ρ st a w) (g : Grows w w') (ho : w'.os = w.os) (ht : w'.tape = w.tape) (hp : w'.output = w.output) (hz : w.heap.size ≤ w'.heap.size)
    (hr : s.run P w = .ok v w') (rel : RelV ρ w' (Mut ρ st.h) av v) (hK : K st av) : Nexts P ρ st w K s :=
  ⟨v, w', av, ρ, st.n, st.h, hr, hK, hs.rep.grow g, rel, Nat.le_refl _, goes_grow g ho ht hp hz⟩
/-- A new place. -/
theorem nexts_new {st : St} {a : Act} {K : St → AV → Prop} {s : Sem Value} {av : AV} {v pv : Value} {o : Ob} (hs : RepS ρ st a w) (g : Grows w w') (hos : w'.os = w.os) (ht : w'.tape = w.tape) (hp : w'.output = w.output) (hz : w.heap.size ≤ w'.heap.size)
    (hr : s.run P w = .ok v w') (hb : ∀ b, blkIn pv b → w.heap.size ≤ b)
    (ho : Keeps w (Mut ρ st.h) w' (Mut (upd ρ st.n pv) (st.h ++ [(st.n, o)])) → RelO (upd ρ st.n pv) w' (Mut (upd ρ st.n pv) (st.h ++ [(st.n, o)])) st.n o)
    (rel : RelV (upd ρ st.n pv) w' (Mut (upd ρ st.n pv) (st.h ++ [(st.n, o)])) av v) (hK : K { st with n := st.n + 1, h := st.h ++ [(st.n, o)] } av) : Nexts P ρ st w K s :=
  ⟨v, w', av, upd ρ st.n pv, st.n + 1, st.h ++ [(st.n, o)], hr, hK, hs.rep.new g hb ho, rel, by omega, goes_new hs.rep g hb hos ht hp hz⟩

theorem bagOf_mem : ∀ {h : Hp} {id c : Nat} {L : List (Value × List (List D))}, bagOf h = some (id, c, L) → (id, .bag c L) ∈ h
  | [], _, _, _, e => by simp [bagOf] at e
  | (i, o) :: r, id, c, L, e => by
    cases o with
    | bag c2 l2 =>
      simp only [bagOf, Option.some.injEq, Prod.mk.injEq] at e
      obtain ⟨rfl, rfl, rfl⟩ := e
      exact List.mem_cons_self ..
    | cells l => exact List.mem_cons_of_mem _ (bagOf_mem (h := r) e)
    | row c l => exact List.mem_cons_of_mem _ (bagOf_mem (h := r) e)
    | mp k l => exact List.mem_cons_of_mem _ (bagOf_mem (h := r) e)
    | it k e2 l c0 => exact List.mem_cons_of_mem _ (bagOf_mem (h := r) e)
    | sit s p => exact List.mem_cons_of_mem _ (bagOf_mem (h := r) e)
theorem rowsOf_src {st : St} {a : Act} {x : AV} {vx : Value} {l : List (List D)} {c t' e' : Nat} (hs : RepS ρ st a w) (hx : RelV ρ w (Mut ρ st.h) x vx) (hl : rowsOf st x = some l) (ht' : P.underlying t' = some (.slice e'))
    (hc : ∀ r ∈ l, r.length = c ∧ ∀ d ∈ r, flatD d = true) : ∃ news, Src P c t' vx l.length news w ∧ RelRows w (Mut ρ st.h) l news := by
  cases x with
  | d y =>
    cases y with
    | nilsl =>
      simp [rowsOf] at hl
      subst hl
      obtain rfl : vx = .slice none 0 0 := hx
      exact ⟨[], Src.ofNil w ht' 0, trivial⟩
    | imm l' =>
      simp [rowsOf] at hl
      subst hl
      obtain ⟨ad, cap, rfl, hcap, hh⟩ := hx
      rcases hh with rfl | ⟨b, off, cs, e, fz, c0, rfl, hb, hm, hl0, hr⟩
      · cases ad with
        | none => exact ⟨[], Src.ofNil w ht' cap, trivial⟩
        | some ad => exact ⟨[], Src.ofSlice w ht' ad 0 cap [] (by simp) (by simp) (by simp), trivial⟩
      · have hr2 := RelRows.take l' _ (fun r hr => (hc r hr).1) hr
        have hlen := RelRows.len l' _ (fun r hr => (hc r hr).1) hr
        have hlen2 : ((cs.toList.drop off).take (l'.length * c)).length = l'.length * c := by rw [List.length_take]; omega
        refine ⟨_, Src.ofSlice w ht' ⟨b, off, none⟩ l'.length cap ((cs.toList.drop off).take (l'.length * c)) hlen2 ?_ (RelRows.one (c := c) l' _ hc hlen2 hr2), hr2⟩
        intro j u hj
        rw [cells_at hb]
        rw [List.getElem?_take] at hj
        split at hj
        · rw [List.getElem?_drop] at hj
          rw [← hj, Array.getElem?_toList]
        · cases hj
    | _ => simp [rowsOf] at hl
  | sl id =>
    simp only [rowsOf] at hl
    cases ho : hget st.h id with
    | none => simp [ho] at hl
    | some o =>
      cases o with
      | cells q => simp [ho] at hl
      | mp k m => simp [ho] at hl
      | it k e m c0 => simp [ho] at hl
      | sit s p => simp [ho] at hl
      | bag s p => simp [ho] at hl
      | row c' l' =>
        simp [ho] at hl
        subst hl
        obtain ⟨hid, a0, n0, cap0, rfl⟩ := hx
        obtain ⟨v, xs, e, hv, hc', hown, hl', hr⟩ := obj_row hs.rep ho
        rw [hid] at hv
        obtain rfl := Option.some.inj hv
        have hlen := hown.1
        have hr0 := hr
        rcases hown.2 with ⟨hv, h0⟩ | ⟨g', cap', cur, hv, hb, hgg, hcap, hmx, hsz, ht⟩
        · simp only [Value.slice.injEq] at hv
          obtain ⟨rfl, rfl, rfl⟩ := hv
          have : l' = [] := List.eq_nil_of_length_eq_zero h0
          subst this
          exact ⟨[], Src.ofNil w ht' 0, trivial⟩
        · simp only [Value.slice.injEq] at hv
          obtain ⟨rfl, rfl, rfl⟩ := hv
          by_cases hl0 : l' = []
          · subst hl0
            exact ⟨[], Src.ofSlice w ht' _ 0 _ [] (by simp) (by simp) (by simp), trivial⟩
          · have hcc : c' = c := by
              obtain ⟨r, hr⟩ := List.exists_mem_of_ne_nil _ hl0
              rw [← hl' r hr, (hc r hr).1]
            subst hcc
            exact ⟨xs, Src.ofSlice w ht' ⟨g', 0, none⟩ l'.length _ xs hlen (hown.cells (g := g') rfl) (RelRows.one (c := c') l' _ hc hlen hr0), hr0⟩
  | _ => simp [rowsOf] at hl
theorem src_sound (hT : TysOK P T) {st : St} {a : Act} {x : AV} {vx : Value} {l : List (List D)} {c t' : Nat} (hs : RepS ρ st a w) (hx : RelV ρ w (Mut ρ st.h) x vx) (hl : srcA T real st t' c x = some l)
    (hc : ∀ r ∈ l, r.length = c ∧ ∀ d ∈ r, flatD d = true) : ∃ news, Src P c t' vx l.length news w ∧ RelRows w (Mut ρ st.h) l news := by
  unfold srcA at hl
  split at hl
  · rename_i v
    split at hl
    · rename_i hu
      cases hb : c == 1 with
      | false => simp [hb] at hl
      | true =>
        simp [hb] at hl
        subst hl
        have hc1 : c = 1 := by simpa using hb
        subst hc1
        obtain rfl : vx = .string ⟨v.toArray⟩ := hx
        refine ⟨_, ?_, s2b_rows v⟩
        have h1 := Src.ofString (P := P) w (hT.str hu) ⟨v.toArray⟩
        have h2 : (ByteArray.mk v.toArray).size = (real.s2b v).length := by simp [real, ByteArray.size]
        rw [h2] at h1
        exact h1
    · cases hl
  · rename_i hne
    split at hl
    · rename_i e hu
      exact rowsOf_src hs hx hl (hT.slice hu) hc
    · cases hl
theorem apok_spec {l l' : List (List D)} {c bytes : Nat} (h : real.apok l l' c bytes = true) : l.length + l'.length ≤ maxLen ∧ (l.length + l'.length) * bytes ≤ 140737488355328 ∧ ∀ r ∈ l', r.length = c ∧ ∀ d ∈ r, flatD d = true := by
  simp only [real, Bool.and_eq_true, decide_eq_true_eq, List.all_eq_true, beq_iff_eq] at h
  exact ⟨h.1.1, h.1.2, h.2⟩
theorem zeroD_rel {v : Value} {z : List D} (h : zeroD v = some z) : RelDs w M z v.cells.toList := by
  unfold zeroD at h
  split at h
  · exact cdatas_rel _ _ h
  · rename_i hne
    cases hd : cdata v with
    | none => simp [hd] at h
    | some d =>
      simp [hd] at h
      subst h
      have : v.cells.toList = [v] := by cases v <;> first | rfl | exact absurd rfl (hne _)
      rw [this]
      exact ⟨v, [], rfl, cdata_rel hd, rfl⟩
/-- What a run is told of a type whose zero value it knows. -/
theorem TysOK.zero (hT : TysOK P T) {t : Nat} {z : List D} (hs : (T t).size ≠ 0) (hz : (T t).zero = some z) : ∃ i v, P.info? t = some i ∧ i.zero = some v ∧ zeroD v = some z ∧ i.size = (T t).size ∧ i.bytes = (T t).bytes := by
  obtain ⟨i, d, hi, hd, hu, hs, hb, h0, -⟩ := hT.of_size hs
  rcases h0 with h0 | h0
  · rw [h0] at hz; cases hz
  · rw [h0] at hz
    cases hv : i.zero with
    | none => rw [hv] at hz; cases hz
    | some v =>
      rw [hv] at hz
      exact ⟨i, v, hi, hv, hz, hs.symm, hb.symm⟩

theorem append_sound (hT : TysOK P T) {st : St} {a : Act} {t t' : Nat} {ty : TypeId} {s x : AV} {vs vx : Value} {K : St → AV → Prop} (hs : RepS ρ st a w) (hsv : RelV ρ w (Mut ρ st.h) s vs) (hx : RelV ρ w (Mut ρ st.h) x vx)
    (hA : appendA T real st t t' s x K) : Nexts P ρ st w K (Builtin.append_ #[t, t'] ty #[vs, vx]) := by
  unfold appendA Ab.ty at hA
  split at hA
  case h_2 => exact hA.elim
  rename_i e hu
  dsimp only at hA
  cases hsrc : srcA T real st t' (T e).size x with
  | none => simp [hsrc] at hA
  | some l' =>
    cases hz : (T e).zero with
    | none => simp [hsrc, hz] at hA
    | some z =>
      simp only [hsrc, hz] at hA
      obtain ⟨hcz, hA⟩ := bif_true hA not_false
      simp only [Bool.and_eq_true, beq_iff_eq] at hcz
      have hc0 := Nat.le_of_ble_eq_true hcz.1
      have hu' := hT.slice hu
      obtain ⟨i, zv, hi, hiz, hzd, his, hib⟩ := hT.zero (by omega) hz
      have hzs : zv.cells.size = i.size := by
        have h9 : z.length = zv.cells.toList.length := RelDs.length _ _ (zeroD_rel (w := w) (M := fun _ => False) hzd)
        have h8 : zv.cells.toList.length = zv.cells.size := Array.length_toList
        omega
      -- what was there, as a row
      have key : ∀ (l : List (List D)) (v : Value) (xs : List Value) (ty0 : TypeId), w.ownsRow 0 ty0 (T e).size v l.length xs → (∀ r ∈ l, r.length = (T e).size) → RelRows w (Mut ρ st.h) l xs → real.apok l l' (T e).size (T e).bytes = true →
          ∃ v' w' ty' news, (Builtin.append_ #[t, t'] ty #[v, vx]).run P w = .ok v' w' ∧ w'.ownsRow 0 ty' (T e).size v' (l ++ l').length (xs ++ news) ∧ w.grownBy w' v.ownBlock ∧ (∃ a q cap, v' = .slice a q cap) ∧
            (blkOf v' = blkOf v ∨ ∀ b, blkOf v' = some b → w.heap.size ≤ b) ∧ RelRows w (Mut ρ st.h) (l ++ l') (xs ++ news) ∧ ∀ r ∈ l ++ l', r.length = (T e).size := by
        intro l v xs ty0 hown hl hr hok
        obtain ⟨h1, h2, h3⟩ := apok_spec hok
        obtain ⟨news, hsr, hrn⟩ := src_sound hT hs hx hsrc h3
        rw [← his] at hsr hown
        obtain ⟨v', w', ty', g1, g2, g3, g4, g5⟩ := append_run (ty := ty) hu' hi hiz hzs (by omega) hown hsr h1 (by rw [hib]; exact h2)
        refine ⟨v', w', ty', news, g1, by rw [List.length_append, ← his]; exact g2, g3, g4, g5, RelRows.append (c := (T e).size) l l' xs news hl (by rw [hown.1, his]) hr hrn, ?_⟩
        intro r hr
        rcases List.mem_append.1 hr with hr | hr
        · exact hl r hr
        · exact (h3 r hr).1
      have hob : ∀ v : Value, (∃ a q cap, v = .slice a q cap) → v.ownBlock = blkOf v := by
        rintro v ⟨a, q, cap, rfl⟩
        cases a <;> rfl
      cases s with
      | d y =>
        cases y with
        | nilsl =>
          obtain ⟨hok, hK⟩ := hA
          obtain rfl : vs = .slice none 0 0 := hsv
          obtain ⟨v', w', ty', news, g1, g2, g3, g4, g5, g6, g7⟩ := key [] (.slice none 0 0) [] e (World.ownsRow_nil w 0 e _) (by simp) trivial hok
          have hgr : Grows w w' := fun b o hb => by rw [g3.block b (lt_of_get hb) (by simp [Value.ownBlock])]; exact hb
          have hbn : ∀ b, blkIn v' b → w.heap.size ≤ b := by
            intro b hb
            have hb := ownsRow_in g2 hb
            rcases g5 with g5 | g5
            · rw [g5] at hb; cases hb
            · exact g5 b hb
          refine nexts_new (av := .sl st.n) (pv := v') (o := .row (T e).size (real.app [] l')) hs hgr g3.os g3.tape g3.output g3.size g1 hbn (fun hk => ?_) ⟨upd_same _ _ _, g4⟩ hK
          exact ⟨v', _, ty', upd_same _ _ _, by omega, g2, g7, RelRows.mono hk _ _ g6⟩
        | _ => exact hA.elim
      | sl id =>
        dsimp only at hA
        cases ho : hget st.h id with
        | none => simp [ho] at hA
        | some o =>
          cases o with
          | cells q => simp [ho] at hA
          | mp k m => simp [ho] at hA
          | it k e m c0 => simp [ho] at hA
          | sit s p => simp [ho] at hA
          | bag s p => simp [ho] at hA
          | row c' l =>
            simp only [ho] at hA
            obtain ⟨⟨rfl, hok⟩, hK⟩ := hA
            obtain ⟨hid, hsl⟩ := hsv
            obtain ⟨v, xs, ty0, hv, hc', hown, hl, hr⟩ := obj_row hs.rep ho
            rw [hid] at hv
            obtain rfl := Option.some.inj hv
            obtain ⟨v', w', ty', news, g1, g2, g3, g4, g5, g6, g7⟩ := key l vs xs ty0 hown hl hr hok
            rw [hob vs hsl] at g3
            have hw : ∀ k, k < w.heap.size → ¬ blkIn vs k → w'.heap[k]? = w.heap[k]? := fun k hk hne => g3.block k hk (fun e => hne (in_of_row hown e.symm))
            have g5' : ∀ b, blkIn v' b → blkIn vs b ∨ w.heap.size ≤ b := fun b hb => by
              have hb := ownsRow_in g2 hb
              rcases g5 with g5 | g5
              · exact .inl (in_of_row hown (by rw [← g5]; exact hb))
              · exact .inr (g5 b hb)
            obtain ⟨hrep, hmb⟩ := hs.rep.exch (o := .row (T e).size (l ++ l')) (hget_mem ho) hid hw g5' (fun hk => ⟨v', _, ty', upd_same _ _ _, hc', g2, g7, RelRows.mono hk _ _ g6⟩)
            refine ⟨v', w', .sl st.n, _, _, _, g1, hK, hrep, ⟨upd_same _ _ _, g4⟩, by omega, ⟨g3.os, g3.tape, g3.output, g3.size, ?_, hmb, upd_ext _ _ _, rfl⟩⟩
            intro b hb hm
            exact hw b hb (fun e => hm ⟨id, _, vs, hget_mem ho, hid, e⟩)
      | raw v0 =>
        dsimp only at hA
        cases hbg : bagOf st.h with
        | none => simp [hbg] at hA
        | some q =>
          obtain ⟨id, c', L⟩ := q
          simp only [hbg] at hA
          obtain ⟨rfl, ⟨xs, L', hcs, hok, hK⟩⟩ := hA
          obtain ⟨rfl, a0, n0, cap0, hsl⟩ := hsv
          have hm := bagOf_mem hbg
          obtain ⟨vsb, hid, hvs, hc', hL, hP⟩ := hs.rep.objs id _ hm
          have hin : ∀ p ∈ L, ∀ b, blkOf p.1 = some b → blkIn (.tuple vsb) b := fun p hp b hb => ⟨p.1, by rw [hvs]; exact List.mem_map.2 ⟨p, hp, rfl⟩, hb⟩
          have hsub : (∀ p ∈ L', p ∈ L) ∧ (∀ p ∈ L', ∀ b, blkOf p.1 = some b → blkOf vs ≠ some b) ∧ (L'.Pairwise fun p q => ∀ b, blkOf p.1 = some b → blkOf q.1 ≠ some b) ∧ (∀ b, blkOf vs = some b → blkIn (.tuple vsb) b) ∧
              ∃ cs ty0, w.ownsRow 0 ty0 (T e).size vs xs.length cs ∧ (∀ r ∈ xs, r.length = (T e).size) ∧ RelRows w (Mut ρ st.h) xs cs := by
            rcases hcs with ⟨rfl, rfl, rfl⟩ | ⟨A, B, rfl, rfl⟩
            · exact ⟨fun p hp => hp, (fun p _ b _ h => by cases h), hP, (fun b h => by cases h), [], e, World.ownsRow_nil w 0 e _, (fun r hr => by cases hr), trivial⟩
            · rw [List.pairwise_append] at hP
              obtain ⟨p1, p2, p3⟩ := hP
              rw [List.pairwise_cons] at p2
              have hpm : ∀ p ∈ A ++ B, p ∈ A ++ (vs, xs) :: B := fun p hp => by
                rcases List.mem_append.1 hp with hp | hp
                · exact List.mem_append_left _ hp
                · exact List.mem_append_right _ (List.mem_cons_of_mem _ hp)
              refine ⟨hpm, ?_, ?_, hin (vs, xs) (by simp), hL (vs, xs) (by simp)⟩
              · intro p hp b hb
                rcases List.mem_append.1 hp with hp | hp
                · exact p3 p hp (vs, xs) (by simp) b hb
                · exact fun h => p2.1 p hp b h hb
              · rw [List.pairwise_append]
                exact ⟨p1, p2.2, fun a ha b hb => p3 a ha b (List.mem_cons_of_mem _ hb)⟩
          obtain ⟨k1, k2, k3, k4, cs, ty0, hown, hl, hr⟩ := hsub
          obtain ⟨v', w', ty', news, g1, g2, g3, g4, g5, g6, g7⟩ := key xs vs cs ty0 hown hl hr hok
          rw [hob vs ⟨a0, n0, cap0, hsl⟩] at g3
          have hw : ∀ k, k < w.heap.size → ¬ blkIn (.tuple vsb) k → w'.heap[k]? = w.heap[k]? := fun k hk hne => g3.block k hk (fun e => hne (k4 k e.symm))
          have hbl : ∀ p ∈ L, ∀ b, blkOf p.1 = some b → b < w.heap.size := fun p hp b hb => by
            obtain ⟨cs2, ty2, h2, -⟩ := hL p hp
            obtain ⟨c3, f3, h3⟩ := ownsRow_blk h2 hb
            exact lt_of_get h3
          have g5' : ∀ b, blkIn (.tuple ⟨v' :: L'.map (·.1)⟩) b → blkIn (.tuple vsb) b ∨ w.heap.size ≤ b := by
            rintro b ⟨u, hu, hb⟩
            rcases List.mem_cons.1 hu with rfl | hu
            · rcases g5 with g5 | g5
              · exact .inl (k4 b (by rw [← g5]; exact hb))
              · exact .inr (g5 b hb)
            · obtain ⟨p, hp, rfl⟩ := List.mem_map.1 hu
              exact .inl (hin p (k1 p hp) b hb)
          obtain ⟨hrep, hmb⟩ := hs.rep.exch (v' := .tuple ⟨v' :: L'.map (·.1)⟩) (o := .bag (T e).size ((v', xs ++ l') :: L')) hm hid hw g5' (fun hk => by
            refine ⟨⟨v' :: L'.map (·.1)⟩, upd_same _ _ _, rfl, hc', ?_, ?_⟩
            · intro p hp
              rcases List.mem_cons.1 hp with rfl | hp
              · exact ⟨_, ty', g2, g7, RelRows.mono hk _ _ g6⟩
              · obtain ⟨cs2, ty2, h2, h3, h4⟩ := hL p (k1 p hp)
                refine ⟨cs2, ty2, ownsRow_of_block (fun b hb => g3.block b (hbl p (k1 p hp) b hb) (fun e => k2 p hp b hb e.symm)) h2, h3, RelRows.mono hk _ _ h4⟩
            · rw [List.pairwise_cons]
              refine ⟨fun p hp b hb hb2 => ?_, k3⟩
              rcases g5 with g5 | g5
              · exact k2 p hp b hb2 (by rw [← g5]; exact hb)
              · have h1 := g5 b hb
                have h2 := hbl p (k1 p hp) b hb2
                omega)
          refine ⟨v', w', .raw v', _, _, _, g1, hK v' g4, hrep, ⟨rfl, g4⟩, by omega, ⟨g3.os, g3.tape, g3.output, g3.size, ?_, hmb, upd_ext _ _ _, rfl⟩⟩
          intro b hb hm2
          exact hw b hb (fun e => hm2 ⟨id, _, _, hm, hid, e⟩)
      | _ => exact hA.elim
end
end Go.Proofs.Yteakfibolfapiaa.Ab
