/- The executor is sound: what is forgotten, code, functions. -/
import Derived.Test.YteakfibolfapiaaTrAb18
namespace Go.Proofs.Yteakfibolfapiaa.Ab
open Go.RowKit Go.Sort
set_option linter.unusedVariables false
set_option linter.unusedSimpArgs false

/-! what is forgotten -/
theorem memN_iff {x : Nat} : ∀ l : List Nat, memN x l = true ↔ x ∈ l
  | [] => by simp [memN]
  | y :: r => by
    simp only [memN]
    cases hb : x == y with
    | true => simp [eq_of_beq hb]
    | false =>
      have : x ≠ y := by simpa using hb
      simp [memN_iff r, this]
theorem allN_iff {p : Nat → Bool} : ∀ l : List Nat, allN p l = true ↔ ∀ x ∈ l, p x = true
  | [] => by simp [allN]
  | y :: r => by
    simp only [allN]
    cases hb : p y with
    | true => simp [allN_iff r, hb]
    | false => simp [hb]
theorem nodupN_iff : ∀ l : List Nat, nodupN l = true → l.Nodup
  | [], _ => by simp
  | y :: r, h => by
    simp only [nodupN] at h
    cases hb : memN y r with
    | true => rw [hb] at h; cases h
    | false =>
      rw [hb] at h
      rw [List.nodup_cons]
      refine ⟨fun hm => ?_, nodupN_iff r h⟩
      rw [← memN_iff, hb] at hm
      cases hm
section
variable {P : Program} {T : Nat → TI} {ρ ρ' : Env} {w w' : World} {M M' : Nat → Prop} {n : Nat} {h : Hp}
mutual
theorem ren_rel {f : Nat → Nat} (hk : Keeps w M w M') : ∀ (x : AV) (v : Value), (∀ i ∈ idsV x, ρ' (f i) = ρ i) → RelV ρ w M x v → RelV ρ' w M' (renV f x) v
  | .d x, v, hi, r => RelD.mono hk x v r
  | .ptr i off, v, hi, ⟨b, hb, hv⟩ => ⟨b, by rw [hi i (by simp [idsV])]; exact hb, hv⟩
  | .iptr l i g, v, hi, ⟨b, off, cs, e, fz, c, hv, h0, hb, hm, hl, hr⟩ => by
      obtain ⟨h1, h2⟩ := hk b _ hb hm
      exact ⟨b, off, cs, e, fz, c, hv, h0, h1, h2, hl, RelRows.mono hk l _ hr⟩
  | .rptr i c j g, v, hi, ⟨g', n, cap, hb, h0, hv⟩ => ⟨g', n, cap, by rw [hi i (by simp [idsV])]; exact hb, h0, hv⟩
  | .aptr i off n c j g, v, hi, ⟨b, hb, h0, h1, hv⟩ => ⟨b, by rw [hi i (by simp [idsV])]; exact hb, h0, h1, hv⟩
  | .sl i, v, hi, ⟨r, h2⟩ => ⟨by rw [hi i (by simp [idsV])]; exact r, h2⟩
  | .map i, v, hi, ⟨r, h2⟩ => ⟨by rw [hi i (by simp [idsV])]; exact r, h2⟩
  | .iter i, v, hi, ⟨r, h2⟩ => ⟨by rw [hi i (by simp [idsV])]; exact r, h2⟩
  | .agg vs, v, hi, ⟨cs, hv, r⟩ => ⟨cs, hv, rens_rel hk vs _ hi r⟩
  | .tup vs, v, hi, ⟨cs, hv, r⟩ => ⟨cs, hv, rens_rel hk vs _ hi r⟩
  | .fn g vs, v, hi, ⟨cs, hv, r⟩ => ⟨cs, hv, rens_rel hk vs _ hi r⟩
  | .ifc t x, v, hi, ⟨y, hv, r⟩ => ⟨y, hv, ren_rel hk x _ hi r⟩
  | .top, v, hi, r => trivial
  | .raw v0, v, hi, r => r
theorem rens_rel {f : Nat → Nat} (hk : Keeps w M w M') : ∀ (x : List AV) (v : List Value), (∀ i ∈ idsVs x, ρ' (f i) = ρ i) → RelVs ρ w M x v → RelVs ρ' w M' (renVs f x) v
  | [], vs, hi, r => r
  | d :: ds, vs, hi, ⟨v, rest, hv, r1, r2⟩ => ⟨v, rest, hv, ren_rel hk d v (fun i h => hi i (by simp [idsVs, h])) r1, rens_rel hk ds rest (fun i h => hi i (by simp [idsVs, h])) r2⟩
end
theorem keepF_rel {f : Nat → Nat} {slots : List Nat} (hk : Keeps w M w M') : ∀ (l : List AV) (i : Nat) (vs : List Value), (∀ j ∈ idsF slots i l, ρ' (f j) = ρ j) → RelVs ρ w M l vs → RelVs ρ' w M' (keepF f slots i l) vs
  | [], i, vs, hi, r => r
  | x :: r, i, vs, hi, ⟨v, rest, hv, r1, r2⟩ => by
    refine ⟨v, rest, hv, ?_, keepF_rel hk r (i + 1) rest (fun j hj => hi j (by simp [idsF, hj])) r2⟩
    cases hm : memN i slots with
    | true => exact ren_rel hk x v (fun j hj => hi j (by simp [idsF, hm, hj])) r1
    | false => exact trivial
theorem keepH_mem {f : Nat → Nat} {h : Hp} : ∀ (l : List Nat) (i : Nat) (o : Ob), (i, o) ∈ keepH f h l → ∃ s o', s ∈ l ∧ hget h s = some o' ∧ i = f s ∧ o = renO f o'
  | [], i, o, hm => by simp [keepH] at hm
  | s :: r, i, o, hm => by
    simp only [keepH] at hm
    cases ho : hget h s with
    | none =>
      rw [ho] at hm
      obtain ⟨s', o', h1, h2⟩ := keepH_mem r i o hm
      exact ⟨s', o', by simp [h1], h2⟩
    | some x =>
      rw [ho] at hm
      dsimp only at hm
      rcases List.mem_cons.1 hm with e | hm
      · simp only [Prod.mk.injEq] at e
        exact ⟨s, x, by simp, ho, e.1, e.2⟩
      · obtain ⟨s', o', h1, h2⟩ := keepH_mem r i o hm
        exact ⟨s', o', by simp [h1], h2⟩
theorem keepH_ids {f : Nat → Nat} {h : Hp} : ∀ (l : List Nat), ((keepH f h l).map (·.1)).Sublist (l.map f)
  | [] => List.Sublist.slnil
  | s :: r => by
    simp only [keepH]
    cases ho : hget h s with
    | none => exact (keepH_ids r).trans (List.sublist_cons_self _ _)
    | some x => exact (keepH_ids r).cons_cons _
theorem idsH_mem {h : Hp} : ∀ (l : List Nat) (s : Nat) (o : Ob), s ∈ l → hget h s = some o → ∀ i ∈ idsO o, i ∈ idsH (keepH id h l)
  | [], s, o, hs, _, i, _ => by cases hs
  | t :: r, s, o, hs, ho, i, hi => by
    simp only [keepH]
    have e : idsO (renO id o) = idsO o := by
      cases o with
      | cells q => simp [renO, idsO, ren_id]
      | row c q => rfl
      | mp k m => rfl
      | it k e m c0 => rfl
      | sit s p => rfl
      | bag c l => rfl
    rcases List.mem_cons.1 hs with rfl | hs
    · rw [ho]
      simp only [idsH, List.mem_append, e]
      exact .inl hi
    · have := idsH_mem r s o hs ho i hi
      cases hget h t with
      | none => exact this
      | some x => simp only [idsH, List.mem_append]; exact .inr this
where
  ren_id (q : List AV) : idsVs (renVs id q) = idsVs q := by rw [renVs_id q]
  renVs_id : ∀ q : List AV, renVs id q = q
    | [] => rfl
    | x :: r => by rw [renVs, renV_id x, renVs_id r]
  renV_id : ∀ q : AV, renV id q = q
    | .d x => rfl
    | .ptr i off => rfl
    | .iptr l' i g => rfl
    | .rptr i c j g => rfl
    | .aptr i off n c j g => rfl
    | .sl i => rfl
    | .map i => rfl
    | .iter i => rfl
    | .agg vs => by rw [renV, renVs_id vs]
    | .tup vs => by rw [renV, renVs_id vs]
    | .fn g vs => by rw [renV, renVs_id vs]
    | .ifc t x => by rw [renV, renV_id x]
    | .top => rfl
    | .raw _ => rfl
theorem renV_id' (q : AV) : renV (fun i => i) q = q := idsH_mem.renV_id q
/-- The places under their new numbers. -/
def renE (f : Nat → Nat) (n0 : Nat) (ids : List Nat) (ρ : Env) : Env := ⟨fun t =>
  match ids.find? (fun s => f s == t) with
  | some s => ρ s
  | none => if t < n0 then ρ t else none, ρ.F⟩
theorem nodup_inj {f : Nat → Nat} : ∀ {l : List Nat}, (l.map f).Nodup → ∀ a ∈ l, ∀ b ∈ l, f a = f b → a = b
  | [], _, a, ha, _, _, _ => by cases ha
  | x :: r, h, a, ha, b, hb, e => by
    rw [List.map_cons, List.nodup_cons] at h
    rcases List.mem_cons.1 ha with rfl | ha' <;> rcases List.mem_cons.1 hb with rfl | hb'
    · rfl
    · exact absurd (List.mem_map.2 ⟨b, hb', e.symm⟩) h.1
    · exact absurd (List.mem_map.2 ⟨a, ha', e⟩) h.1
    · exact nodup_inj h.2 a ha' b hb' e
theorem renE_at {f : Nat → Nat} {n0 : Nat} {ids : List Nat} (hn : (ids.map f).Nodup) {s : Nat} (hs : s ∈ ids) : renE f n0 ids ρ (f s) = ρ s := by
  unfold renE
  dsimp only
  cases hf : ids.find? (fun t => f t == f s) with
  | none =>
    have := List.find?_eq_none.1 hf s hs
    simp at this
  | some t =>
    have h1 := List.find?_some hf
    have h2 := List.mem_of_find?_eq_some hf
    have : t = s := nodup_inj hn t h2 s hs (by simpa using h1)
    rw [this]
theorem wk_sound {n0 : Nat} {k : Wk} {st : St} {a : Act} (hs : RepS ρ st a w) (hn0 : n0 ≤ st.n) (h : wkOK n0 k st = true) : ∃ ρ', RepS ρ' (wk k st) a w ∧ n0 ≤ (wk k st).n ∧ Goes n0 ρ st.h w ρ' (wk k st).h w := by
  obtain ⟨f1, f2, f3⟩ := frzs_sound k.fz hs
  unfold wkOK at h
  unfold wk
  have g0 := f3 n0
  generalize frzs st k.fz = st1 at *
  simp only [Bool.and_eq_true] at h
  obtain ⟨⟨⟨⟨⟨h1, h2⟩, h3⟩, h4⟩, h5⟩, h6⟩ := h
  have h1 := Nat.le_of_ble_eq_true h1
  have h3 := nodupN_iff _ h3
  have h4 := nodupN_iff _ h4
  rw [allN_iff] at h5 h6
  have h5 : ∀ s ∈ k.ids, renI k.θ s < k.n ∧ (renI k.θ s = s ∨ n0 ≤ renI k.θ s) := fun s hs => by
    have := h5 s hs
    simp only [Bool.and_eq_true, Bool.or_eq_true, beq_iff_eq] at this
    exact ⟨Nat.le_of_ble_eq_true this.1, this.2.imp id Nat.le_of_ble_eq_true⟩
  have h6 : ∀ s, s ∈ idsF k.slots 0 st1.fr ∨ s ∈ idsH (keepH id st1.h k.ids) → s ∈ k.ids := fun s hs => by
    have := h6 s (List.mem_append.2 hs)
    rwa [memN_iff] at this
  have at_ : ∀ s ∈ k.ids, renE (renI k.θ) n0 k.ids ρ (renI k.θ s) = ρ s := fun s hs => renE_at h3 hs
  have hloc : ∀ b, Loc (renE (renI k.θ) n0 k.ids ρ) (keepH (renI k.θ) st1.h k.ids) b → Loc ρ st1.h b := by
    rintro b ⟨i, o, v, m1, m2, m3⟩
    obtain ⟨s, o', q1, q2, rfl, rfl⟩ := keepH_mem _ _ _ m1
    rw [at_ s q1] at m2
    exact ⟨s, o', v, hget_mem q2, m2, m3⟩
  have hmut : ∀ b, Mut (renE (renI k.θ) n0 k.ids ρ) (keepH (renI k.θ) st1.h k.ids) b → Mut ρ st1.h b := fun b m => m.imp (fun f => f) (hloc b)
  have hk : Keeps w (Mut ρ st1.h) w (Mut (renE (renI k.θ) n0 k.ids ρ) (keepH (renI k.θ) st1.h k.ids)) := fun b o hb hm => ⟨hb, fun m => hm (hmut b m)⟩
  refine ⟨renE (renI k.θ) n0 k.ids ρ, ⟨hs.defers, keepF_rel hk _ 0 _ (fun j hj => at_ j (h6 j (.inl hj))) f1.fr, ?_, ?_, ?_, ?_, ?_, f1.rep.old.as rfl⟩, h1, g0.trans ⟨rfl, rfl, rfl, Nat.le_refl _, fun _ _ _ => rfl, fun b _ m => hloc b m, ?_, rfl⟩⟩
  · exact h3.sublist (keepH_ids k.ids)
  · intro i o hm
    obtain ⟨s, o', q1, q2, rfl, rfl⟩ := keepH_mem _ _ _ hm
    have r := f1.rep.objs s o' (hget_mem q2)
    cases o' with
    | cells q =>
      obtain ⟨b, cs, ty, r1, r2, r3⟩ := r
      exact ⟨b, cs, ty, by rw [at_ s q1]; exact r1, r2, rens_rel hk _ _ (fun j hj => at_ j (h6 j (.inr (idsH_mem k.ids s _ q1 q2 j hj)))) r3⟩
    | row c q =>
      obtain ⟨v, xs, ty, r1, r2, r3, r4, r5⟩ := r
      exact ⟨v, xs, ty, by rw [at_ s q1]; exact r1, r2, r3, r4, RelRows.mono hk _ _ r5⟩
    | mp k2 q => obtain ⟨r', r1, r2⟩ := r; exact ⟨r', by rw [at_ s q1]; exact r1, r2⟩
    | it k2 e2 q c0 => obtain ⟨b, r', r1, r2, r3⟩ := r; exact ⟨b, r', by rw [at_ s q1]; exact r1, r2, by obtain ⟨E, cl, seen, g1, g2⟩ := r2; exact (hk r' _ g1 r3).2⟩
    | sit s2 p2 => obtain ⟨b, r1, r2⟩ := r; exact ⟨b, by rw [at_ s q1]; exact r1, r2⟩
    | bag c2 l2 =>
      obtain ⟨vs, r1, r2, r3, r4, r5⟩ := r
      exact ⟨vs, by rw [at_ s q1]; exact r1, r2, r3, fun p hp => by obtain ⟨xs, ty, g1, g2, g3⟩ := r4 p hp; exact ⟨xs, ty, g1, g2, RelRows.mono hk _ _ g3⟩, r5⟩
  · intro i o j o2 v v2 b hi hj m1 m2 m3 m4
    obtain ⟨s, o', q1, q2, rfl, rfl⟩ := keepH_mem _ _ _ hi
    obtain ⟨s2, o2', q3, q4, rfl, rfl⟩ := keepH_mem _ _ _ hj
    rw [at_ s q1] at m1
    rw [at_ s2 q3] at m2
    rw [f1.rep.inj s o' s2 o2' v v2 b (hget_mem q2) (hget_mem q4) m1 m2 m3 m4]
  · intro t ht
    dsimp only at ht
    unfold renE
    dsimp only
    cases hf : k.ids.find? (fun s => renI k.θ s == t) with
    | none => simp only; rw [if_neg (by omega)]
    | some s =>
      have q1 := List.find?_some hf
      have q2 := (h5 s (List.mem_of_find?_eq_some hf)).1
      simp at q1
      omega
  · intro i o v b hi m1 m2
    obtain ⟨s, o', q1, q2, rfl, rfl⟩ := keepH_mem _ _ _ hi
    rw [at_ s q1] at m1
    exact f1.rep.sep s o' v b (hget_mem q2) m1 m2
  · intro t ht
    unfold renE
    dsimp only
    cases hf : k.ids.find? (fun s => renI k.θ s == t) with
    | none => simp only; rw [if_pos ht]
    | some s =>
      have q1 := List.find?_some hf
      have q2 := (h5 s (List.mem_of_find?_eq_some hf)).2
      have q1 : renI k.θ s = t := by simpa using q1
      dsimp only
      rcases q2 with q2 | q2
      · rw [← q1, q2]
      · omega

/-! code -/
/-- What is said behind code. -/
def Post (K : Ex → St → Prop) (n0 : Nat) (ρ : Env) (h : Hp) (w : World) : Exit → Act → World → Prop
  | .normal, a, w' => Out (K .normal) n0 ρ h w a w'
  | .exit i, a, w' => Out (K (.exit i)) n0 ρ h w a w'
  | .ret, a, w' => Out (K .ret) n0 ρ h w a w'
  | _, _, _ => False
theorem Post.lift {K : Ex → St → Prop} {n0 : Nat} {ρ1 : Env} {h1 : Hp} {w1 : World} (g : Goes n0 ρ h w ρ1 h1 w1) {e : Exit} {a : Act} (p : Post K n0 ρ1 h1 w1 e a w') : Post K n0 ρ h w e a w' := by
  cases e with
  | normal => exact Out.lift g (Nat.le_refl _) p
  | exit i => exact Out.lift g (Nat.le_refl _) p
  | ret => exact Out.lift g (Nat.le_refl _) p
  | _ => exact p.elim
/-- A loop, its measure taken of what is hidden. -/
theorem wp_loop_hid {G : Type} {c : Code} {Q : Exit → Act → World → Prop} (I : G → Act → World → Prop) (μ : G → Nat) {g : G} {a : Act} (h₀ : I g a w)
    (round : ∀ g a w, I g a w → c.wp P (Exit.then (fun a' w' => ∃ g', I g' a' w' ∧ μ g' < μ g) Q) a w) : (Code.loop c).wp P Q a w := by
  have key : ∀ (m : Nat) (g : G) (a : Act) (w : World), μ g = m → I g a w → ∀ b k cs, ∃ e a' w', Q e a' w' ∧ Arrives P (lone (b.at a (.code c :: .inLoop c :: k)) cs w) b k cs e a' w' := by
    intro m
    induction m using Nat.strongRecOn with
    | _ m ih =>
      intro g a w hm hI b k cs
      obtain ⟨e, a1, w1, hq, arr⟩ := round g a w hI b (.inLoop c :: k) cs
      have out : Q e a1 w1 → e ≠ .normal → ∃ e a' w', Q e a' w' ∧ Arrives P (lone (b.at a (.code c :: .inLoop c :: k)) cs w) b k cs e a' w' :=
        fun q hne => ⟨e, a1, w1, q, Arrives.pass (x := .inLoop c) rfl (fun _ _ => .inl hne) arr⟩
      cases e with
      | normal =>
        obtain ⟨g1, hI1, hlt⟩ := hq
        obtain ⟨e2, a2, w2, q2, arr2⟩ := ih (μ g1) (hm ▸ hlt) g1 a1 w1 rfl hI1 b k cs
        exact ⟨e2, a2, w2, q2, .of_steps (Steps.trans arr (.one step_inLoop)) arr2⟩
      | exit i => exact out hq (by simp)
      | goto l => exact out hq (by simp)
      | ret => exact out hq (by simp)
      | panic ch => exact out hq (by simp)
      | outgrown => exact out hq (by simp)
  intro b k cs
  obtain ⟨e, a', w', q, arr⟩ := key _ g a w rfl h₀ b k cs
  exact ⟨e, a', w', q, .of_steps (.one step_loop) arr⟩
theorem aw_sound (hT : TysOK P T) {C : CallS} (hC : ∀ f args n h K, C f args n h K → CallE P f args n h K) (hm : P.follows .mixedOrders = true) {H : Hints} {n0 : Nat} : ∀ (c : Code) {ρ : Env} {w : World} {st : St} {a : Act} {K : Ex → St → Prop}, RepS ρ st a w → n0 ≤ st.n →
    aw T real C H n0 c st K → c.wp P (Post K n0 ρ st.h w) a w
  | .skip, ρ, w, st, a, K, hs, hn, h => wp_skip ⟨ρ, st, h, hs, hn, Goes.refl _ _ _ _⟩
  | .label l, ρ, w, st, a, K, hs, hn, h => wp_label ⟨ρ, st, h, hs, hn, Goes.refl _ _ _ _⟩
  | .exit i, ρ, w, st, a, K, hs, hn, h => wp_exit ⟨ρ, st, h, hs, hn, Goes.refl _ _ _ _⟩
  | .ret, ρ, w, st, a, K, hs, hn, h => wp_ret ⟨ρ, st, h, hs, hn, Goes.refl _ _ _ _⟩
  | .region id ops false, ρ, w, st, a, K, hs, hn, h => wp_region_list (ops_sound hT hC ops.toList 0 hs h (fun a' w' q => Out.lift (Goes.refl _ _ _ _) hn q))
  | .region id ops true, ρ, w, st, a, K, hs, hn, h => by
    simp only [aw] at h
    refine wp_region_any hm ?_
    have hd : Goes n0 ρ st.h w ρ st.h { w with drawn := w.drawn + 1 } := ⟨rfl, rfl, rfl, Nat.le_refl _, fun _ _ _ => rfl, fun _ _ m => m, fun _ _ => rfl, rfl⟩
    have hg : Grows w { w with drawn := w.drawn + 1 } := fun b x hb => hb
    have hs' : RepS ρ st a { w with drawn := w.drawn + 1 } := ⟨hs.defers, RelVs.mono (EnvSub.refl ρ) hg.keeps _ _ hs.fr, hs.rep.grow hg⟩
    have e1 : (falses ops.toList).toArray = Array.replicate ops.size false := by
      rw [show ops.size = ops.toList.length by simp]
      generalize ops.toList = l
      induction l with
      | nil => rfl
      | cons x r ih =>
        apply Array.ext'
        have := congrArg Array.toList ih
        simp at this
        simp [falses, this, List.replicate_succ]
    have key : wpAnyW P ops (Post K n0 ρ st.h w) (Stay { w with drawn := w.drawn + 1 } (Mut ρ st.h)) ops.toList.length (falses ops.toList).toArray a { w with drawn := w.drawn + 1 } := by
      split at h
      · obtain ⟨⟨hok⟩, h⟩ := h
        have h := h (K .normal) (fun _ q => q)
        exact any_sound (Q := Post K n0 ρ st.h w) hT hC (reg := id) hok (fun c a w q => q) (fun ⟨a, w, q⟩ => q) ops.toList.length (falses ops.toList) hs' h (fun a' w' q => Out.lift hd hn q)
      · obtain ⟨⟨hor⟩, h⟩ := h
        have h := h (K .normal) (fun _ q => q)
        simp only [Bool.and_eq_true, Nat.ble_eq] at hor
        obtain ⟨⟨hok, hlen⟩, hor⟩ := hor
        exact ord_sound (Q := Post K n0 ρ st.h w) hT hC (reg := id) hok (fun c a w q => q) (fun ⟨a, w, q⟩ => q) ops.toList.length _ (falses ops.toList) (by rw [ordOf_len]; exact hlen) hor hs' h (fun a' w' q => Out.lift hd hn q)
    rw [e1, Array.length_toList] at key
    exact wpAnyW_any _ _ _ _ key
  | .seq x y, ρ, w, st, a, K, hs, hn, h => by
    refine wp_seq (wp_mono (aw_sound hT hC hm x hs hn h) ?_)
    intro e a1 w1 q
    cases e with
    | normal =>
      obtain ⟨ρ1, st1, h1, h2, h3, h4⟩ := q
      exact wp_mono (aw_sound hT hC hm y h2 h3 h1) (fun e a2 w2 p => p.lift h4)
    | exit i => exact q
    | ret => exact q
    | goto l => exact q.elim
    | panic c => exact q.elim
    | outgrown => exact q.elim
  | .cond c x y, ρ, w, st, a, K, hs, hn, h => by
    have hc := ev_rel hs c
    simp only [aw] at h
    split at h
    · rename_i b hb
      rw [hb] at hc
      exact wp_cond_split (t := b) hc (fun e => aw_sound hT hC hm x hs hn (by rw [e] at h; exact brA_true h)) (fun e => aw_sound hT hC hm y hs hn (by rw [e] at h; exact brA_false h))
    · exact h.elim
  | .block id c, ρ, w, st, a, K, hs, hn, h => by
    refine wp_block (wp_mono (aw_sound hT hC hm c hs hn h) ?_)
    intro e a1 w1 q
    cases e with
    | normal => exact q
    | exit i =>
      obtain ⟨ρ1, st1, h1, h2⟩ := q
      simp only [Exit.inBlock]
      simp only [blkK] at h1
      by_cases e : i = id
      · subst e
        simp only [beq_self_eq_true] at h1
        rw [if_pos rfl]
        exact ⟨ρ1, st1, h1, h2⟩
      · rw [if_neg e]
        have : (i == id) = false := by simpa using e
        rw [this] at h1
        exact ⟨ρ1, st1, h1, h2⟩
    | ret => exact q
    | goto l => exact q.elim
    | panic c => exact q.elim
    | outgrown => exact q.elim
  | .loop c, ρ, w, st, a, K, hs, hn, h => by
    simp only [aw] at h
    cases hu : H.unr with
    | succ m =>
      rw [hu] at h
      refine wp_loop_hid (G := Nat × Env × St) (fun g a' w' => RepS g.2.1 g.2.2 a' w' ∧ n0 ≤ g.2.2.n ∧ unrA (fun st K => aw T real C H n0 c st K) g.1 g.2.2 K ∧ Goes n0 ρ st.h w g.2.1 g.2.2.h w') (fun g => g.1) (g := (m + 1, ρ, st)) ⟨hs, hn, h, Goes.refl _ _ _ _⟩ ?_
      rintro ⟨m2, ρ2, st2⟩ a2 w2 ⟨k1, k2, k3, k4⟩
      cases m2 with
      | zero => exact k3.elim
      | succ m2 =>
        refine wp_mono (aw_sound hT hC hm c k1 k2 k3) ?_
        intro e a3 w3 q
        cases e with
        | normal =>
          obtain ⟨ρ3, st3, q1, q4, q5, q6⟩ := q
          exact ⟨(m2, ρ3, st3), ⟨q4, q5, q1, k4.trans q6⟩, Nat.lt_succ_self _⟩
        | exit i => exact Out.lift k4 (Nat.le_refl _) q
        | ret => exact Out.lift k4 (Nat.le_refl _) q
        | goto l => exact q.elim
        | panic c => exact q.elim
        | outgrown => exact q.elim
    | zero =>
      rw [hu] at h
      obtain ⟨I, μ, k, hk, hI, round⟩ := h
      obtain ⟨ρ1, h1, h2, h3⟩ := wk_sound hs hn hk
      refine wp_loop_hid (G := Env × St) (fun g a' w' => RepS g.1 g.2 a' w' ∧ n0 ≤ g.2.n ∧ I g.2 ∧ Goes n0 ρ st.h w g.1 g.2.h w') (fun g => μ g.2) (g := (ρ1, wk k st)) ⟨h1, h2, hI, h3⟩ ?_
      rintro ⟨ρ2, st2⟩ a2 w2 ⟨k1, k2, k3, k4⟩
      refine wp_mono (aw_sound hT hC hm c k1 k2 (round st2 k3)) ?_
      intro e a3 w3 q
      cases e with
      | normal =>
        obtain ⟨ρ3, st3, ⟨k', q1, q2, q3⟩, q4, q5, q6⟩ := q
        obtain ⟨ρ4, r1, r2, r3⟩ := wk_sound q4 q5 q1
        exact ⟨(ρ4, wk k' st3), ⟨r1, r2, q2, k4.trans (q6.trans r3)⟩, q3⟩
      | exit i => exact Out.lift k4 (Nat.le_refl _) q
      | ret => exact Out.lift k4 (Nat.le_refl _) q
      | goto l => exact q.elim
      | panic c => exact q.elim
      | outgrown => exact q.elim
  | .rangeFunc _ _ _ _, ρ, w, st, a, K, hs, hn, h => h.elim
  | .scope _, ρ, w, st, a, K, hs, hn, h => h.elim
  | .goto _, ρ, w, st, a, K, hs, hn, h => h.elim
  | .refuse _, ρ, w, st, a, K, hs, hn, h => h.elim

/-! functions -/
theorem res_sound (hT : TysOK P T) {st : St} {a : Act} (hs : RepS ρ st a w) {r : ResultVar} {v : AV} (h : resA T st r = some v) : ∃ x, (Tr.resOne a.tmps r).run P w = .ok x w ∧ RelV ρ w (Mut ρ st.h) v x := by
  cases r with
  | tmp t =>
    simp only [resA, Option.some.injEq] at h
    subst h
    have := RelVs.getD _ _ hs.fr t
    refine ⟨a.tmps.getD t undef, rfl, ?_⟩
    simpa using this
  | cell q t =>
    simp only [resA] at h
    have hr := RelVs.getD _ _ hs.fr q
    split at h
    · rename_i id hq
      rw [hq] at hr
      cases ho : hget st.h id with
      | none => simp [ho] at h
      | some o =>
        cases o with
        | row c l => simp [ho] at h
        | mp k m => simp [ho] at h
        | it k e m c0 => simp [ho] at h
        | sit s p => simp [ho] at h
        | bag s p => simp [ho] at h
        | cells l =>
          simp only [ho] at h
          have hl : loadA T real st t (.ptr id 0) (fun x => x = v) := by
            unfold loadA
            simp only [ho]
            rw [h]
          have hE : RelV ρ w (Mut ρ st.h) (.ptr id 0) (a.tmps.getD q undef) := by simpa using hr
          obtain ⟨av, x, h1, h2, h3⟩ := load_gives hT hs hE hl
          subst h1
          obtain ⟨b, hb, hv⟩ := hE
          refine ⟨x, ?_, h2⟩
          rw [hv] at h3
          simp only [Tr.resOne]
          rw [hv]
          simpa [Instr.loadAt, Instr.sureAddr, asAddr] using h3
    · cases h
theorem ress_sound (hT : TysOK P T) {st : St} {a : Act} (hs : RepS ρ st a w) : ∀ (rs : List ResultVar) (l : List AV), ressA T st rs = some l → ∃ xs, (rs.mapM (Tr.resOne a.tmps)).run P w = .ok xs w ∧ RelVs ρ w (Mut ρ st.h) l xs
  | [], l, h => by
    simp only [ressA, Option.some.injEq] at h
    subst h
    exact ⟨[], rfl, rfl⟩
  | r :: rs, l, h => by
    simp only [ressA] at h
    cases h1 : resA T st r with
    | none => simp [h1] at h
    | some v =>
      cases h2 : ressA T st rs with
      | none => simp [h1, h2] at h
      | some vs =>
        simp [h1, h2] at h
        subst h
        obtain ⟨x, k1, k2⟩ := res_sound hT hs h1
        obtain ⟨xs, k3, k4⟩ := ress_sound hT hs rs vs h2
        refine ⟨x :: xs, ?_, x, xs, rfl, k2, k4⟩
        rw [List.mapM_cons]
        simp only [Sem.run_bind, Sem.run_pure, Result.andThen, k1, k3]
theorem ret_sound (hT : TysOK P T) {fn : Func} {st : St} {a : Act} (hs : RepS ρ st a w) {v : AV} (h : retA T st fn.results.toList = some v) : ∃ x, (results fn a.tmps).run P w = .ok x w ∧ RelV ρ w (Mut ρ st.h) v x := by
  unfold retA at h
  have e : results fn a.tmps = (do let vs ← fn.results.mapM (Tr.resOne a.tmps); pure (if h : vs.size = 1 then vs[0] else .tuple vs)) := by
    unfold results; rfl
  have e2 : ∀ xs, (fn.results.toList.mapM (Tr.resOne a.tmps)).run P w = .ok xs w → (results fn a.tmps).run P w = .ok (if h : xs.toArray.size = 1 then xs.toArray[0] else .tuple xs.toArray) w := by
    intro xs hx
    rw [e, show fn.results = fn.results.toList.toArray by simp, List.mapM_toArray]
    rw [show (List.toArray <$> fn.results.toList.mapM (Tr.resOne a.tmps)) = (fn.results.toList.mapM (Tr.resOne a.tmps) >>= fun a => pure a.toArray) from rfl]
    simp only [Sem.run_bind, hx, Result.andThen, Sem.run_pure]
  split at h
  · rename_i u hu
    cases h
    obtain ⟨xs, h1, x, r, hx, h2, hr⟩ := ress_sound hT hs _ _ hu
    have hr : r = [] := hr
    subst hr
    subst hx
    exact ⟨x, by rw [e2 _ h1]; rfl, h2⟩
  · rename_i l hne hl
    cases h
    obtain ⟨xs, h1, h2⟩ := ress_sound hT hs _ _ hl
    refine ⟨.tuple xs.toArray, ?_, ⟨xs.toArray, rfl, by simpa using h2⟩⟩
    rw [e2 _ h1]
    have hlen := RelVs.length _ _ h2
    rw [dif_neg]
    intro e1
    simp at e1
    match l, hlen with
    | [u], _ => exact hne u rfl
    | [], hlen => simp at hlen; omega
    | _ :: _ :: _, hlen => simp at hlen; omega
  · cases h
/-- A function whose code is run. -/
theorem call_of (hT : TysOK P T) {C : CallS} (hC : ∀ f args n h K, C f args n h K → CallE P f args n h K) (hm : P.follows .mixedOrders = true) {f : Nat} {fn : Func} {c : Code} {args : List AV} {n : Nat} {hp : Hp} {K : CallK} (H : Hints)
    (hf : P.funcs[f]? = some fn) (hn : (fn.name == "runtime.NumGoroutine") = false) (hb : fn.body = some c)
    (h : aw T real C H n c ⟨args ++ List.replicate (fn.ntmps - args.length) (.tup []), n, hp⟩ (retK T n fn.results.toList K)) : CallE P f args n hp K := by
  refine .enter fn hf hn (by rw [hb]; rfl) (fun ρ w vs hr ha => ?_)
  have hlen := RelVs.length _ _ ha
  have hs : RepS ρ ⟨args ++ List.replicate (fn.ntmps - args.length) (.tup []), n, hp⟩ { tmps := vs.toArray ++ Array.replicate (fn.ntmps - vs.toArray.size) undef, defers := [] } w := by
    refine ⟨rfl, ?_, hr⟩
    have e : (vs.toArray ++ Array.replicate (fn.ntmps - vs.toArray.size) undef).toList = vs ++ List.replicate (fn.ntmps - args.length) undef := by simp [hlen]
    dsimp only
    rw [e]
    exact RelVs.append _ _ _ _ ha (RelVs.replicate (a := .tup []) (x := undef) ⟨#[], rfl, rfl⟩ _)
  refine calls_of_wp hf hb (wp_mono (aw_sound hT hC hm c hs (Nat.le_refl _) h) ?_)
  have fin : ∀ (e : Ex) (a : Act) (w' : World), (∀ i, e ≠ .exit i) → Out (retK T n fn.results.toList K e) n ρ hp w a w' → a.defers = [] ∧ ∃ v, (results fn a.tmps).run P w' = .ok v w' ∧ (∃ x, Ending.returned v = .returned x ∧ Done K n ρ hp w x w') := by
    rintro e a w' he ⟨ρ1, st1, h1, h2, h3, h4⟩
    refine ⟨h2.defers, ?_⟩
    have h1 : match retA T st1 fn.results.toList with | some v => retC n K v st1.n st1.h | none => False := by
      cases e with
      | exit i => exact absurd rfl (he i)
      | normal => exact h1
      | ret => exact h1
    cases hv : retA T st1 fn.results.toList with
    | none => rw [hv] at h1; exact h1.elim
    | some av =>
      rw [hv] at h1
      obtain ⟨x, k1, k2⟩ := ret_sound hT h2 hv
      have h1 : retC n K av st1.n st1.h := h1
      unfold retC at h1
      cases hg : (isNilN (idsV av) && wkOK n ⟨[], [], [], oldIds n st1.h, n⟩ ⟨[], st1.n, st1.h⟩) with
      | false =>
        rw [hg] at h1
        exact ⟨x, k1, x, rfl, av, ρ1, st1.n, st1.h, h1, h2.rep, h3, k2, h4⟩
      | true =>
        rw [hg] at h1
        rw [Bool.and_eq_true] at hg
        have hs1 : RepS ρ1 ⟨[], st1.n, st1.h⟩ { tmps := #[], defers := [] } w' := ⟨rfl, rfl, h2.rep⟩
        obtain ⟨ρ2, r1, r2, r3⟩ := wk_sound hs1 h3 hg.2
        have hi : idsV av = [] := by
          cases hq : idsV av with
          | nil => rfl
          | cons y r => rw [hq] at hg; cases hg.1
        have k3 := ren_rel (ρ' := ρ2) (f := fun i => i) r3.keeps av x (by rw [hi]; intro i hi; cases hi) k2
        rw [renV_id'] at k3
        exact ⟨x, k1, x, rfl, av, ρ2, n, _, h1, r1.rep, Nat.le_refl _, k3, h4.trans r3⟩
  intro e a w' q
  cases e with
  | normal => exact fin .normal a w' (by simp) q
  | ret => exact fin .ret a w' (by simp) q
  | exit i =>
    obtain ⟨ρ1, st1, h1, -⟩ := q
    exact h1.elim
  | goto l => exact q.elim
  | panic c => exact q.elim
  | outgrown => exact q.elim
/-- The table of types. -/
theorem TysOK.of_table {l : List TI} {n : Nat} (h : l = (List.range n).map (tiOf P)) (hs : ((List.range n).all fun t => (P.info? t).any (fun i => match P.underlying t with | some (.int _) => i.comparable | _ => true) && (P.underlying t).isSome) = true)
    (hz : ((List.range n).all fun t => zshape P t) = true) (hse : ∀ t, eqT t = true → StructEq P (fun t => l.getD t ⟨.other, 0, 0, none⟩) t) (hg : ∀ t g w, Ab.globs t g = true → J w → ∃ v, (Instr.loadAt t (.pointer (some ⟨g, 0, none⟩))).run P w = .ok v w) : TysOK P (fun t => l.getD t ⟨.other, 0, 0, none⟩) := by
  refine ⟨?_, ?_, hse, hg⟩
  case refine_2 =>
    intro t hs0
    by_cases ht : t < n
    · have e : l.getD t ⟨.other, 0, 0, none⟩ = tiOf P t := by
        rw [h, List.getD_eq_getElem?_getD, List.getElem?_map, List.getElem?_range ht]
        rfl
      rw [List.all_eq_true] at hz
      refine ⟨hz t (List.mem_range.2 ht), ?_⟩
      try dsimp only
      rw [e]
    · have e : l.getD t ⟨.other, 0, 0, none⟩ = ⟨.other, 0, 0, none⟩ := by
        rw [h, List.getD_eq_getElem?_getD, List.getElem?_eq_none (by simp; omega)]
        rfl
      try dsimp only at hs0
      rw [e] at hs0
      exact absurd rfl hs0
  intro t
  by_cases ht : t < n
  · refine .inr ?_
    rw [List.all_eq_true] at hs
    have h1 := hs t (List.mem_range.2 ht)
    rw [Bool.and_eq_true] at h1
    obtain ⟨i, hi, hcm⟩ := (Option.any_eq_true _ _).1 h1.1
    obtain ⟨d, hd⟩ := Option.isSome_iff_exists.1 h1.2
    rw [hd] at hcm
    have e : l.getD t ⟨.other, 0, 0, none⟩ = tiOf P t := by
      rw [h, List.getD_eq_getElem?_getD, List.getElem?_map, List.getElem?_range ht]
      rfl
    try dsimp only
    rw [e]
    refine ⟨i, d, hi, hd, ?_, ?_, ?_, .inr ?_, ?_⟩
    case refine_5 =>
      rintro ⟨k, hk⟩
      simp only [tiOf, hd] at hk
      cases d <;> simp [tuOf] at hk
      exact hcm
    all_goals simp [tiOf, hi, hd]
  · refine .inl ?_
    have e : l.getD t ⟨.other, 0, 0, none⟩ = ⟨.other, 0, 0, none⟩ := by
      rw [h, List.getD_eq_getElem?_getD, List.getElem?_eq_none (by simp; omega)]
      rfl
    try dsimp only
    rw [e]
    exact ⟨rfl, rfl⟩
end
end Go.Proofs.Yteakfibolfapiaa.Ab
