/- A call in a larger heap. -/
import Derived.Test.YteakfibolfapiaaTrAb19
namespace Go.Proofs.Yteakfibolfapiaa.Ab
open Go.RowKit Go.Sort
set_option linter.unusedVariables false
set_option linter.unusedSimpArgs false

section
variable {P : Program} {T : Nat → TI} {ρ ρ' : Env} {w w' : World} {M M' : Nat → Prop} {n : Nat} {h : Hp}
theorem CallE.mono {f : Nat} {args : List AV} {K K' : CallK} (hk : ∀ v n h, K v n h → K' v n h) (hc : CallE P f args n h K) : CallE P f args n h K' := by
  have key : ∀ {ρ w v w'}, Done K n ρ h w v w' → Done K' n ρ h w v w' := by
    rintro ρ w v w' ⟨av, ρ', n', h', h1, h2⟩
    exact ⟨av, ρ', n', h', hk _ _ _ h1, h2⟩
  cases hc with
  | enter fn hf hn hb run =>
    refine .enter fn hf hn hb (fun ρ w vs hr ha => Calls.mono (run ρ w vs hr ha) ?_)
    rintro e w' ⟨v, rfl, hd⟩
    exact ⟨v, rfl, key hd⟩
  | ext run =>
    refine .ext (fun ρ w vs hr ha => ?_)
    obtain ⟨v, w', h1, h2⟩ := run ρ w vs hr ha
    exact ⟨v, w', h1, key h2⟩
mutual
theorem ren_inv {f : Nat → Nat} (hk : Keeps w M w M') : ∀ (x : AV) (v : Value), (∀ i ∈ idsV x, ρ' (f i) = ρ i) → RelV ρ' w M (renV f x) v → RelV ρ w M' x v
  | .d x, v, hi, r => RelD.mono hk x v r
  | .ptr i off, v, hi, ⟨b, hb, hv⟩ => ⟨b, by rw [← hi i (by simp [idsV])]; exact hb, hv⟩
  | .iptr l i g, v, hi, ⟨b, off, cs, e, fz, c, hv, h0, hb, hm, hl, hr⟩ => by
      obtain ⟨h1, h2⟩ := hk b _ hb hm
      exact ⟨b, off, cs, e, fz, c, hv, h0, h1, h2, hl, RelRows.mono hk l _ hr⟩
  | .rptr i c j g, v, hi, ⟨g', n, cap, hb, h0, hv⟩ => ⟨g', n, cap, by rw [← hi i (by simp [idsV])]; exact hb, h0, hv⟩
  | .aptr i off n c j g, v, hi, ⟨b, hb, h0, h1, hv⟩ => ⟨b, by rw [← hi i (by simp [idsV])]; exact hb, h0, h1, hv⟩
  | .sl i, v, hi, ⟨r, h2⟩ => ⟨by rw [← hi i (by simp [idsV])]; exact r, h2⟩
  | .map i, v, hi, ⟨r, h2⟩ => ⟨by rw [← hi i (by simp [idsV])]; exact r, h2⟩
  | .iter i, v, hi, ⟨r, h2⟩ => ⟨by rw [← hi i (by simp [idsV])]; exact r, h2⟩
  | .agg vs, v, hi, ⟨cs, hv, r⟩ => ⟨cs, hv, rens_inv hk vs _ hi r⟩
  | .tup vs, v, hi, ⟨cs, hv, r⟩ => ⟨cs, hv, rens_inv hk vs _ hi r⟩
  | .fn g vs, v, hi, ⟨cs, hv, r⟩ => ⟨cs, hv, rens_inv hk vs _ hi r⟩
  | .ifc t x, v, hi, ⟨y, hv, r⟩ => ⟨y, hv, ren_inv hk x _ hi r⟩
  | .top, v, hi, r => trivial
  | .raw v0, v, hi, r => r
theorem rens_inv {f : Nat → Nat} (hk : Keeps w M w M') : ∀ (x : List AV) (v : List Value), (∀ i ∈ idsVs x, ρ' (f i) = ρ i) → RelVs ρ' w M (renVs f x) v → RelVs ρ w M' x v
  | [], vs, hi, r => r
  | d :: ds, vs, hi, ⟨v, rest, hv, r1, r2⟩ => ⟨v, rest, hv, ren_inv hk d v (fun i h => hi i (by simp [idsVs, h])) r1, rens_inv hk ds rest (fun i h => hi i (by simp [idsVs, h])) r2⟩
end
theorem renO_inv {f : Nat → Nat} (hk : Keeps w M w M') {i : Nat} {o : Ob} (hi : ∀ j, j = i ∨ j ∈ idsO o → ρ' (f j) = ρ j) (r : RelO ρ' w M (f i) (renO f o)) : RelO ρ w M' i o := by
  cases o with
  | cells l =>
    obtain ⟨b, cs, ty, h1, h2, h3⟩ := r
    exact ⟨b, cs, ty, by rw [← hi i (.inl rfl)]; exact h1, h2, rens_inv hk _ _ (fun j hj => hi j (.inr hj)) h3⟩
  | row c l =>
    obtain ⟨v, xs, ty, h1, h2, h3, h4, h5⟩ := r
    exact ⟨v, xs, ty, by rw [← hi i (.inl rfl)]; exact h1, h2, h3, h4, RelRows.mono hk _ _ h5⟩
  | mp k q => obtain ⟨r', r1, r2⟩ := r; exact ⟨r', by rw [← hi i (.inl rfl)]; exact r1, r2⟩
  | it k e q c0 => obtain ⟨b, r', r1, r2, r3⟩ := r; exact ⟨b, r', by rw [← hi i (.inl rfl)]; exact r1, r2, by obtain ⟨E, cl, seen, g1, g2⟩ := r2; exact (hk r' _ g1 r3).2⟩
  | sit s p => obtain ⟨b, r1, r2⟩ := r; exact ⟨b, by rw [← hi i (.inl rfl)]; exact r1, r2⟩
  | bag c l =>
    obtain ⟨vs, r1, r2, r3, r4, r5⟩ := r
    exact ⟨vs, by rw [← hi i (.inl rfl)]; exact r1, r2, r3, fun p hp => by obtain ⟨xs, ty, g1, g2, g3⟩ := r4 p hp; exact ⟨xs, ty, g1, g2, RelRows.mono hk _ _ g3⟩, r5⟩
theorem renO_rel {f : Nat → Nat} (hk : Keeps w M w M') {i : Nat} {o : Ob} (hi : ∀ j, j = i ∨ j ∈ idsO o → ρ' (f j) = ρ j) (r : RelO ρ w M i o) : RelO ρ' w M' (f i) (renO f o) := by
  cases o with
  | cells l =>
    obtain ⟨b, cs, ty, h1, h2, h3⟩ := r
    exact ⟨b, cs, ty, by rw [hi i (.inl rfl)]; exact h1, h2, rens_rel hk _ _ (fun j hj => hi j (.inr hj)) h3⟩
  | row c l =>
    obtain ⟨v, xs, ty, h1, h2, h3, h4, h5⟩ := r
    exact ⟨v, xs, ty, by rw [hi i (.inl rfl)]; exact h1, h2, h3, h4, RelRows.mono hk _ _ h5⟩
  | mp k q => obtain ⟨r', r1, r2⟩ := r; exact ⟨r', by rw [hi i (.inl rfl)]; exact r1, r2⟩
  | it k e q c0 => obtain ⟨b, r', r1, r2, r3⟩ := r; exact ⟨b, r', by rw [hi i (.inl rfl)]; exact r1, r2, by obtain ⟨E, cl, seen, g1, g2⟩ := r2; exact (hk r' _ g1 r3).2⟩
  | sit s p => obtain ⟨b, r1, r2⟩ := r; exact ⟨b, by rw [hi i (.inl rfl)]; exact r1, r2⟩
  | bag c l =>
    obtain ⟨vs, r1, r2, r3, r4, r5⟩ := r
    exact ⟨vs, by rw [hi i (.inl rfl)]; exact r1, r2, r3, fun p hp => by obtain ⟨xs, ty, g1, g2, g3⟩ := r4 p hp; exact ⟨xs, ty, g1, g2, RelRows.mono hk _ _ g3⟩, r5⟩
/-- The heap without some places. -/
def outs (g : Nat → Nat) (m : Nat) : Hp → Hp
  | [] => []
  | (i, o) :: r => bif (hits m i) then outs g m r else (i, o) :: outs g m r
where
  hits : Nat → Nat → Bool
    | 0, _ => false
    | k + 1, i => bif g k == i then true else hits k i
def renH (f : Nat → Nat) : Hp → Hp
  | [] => []
  | (i, o) :: r => (f i, renO f o) :: renH f r
/-- The caller's numbers of a callee's places. -/
def lift (g : Nat → Nat) (m n i : Nat) : Nat := bif Nat.blt i m then g i else n + (i - m)
theorem hits_iff {g : Nat → Nat} {i : Nat} : ∀ m, outs.hits g m i = true ↔ ∃ k, k < m ∧ g k = i
  | 0 => by simp [outs.hits]
  | m + 1 => by
    simp only [outs.hits]
    cases hb : g m == i with
    | true => simp only [cond_true, true_iff]; exact ⟨m, by omega, eq_of_beq hb⟩
    | false =>
      simp only [cond_false, hits_iff m]
      have hne : g m ≠ i := by simpa using hb
      constructor
      · rintro ⟨k, h1, h2⟩; exact ⟨k, by omega, h2⟩
      · rintro ⟨k, h1, h2⟩
        rcases Nat.lt_or_ge k m with hl | hl
        · exact ⟨k, hl, h2⟩
        · exact absurd (by rw [show m = k by omega]; exact h2) hne
theorem outs_mem {g : Nat → Nat} {m i : Nat} {o : Ob} : ∀ h : Hp, (i, o) ∈ outs g m h ↔ (i, o) ∈ h ∧ ∀ k, k < m → g k ≠ i
  | [] => by simp [outs]
  | (j, x) :: r => by
    simp only [outs]
    cases hb : outs.hits g m j with
    | true =>
      obtain ⟨k, h1, h2⟩ := (hits_iff m).1 hb
      simp only [cond_true, outs_mem r, List.mem_cons, Prod.mk.injEq]
      constructor
      · rintro ⟨h3, h4⟩; exact ⟨.inr h3, h4⟩
      · rintro ⟨⟨rfl, rfl⟩ | h3, h4⟩
        · exact absurd h2 (h4 k h1)
        · exact ⟨h3, h4⟩
    | false =>
      have hn : ∀ k, k < m → g k ≠ j := fun k h1 h2 => by
        have := (hits_iff (g := g) (i := j) m).2 ⟨k, h1, h2⟩
        rw [hb] at this; cases this
      simp only [cond_false, List.mem_cons, outs_mem r, Prod.mk.injEq]
      constructor
      · rintro (⟨rfl, rfl⟩ | ⟨h3, h4⟩)
        · exact ⟨.inl ⟨rfl, rfl⟩, hn⟩
        · exact ⟨.inr h3, h4⟩
      · rintro ⟨⟨rfl, rfl⟩ | h3, h4⟩
        · exact .inl ⟨rfl, rfl⟩
        · exact .inr ⟨h3, h4⟩
theorem outs_sub {g : Nat → Nat} {m : Nat} : ∀ h : Hp, (outs g m h).Sublist h
  | [] => List.Sublist.slnil
  | (j, x) :: r => by
    simp only [outs]
    cases hb : outs.hits g m j with
    | true => exact (outs_sub r).trans (List.sublist_cons_self _ _)
    | false => exact (outs_sub r).cons_cons _
theorem renH_mem {f : Nat → Nat} {i : Nat} {o : Ob} : ∀ h : Hp, (i, o) ∈ renH f h → ∃ j x, (j, x) ∈ h ∧ i = f j ∧ o = renO f x
  | [], hm => by simp [renH] at hm
  | (j, x) :: r, hm => by
    simp only [renH, List.mem_cons, Prod.mk.injEq] at hm
    rcases hm with ⟨rfl, rfl⟩ | hm
    · exact ⟨j, x, by simp, rfl, rfl⟩
    · obtain ⟨j', x', h1, h2⟩ := renH_mem r hm
      exact ⟨j', x', by simp [h1], h2⟩
theorem renH_ids {f : Nat → Nat} : ∀ h : Hp, (renH f h).map (·.1) = (h.map (·.1)).map f
  | [] => rfl
  | (j, x) :: r => by simp [renH, renH_ids r]
theorem lift_lt {g : Nat → Nat} {m n i : Nat} (hi : i < m) : lift g m n i = g i := by
  unfold lift
  rw [show Nat.blt i m = true from Nat.ble_eq_true_of_le hi]
  rfl
theorem lift_ge {g : Nat → Nat} {m n i : Nat} (hi : m ≤ i) : lift g m n i = n + (i - m) := by
  unfold lift
  cases hb : Nat.blt i m with
  | false => rfl
  | true =>
    have : i + 1 ≤ m := Nat.le_of_ble_eq_true hb
    omega
theorem lift_inj {g : Nat → Nat} {m n : Nat} (hg : ∀ i j, i < m → j < m → g i = g j → i = j) (hl : ∀ i, i < m → g i < n) {i j : Nat} (h : lift g m n i = lift g m n j) : i = j := by
  rcases Nat.lt_or_ge i m with hi | hi <;> rcases Nat.lt_or_ge j m with hj | hj
  · rw [lift_lt hi, lift_lt hj] at h; exact hg i j hi hj h
  · rw [lift_lt hi, lift_ge hj] at h; have := hl i hi; omega
  · rw [lift_ge hi, lift_lt hj] at h; have := hl j hj; omega
  · rw [lift_ge hi, lift_ge hj] at h; omega
theorem frame_done {m : Nat} {H0 : Hp} {args0 : List AV} {K0 K : CallK} {g : Nat → Nat} {vs : List Value} (hids : H0.map (·.1) = List.range m) (hg : ∀ i j, i < m → j < m → g i = g j → i = j) (hl : ∀ i, i < m → g i < n)
    (hH : ∀ i o, (i, o) ∈ H0 → (g i, renO g o) ∈ h ∧ ∀ j ∈ idsO o, j < m) (ha0 : ∀ j ∈ idsVs args0, j < m)
    (hK : ∀ v n1 h1, m ≤ n1 → K0 v n1 h1 → K (renV (lift g m n) v) (n + (n1 - m)) (outs g m h ++ renH (lift g m n) h1)) (r : Rep ρ n h w) (ha : RelVs ρ w (Mut ρ h) (renVs g args0) vs) :
    ∃ ρ0, Rep ρ0 m H0 w ∧ RelVs ρ0 w (Mut ρ0 H0) args0 vs ∧ ∀ v w', Done K0 m ρ0 H0 w v w' → Done K n ρ h w v w' := by
  let ρ0 : Env := ⟨fun i => if i < m then ρ (g i) else none, fun b => ρ.F b ∨ Loc ρ (outs g m h) b⟩
  have e0 : ∀ i, i < m → ρ0 i = ρ (g i) := fun i hi => if_pos hi
  have has : ∀ i, i < m → ∃ o, (i, o) ∈ H0 := fun i hi => by
    have : i ∈ H0.map (·.1) := by rw [hids]; exact List.mem_range.2 hi
    obtain ⟨⟨j, o⟩, h1, h2⟩ := List.mem_map.1 this
    dsimp only at h2
    subst h2
    exact ⟨o, h1⟩
  have lt0 : ∀ i o, (i, o) ∈ H0 → i < m := fun i o hm => by
    have : i ∈ H0.map (·.1) := List.mem_map.2 ⟨_, hm, rfl⟩
    rw [hids] at this
    exact List.mem_range.1 this
  have loc0 : ∀ b, Loc ρ0 H0 b → Loc ρ h b := by
    rintro b ⟨i, o, v, h1, h2, h3⟩
    rw [e0 i (lt0 i o h1)] at h2
    exact ⟨g i, _, v, (hH i o h1).1, h2, h3⟩
  have locO : ∀ b, Loc ρ (outs g m h) b → Loc ρ h b := by
    rintro b ⟨i, o, v, h1, h2, h3⟩
    exact ⟨i, o, v, ((outs_mem h).1 h1).1, h2, h3⟩
  have locs : ∀ b, Loc ρ h b → Loc ρ (outs g m h) b ∨ Loc ρ0 H0 b := by
    rintro b ⟨i, o, v, h1, h2, h3⟩
    by_cases hx : ∃ k, k < m ∧ g k = i
    · obtain ⟨k, hk, rfl⟩ := hx
      obtain ⟨o', ho'⟩ := has k hk
      exact .inr ⟨k, o', v, ho', by rw [e0 k hk]; exact h2, h3⟩
    · exact .inl ⟨i, o, v, (outs_mem h).2 ⟨h1, fun k hk e => hx ⟨k, hk, e⟩⟩, h2, h3⟩
  have mut0 : ∀ b, Mut ρ0 H0 b → Mut ρ h b := by
    rintro b ((hF | hF) | hL)
    · exact .inl hF
    · exact .inr (locO b hF)
    · exact .inr (loc0 b hL)
  have sep0 : ∀ b, Loc ρ0 H0 b → ¬ ρ0.F b := by
    rintro b hL (hF | ⟨j, o, v, h1, h2, h3⟩)
    · obtain ⟨i, o, v, h1, h2, h3⟩ := loc0 b hL
      exact r.sep i o v b h1 h2 h3 hF
    · obtain ⟨i, o', v', h4, h5, h6⟩ := hL
      have hi := lt0 i o' h4
      rw [e0 i hi] at h5
      obtain ⟨h7, h8⟩ := (outs_mem h).1 h1
      exact h8 i hi (r.inj _ _ _ _ _ _ b (hH i o' h4).1 h7 h5 h2 h6 h3)
  have k0 : Keeps w (Mut ρ h) w (Mut ρ0 H0) := fun b o hb hm => ⟨hb, fun m' => hm (mut0 b m')⟩
  have r0 : Rep ρ0 m H0 w := by
    refine ⟨by rw [hids]; exact List.nodup_range, ?_, ?_, fun i hi => if_neg (by omega), fun i o v b hm hv hb => sep0 b ⟨i, o, v, hm, hv, hb⟩, ⟨?_, r.old.inv, fun u u' hu q => r.old.stab u u' hu (fun b hb => q b (.inl hb))⟩⟩
    · intro i o hm
      refine renO_inv (f := g) k0 ?_ (r.objs _ _ (hH i o hm).1)
      rintro j (rfl | hj)
      · exact (e0 j (lt0 j o hm)).symm
      · exact (e0 j ((hH i o hm).2 j hj)).symm
    · intro i o j o' v v' b hi hj h1 h2 h3 h4
      rw [e0 i (lt0 i o hi)] at h1
      rw [e0 j (lt0 j o' hj)] at h2
      exact hg i j (lt0 i o hi) (lt0 j o' hj) (r.inj _ _ _ _ v v' b (hH i o hi).1 (hH j o' hj).1 h1 h2 h3 h4)
    · rintro b (hF | hF)
      · exact r.old.lt b hF
      · exact Loc.lt r (locO b hF)
  refine ⟨ρ0, r0, rens_inv k0 _ _ (fun j hj => (e0 j (ha0 j hj)).symm) ha, ?_⟩
  rintro v w' ⟨av, ρ1, n1, h1, hk, r1, hn1, hv, go⟩
  let ρ' : Env := ⟨fun t => if t < n then ρ t else ρ1 (m + (t - n)), ρ.F⟩
  have e1 : ∀ t, t < n → ρ' t = ρ t := fun t ht => if_pos ht
  have e2 : ∀ i, ρ' (lift g m n i) = ρ1 i := by
    intro i
    rcases Nat.lt_or_ge i m with hi | hi
    · rw [lift_lt hi, e1 _ (hl i hi), ← e0 i hi, go.ext i hi]
    · rw [lift_ge hi]
      show (if n + (i - m) < n then _ else ρ1 (m + (n + (i - m) - n))) = _
      rw [if_neg (by omega)]
      congr 1
      omega
  have sub : EnvSub ρ ρ' := fun t x hx => by
    rcases Nat.lt_or_ge t n with ht | ht
    · rw [e1 t ht]; exact hx
    · rw [r.fresh t ht] at hx; cases hx
  have own : ∀ b, ρ1.F b ↔ ρ.F b ∨ Loc ρ (outs g m h) b := fun b => by rw [go.own]
  have ltO : ∀ i o, (i, o) ∈ outs g m h → i < n := fun i o hm => r.lt ((outs_mem h).1 hm).1
  have locN : ∀ b, Loc ρ' (outs g m h ++ renH (lift g m n) h1) b → Loc ρ (outs g m h) b ∨ Loc ρ1 h1 b := by
    rintro b ⟨i, o, x, m1, m2, m3⟩
    rcases List.mem_append.1 m1 with m1 | m1
    · rw [e1 i (ltO i o m1)] at m2
      exact .inl ⟨i, o, x, m1, m2, m3⟩
    · obtain ⟨j, y, q1, rfl, rfl⟩ := renH_mem _ m1
      rw [e2 j] at m2
      exact .inr ⟨j, y, x, q1, m2, m3⟩
  have mutN : ∀ b, Mut ρ' (outs g m h ++ renH (lift g m n) h1) b → Mut ρ1 h1 b := by
    rintro b (hF | hL)
    · exact .inl ((own b).2 (.inl hF))
    · rcases locN b hL with h2 | h2
      · exact .inl ((own b).2 (.inr h2))
      · exact .inr h2
  have kN : Keeps w' (Mut ρ1 h1) w' (Mut ρ' (outs g m h ++ renH (lift g m n) h1)) := fun b o hb hm => ⟨hb, fun q => hm (mutN b q)⟩
  have kk : Keeps w (Mut ρ h) w' (Mut ρ' (outs g m h ++ renH (lift g m n) h1)) := k0.trans (go.keeps.trans kN)
  refine ⟨renV (lift g m n) av, ρ', n + (n1 - m), _, hK av n1 h1 hn1 hk, ⟨?_, ?_, ?_, ?_, ?_, ?_⟩, by omega, ren_rel kN av v (fun i _ => e2 i) hv, ⟨go.os, go.tape, go.output, go.size, ?_, ?_, e1, rfl⟩⟩
  · rw [List.map_append, List.nodup_append, renH_ids]
    refine ⟨r.nodup.sublist ((outs_sub h).map _), ?_, ?_⟩
    · have : ∀ l : List Nat, l.Nodup → (l.map (lift g m n)).Nodup := by
        intro l
        induction l with
        | nil => simp
        | cons x l ih =>
          intro hnd
          rw [List.nodup_cons] at hnd
          rw [List.map_cons, List.nodup_cons]
          refine ⟨fun hm => ?_, ih hnd.2⟩
          obtain ⟨y, hy, e⟩ := List.mem_map.1 hm
          have := lift_inj hg hl e
          subst this
          exact hnd.1 hy
      exact this _ r1.nodup
    · intro a h2 b h3 e
      subst e
      obtain ⟨⟨i, o⟩, h4, rfl⟩ := List.mem_map.1 h2
      obtain ⟨j, h5, h6⟩ := List.mem_map.1 h3
      dsimp only at h6
      have h7 := ltO i o h4
      rcases Nat.lt_or_ge j m with hj | hj
      · rw [lift_lt hj] at h6
        exact ((outs_mem h).1 h4).2 j hj h6
      · rw [lift_ge hj] at h6; omega
  · intro i o hm
    rcases List.mem_append.1 hm with hm | hm
    · refine (r.objs i o ((outs_mem h).1 hm).1).mono sub kk (fun x b hx hb => ?_)
      have hlo : Loc ρ (outs g m h) b := ⟨i, o, x, hm, hx, hb⟩
      exact go.block b (Loc.lt r (locO b hlo)) (fun q => sep0 b q (.inr hlo))
    · obtain ⟨j, y, q1, rfl, rfl⟩ := renH_mem _ hm
      exact renO_rel kN (fun k _ => e2 k) (r1.objs j y q1)
  · intro i o j o' x x' b hi hj h2 h3 h4 h5
    rcases List.mem_append.1 hi with hi | hi <;> rcases List.mem_append.1 hj with hj | hj
    · rw [e1 i (ltO i o hi)] at h2
      rw [e1 j (ltO j o' hj)] at h3
      exact r.inj i o j o' x x' b ((outs_mem h).1 hi).1 ((outs_mem h).1 hj).1 h2 h3 h4 h5
    · obtain ⟨j', y, q1, rfl, rfl⟩ := renH_mem _ hj
      rw [e1 i (ltO i o hi)] at h2
      rw [e2 j'] at h3
      exact absurd ((own b).2 (.inr ⟨i, o, x, hi, h2, h4⟩)) (r1.sep j' y x' b q1 h3 h5)
    · obtain ⟨i', y, q1, rfl, rfl⟩ := renH_mem _ hi
      rw [e1 j (ltO j o' hj)] at h3
      rw [e2 i'] at h2
      exact absurd ((own b).2 (.inr ⟨j, o', x', hj, h3, h5⟩)) (r1.sep i' y x b q1 h2 h4)
    · obtain ⟨i', y, q1, rfl, rfl⟩ := renH_mem _ hi
      obtain ⟨j', y', q2, rfl, rfl⟩ := renH_mem _ hj
      rw [e2 i'] at h2
      rw [e2 j'] at h3
      rw [r1.inj i' y j' y' x x' b q1 q2 h2 h3 h4 h5]
  · intro t ht
    show (if t < n then _ else ρ1 (m + (t - n))) = _
    rw [if_neg (by omega)]
    exact r1.fresh _ (by omega)
  · intro i o x b hm h2 h3 hF
    rcases List.mem_append.1 hm with hm | hm
    · rw [e1 i (ltO i o hm)] at h2
      exact r.sep i o x b ((outs_mem h).1 hm).1 h2 h3 hF
    · obtain ⟨j, y, q1, rfl, rfl⟩ := renH_mem _ hm
      rw [e2 j] at h2
      exact r1.sep j y x b q1 h2 h3 ((own b).2 (.inl hF))
  · exact (r.old.go (fun b hb hF => go.block b hb (fun q => sep0 b q (.inl hF)))).as rfl
  · exact fun b hb hm => go.block b hb (fun q => hm (loc0 b q))
  · intro b hb hm
    rcases locN b hm with h2 | h2
    · exact locO b h2
    · exact loc0 b (go.muts b hb h2)
/-- A call on some of the caller's places. -/
theorem call_frame {f m : Nat} {H0 : Hp} {args0 args : List AV} {K0 K : CallK} {g : Nat → Nat} (hc : CallE P f args0 m H0 K0) (ha : args = renVs g args0) (hids : H0.map (·.1) = List.range m) (hg : ∀ i j, i < m → j < m → g i = g j → i = j) (hl : ∀ i, i < m → g i < n)
    (hH : ∀ i o, (i, o) ∈ H0 → (g i, renO g o) ∈ h ∧ ∀ j ∈ idsO o, j < m) (ha0 : ∀ j ∈ idsVs args0, j < m)
    (hK : ∀ v n1 h1, m ≤ n1 → K0 v n1 h1 → K (renV (lift g m n) v) (n + (n1 - m)) (outs g m h ++ renH (lift g m n) h1)) : CallE P f args n h K := by
  subst ha
  cases hc with
  | enter fn hf hn hb run =>
    refine .enter fn hf hn hb (fun ρ w vs r a => ?_)
    obtain ⟨ρ0, h1, h2, h3⟩ := frame_done hids hg hl hH ha0 hK r a
    refine Calls.mono (run ρ0 w vs h1 h2) ?_
    rintro e w' ⟨v, rfl, hd⟩
    exact ⟨v, rfl, h3 v w' hd⟩
  | ext run =>
    refine .ext (fun ρ w vs r a => ?_)
    obtain ⟨ρ0, h1, h2, h3⟩ := frame_done hids hg hl hH ha0 hK r a
    obtain ⟨v, w', h4, hd⟩ := run ρ0 w vs h1 h2
    exact ⟨v, w', h4, h3 v w' hd⟩
end
end Go.Proofs.Yteakfibolfapiaa.Ab
