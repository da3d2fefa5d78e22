/- Several texts in one: Ab20, Ab21, AbE, AbT. -/
import Derived.Test.YteakfibolfapiaaTrPk8
import Derived.Test.YteakfibolfapiaaProg
import Derived.Laws.StructEq
import Derived.WalkKit
section
namespace Go.Proofs.Yteakfibolfapiaa.Ab
open Go.RowKit Go.Sort
set_option linter.unusedVariables false
set_option linter.unusedSimpArgs false

section
variable {P : Program} {T : Nat → TI} {ρ ρ' : Env} {w w' : World} {M M' : Nat → Prop} {n : Nat} {h : Hp}
theorem CallE.mono {f : Nat} {args : List AV} {K K' : CallK} (hk : ∀ v n h, K v n h → K' v n h) (hc : CallE P f args n h K) : CallE P f args n h K' := by
  have key : ∀ {ρ w v w'}, Done K n ρ h w v w' → Done K' n ρ h w v w' := by
    rintro ρ w v w' ⟨av, ρ', n', h', h1, h2⟩
    exact ⟨av, ρ', n', h', hk _ _ _ h1, h2⟩
  cases hc with
  | enter fn hf hn hb run =>
    refine .enter fn hf hn hb (fun ρ w vs hr ha => Calls.mono (run ρ w vs hr ha) ?_)
    rintro e w' ⟨v, rfl, hd⟩
    exact ⟨v, rfl, key hd⟩
  | ext run =>
    refine .ext (fun ρ w vs hr ha => ?_)
    obtain ⟨v, w', h1, h2⟩ := run ρ w vs hr ha
    exact ⟨v, w', h1, key h2⟩
mutual
theorem ren_inv {f : Nat → Nat} (hk : Keeps w M w M') : ∀ (x : AV) (v : Value), (∀ i ∈ idsV x, ρ' (f i) = ρ i) → RelV ρ' w M (renV f x) v → RelV ρ w M' x v
  | .d x, v, hi, r => RelD.mono hk x v r
  | .ptr i off, v, hi, ⟨b, hb, hv⟩ => ⟨b, by rw [← hi i (by simp [idsV])]; exact hb, hv⟩
  | .iptr l i g, v, hi, ⟨b, off, cs, e, fz, c, hv, h0, hb, hm, hl, hr⟩ => by
      obtain ⟨h1, h2⟩ := hk b _ hb hm
      exact ⟨b, off, cs, e, fz, c, hv, h0, h1, h2, hl, RelRows.mono hk l _ hr⟩
  | .rptr i c j g, v, hi, ⟨g', n, cap, hb, h0, hv⟩ => ⟨g', n, cap, by rw [← hi i (by simp [idsV])]; exact hb, h0, hv⟩
  | .aptr i off n c j g, v, hi, ⟨b, hb, h0, h1, hv⟩ => ⟨b, by rw [← hi i (by simp [idsV])]; exact hb, h0, h1, hv⟩
  | .sl i, v, hi, ⟨r, h2⟩ => ⟨by rw [← hi i (by simp [idsV])]; exact r, h2⟩
  | .map i, v, hi, ⟨r, h2⟩ => ⟨by rw [← hi i (by simp [idsV])]; exact r, h2⟩
  | .iter i, v, hi, ⟨r, h2⟩ => ⟨by rw [← hi i (by simp [idsV])]; exact r, h2⟩
  | .agg vs, v, hi, ⟨cs, hv, r⟩ => ⟨cs, hv, rens_inv hk vs _ hi r⟩
  | .tup vs, v, hi, ⟨cs, hv, r⟩ => ⟨cs, hv, rens_inv hk vs _ hi r⟩
  | .fn g vs, v, hi, ⟨cs, hv, r⟩ => ⟨cs, hv, rens_inv hk vs _ hi r⟩
  | .ifc t x, v, hi, ⟨y, hv, r⟩ => ⟨y, hv, ren_inv hk x _ hi r⟩
  | .top, v, hi, r => trivial
  | .raw v0, v, hi, r => r
theorem rens_inv {f : Nat → Nat} (hk : Keeps w M w M') : ∀ (x : List AV) (v : List Value), (∀ i ∈ idsVs x, ρ' (f i) = ρ i) → RelVs ρ' w M (renVs f x) v → RelVs ρ w M' x v
  | [], vs, hi, r => r
  | d :: ds, vs, hi, ⟨v, rest, hv, r1, r2⟩ => ⟨v, rest, hv, ren_inv hk d v (fun i h => hi i (by simp [idsVs, h])) r1, rens_inv hk ds rest (fun i h => hi i (by simp [idsVs, h])) r2⟩
end
theorem renO_inv {f : Nat → Nat} (hk : Keeps w M w M') {i : Nat} {o : Ob} (hi : ∀ j, j = i ∨ j ∈ idsO o → ρ' (f j) = ρ j) (r : RelO ρ' w M (f i) (renO f o)) : RelO ρ w M' i o := by
  cases o with
  | cells l =>
    obtain ⟨b, cs, ty, h1, h2, h3⟩ := r
    exact ⟨b, cs, ty, by rw [← hi i (.inl rfl)]; exact h1, h2, rens_inv hk _ _ (fun j hj => hi j (.inr hj)) h3⟩
  | row c l =>
    obtain ⟨v, xs, ty, h1, h2, h3, h4, h5⟩ := r
    exact ⟨v, xs, ty, by rw [← hi i (.inl rfl)]; exact h1, h2, h3, h4, RelRows.mono hk _ _ h5⟩
  | mp k q => obtain ⟨r', r1, r2⟩ := r; exact ⟨r', by rw [← hi i (.inl rfl)]; exact r1, r2⟩
  | it k e q c0 => obtain ⟨b, r', r1, r2, r3⟩ := r; exact ⟨b, r', by rw [← hi i (.inl rfl)]; exact r1, r2, by obtain ⟨E, cl, seen, g1, g2⟩ := r2; exact (hk r' _ g1 r3).2⟩
  | sit s p => obtain ⟨b, r1, r2⟩ := r; exact ⟨b, by rw [← hi i (.inl rfl)]; exact r1, r2⟩
  | bag c l =>
    obtain ⟨vs, r1, r2, r3, r4, r5⟩ := r
    exact ⟨vs, by rw [← hi i (.inl rfl)]; exact r1, r2, r3, fun p hp => by obtain ⟨xs, ty, g1, g2, g3⟩ := r4 p hp; exact ⟨xs, ty, g1, g2, RelRows.mono hk _ _ g3⟩, r5⟩
theorem renO_rel {f : Nat → Nat} (hk : Keeps w M w M') {i : Nat} {o : Ob} (hi : ∀ j, j = i ∨ j ∈ idsO o → ρ' (f j) = ρ j) (r : RelO ρ w M i o) : RelO ρ' w M' (f i) (renO f o) := by
  cases o with
  | cells l =>
    obtain ⟨b, cs, ty, h1, h2, h3⟩ := r
    exact ⟨b, cs, ty, by rw [hi i (.inl rfl)]; exact h1, h2, rens_rel hk _ _ (fun j hj => hi j (.inr hj)) h3⟩
  | row c l =>
    obtain ⟨v, xs, ty, h1, h2, h3, h4, h5⟩ := r
    exact ⟨v, xs, ty, by rw [hi i (.inl rfl)]; exact h1, h2, h3, h4, RelRows.mono hk _ _ h5⟩
  | mp k q => obtain ⟨r', r1, r2⟩ := r; exact ⟨r', by rw [hi i (.inl rfl)]; exact r1, r2⟩
  | it k e q c0 => obtain ⟨b, r', r1, r2, r3⟩ := r; exact ⟨b, r', by rw [hi i (.inl rfl)]; exact r1, r2, by obtain ⟨E, cl, seen, g1, g2⟩ := r2; exact (hk r' _ g1 r3).2⟩
  | sit s p => obtain ⟨b, r1, r2⟩ := r; exact ⟨b, by rw [hi i (.inl rfl)]; exact r1, r2⟩
  | bag c l =>
    obtain ⟨vs, r1, r2, r3, r4, r5⟩ := r
    exact ⟨vs, by rw [hi i (.inl rfl)]; exact r1, r2, r3, fun p hp => by obtain ⟨xs, ty, g1, g2, g3⟩ := r4 p hp; exact ⟨xs, ty, g1, g2, RelRows.mono hk _ _ g3⟩, r5⟩
/-- The heap without some places. -/
def outs (g : Nat → Nat) (m : Nat) : Hp → Hp
  | [] => []
  | (i, o) :: r => bif (hits m i) then outs g m r else (i, o) :: outs g m r
where
  hits : Nat → Nat → Bool
    | 0, _ => false
    | k + 1, i => bif g k == i then true else hits k i
def renH (f : Nat → Nat) : Hp → Hp
  | [] => []
  | (i, o) :: r => (f i, renO f o) :: renH f r
/-- The caller's numbers of a callee's places. -/
def lift (g : Nat → Nat) (m n i : Nat) : Nat := bif Nat.blt i m then g i else n + (i - m)
theorem hits_iff {g : Nat → Nat} {i : Nat} : ∀ m, outs.hits g m i = true ↔ ∃ k, k < m ∧ g k = i
  | 0 => by simp [outs.hits]
  | m + 1 => by
    simp only [outs.hits]
    cases hb : g m == i with
    | true => simp only [cond_true, true_iff]; exact ⟨m, by omega, eq_of_beq hb⟩
    | false =>
      simp only [cond_false, hits_iff m]
      have hne : g m ≠ i := by simpa using hb
      constructor
      · rintro ⟨k, h1, h2⟩; exact ⟨k, by omega, h2⟩
      · rintro ⟨k, h1, h2⟩
        rcases Nat.lt_or_ge k m with hl | hl
        · exact ⟨k, hl, h2⟩
        · exact absurd (by rw [show m = k by omega]; exact h2) hne
theorem outs_mem {g : Nat → Nat} {m i : Nat} {o : Ob} : ∀ h : Hp, (i, o) ∈ outs g m h ↔ (i, o) ∈ h ∧ ∀ k, k < m → g k ≠ i
  | [] => by simp [outs]
  | (j, x) :: r => by
    simp only [outs]
    cases hb : outs.hits g m j with
    | true =>
      obtain ⟨k, h1, h2⟩ := (hits_iff m).1 hb
      simp only [cond_true, outs_mem r, List.mem_cons, Prod.mk.injEq]
      constructor
      · rintro ⟨h3, h4⟩; exact ⟨.inr h3, h4⟩
      · rintro ⟨⟨rfl, rfl⟩ | h3, h4⟩
        · exact absurd h2 (h4 k h1)
        · exact ⟨h3, h4⟩
    | false =>
      have hn : ∀ k, k < m → g k ≠ j := fun k h1 h2 => by
        have := (hits_iff (g := g) (i := j) m).2 ⟨k, h1, h2⟩
        rw [hb] at this; cases this
      simp only [cond_false, List.mem_cons, outs_mem r, Prod.mk.injEq]
      constructor
      · rintro (⟨rfl, rfl⟩ | ⟨h3, h4⟩)
        · exact ⟨.inl ⟨rfl, rfl⟩, hn⟩
        · exact ⟨.inr h3, h4⟩
      · rintro ⟨⟨rfl, rfl⟩ | h3, h4⟩
        · exact .inl ⟨rfl, rfl⟩
        · exact .inr ⟨h3, h4⟩
theorem outs_sub {g : Nat → Nat} {m : Nat} : ∀ h : Hp, (outs g m h).Sublist h
  | [] => List.Sublist.slnil
  | (j, x) :: r => by
    simp only [outs]
    cases hb : outs.hits g m j with
    | true => exact (outs_sub r).trans (List.sublist_cons_self _ _)
    | false => exact (outs_sub r).cons_cons _
theorem renH_mem {f : Nat → Nat} {i : Nat} {o : Ob} : ∀ h : Hp, (i, o) ∈ renH f h → ∃ j x, (j, x) ∈ h ∧ i = f j ∧ o = renO f x
  | [], hm => by simp [renH] at hm
  | (j, x) :: r, hm => by
    simp only [renH, List.mem_cons, Prod.mk.injEq] at hm
    rcases hm with ⟨rfl, rfl⟩ | hm
    · exact ⟨j, x, by simp, rfl, rfl⟩
    · obtain ⟨j', x', h1, h2⟩ := renH_mem r hm
      exact ⟨j', x', by simp [h1], h2⟩
theorem renH_ids {f : Nat → Nat} : ∀ h : Hp, (renH f h).map (·.1) = (h.map (·.1)).map f
  | [] => rfl
  | (j, x) :: r => by simp [renH, renH_ids r]
theorem lift_lt {g : Nat → Nat} {m n i : Nat} (hi : i < m) : lift g m n i = g i := by
  unfold lift
  rw [show Nat.blt i m = true from Nat.ble_eq_true_of_le hi]
  rfl
theorem lift_ge {g : Nat → Nat} {m n i : Nat} (hi : m ≤ i) : lift g m n i = n + (i - m) := by
  unfold lift
  cases hb : Nat.blt i m with
  | false => rfl
  | true =>
    have : i + 1 ≤ m := Nat.le_of_ble_eq_true hb
    omega
theorem lift_inj {g : Nat → Nat} {m n : Nat} (hg : ∀ i j, i < m → j < m → g i = g j → i = j) (hl : ∀ i, i < m → g i < n) {i j : Nat} (h : lift g m n i = lift g m n j) : i = j := by
  rcases Nat.lt_or_ge i m with hi | hi <;> rcases Nat.lt_or_ge j m with hj | hj
  · rw [lift_lt hi, lift_lt hj] at h; exact hg i j hi hj h
  · rw [lift_lt hi, lift_ge hj] at h; have := hl i hi; omega
  · rw [lift_ge hi, lift_lt hj] at h; have := hl j hj; omega
  · rw [lift_ge hi, lift_ge hj] at h; omega
theorem frame_done {m : Nat} {H0 : Hp} {args0 : List AV} {K0 K : CallK} {g : Nat → Nat} {vs : List Value} (hids : H0.map (·.1) = List.range m) (hg : ∀ i j, i < m → j < m → g i = g j → i = j) (hl : ∀ i, i < m → g i < n)
    (hH : ∀ i o, (i, o) ∈ H0 → (g i, renO g o) ∈ h ∧ ∀ j ∈ idsO o, j < m) (ha0 : ∀ j ∈ idsVs args0, j < m)
    (hK : ∀ v n1 h1, m ≤ n1 → K0 v n1 h1 → K (renV (lift g m n) v) (n + (n1 - m)) (outs g m h ++ renH (lift g m n) h1)) (r : Rep ρ n h w) (ha : RelVs ρ w (Mut ρ h) (renVs g args0) vs) :
    ∃ ρ0, Rep ρ0 m H0 w ∧ RelVs ρ0 w (Mut ρ0 H0) args0 vs ∧ ∀ v w', Done K0 m ρ0 H0 w v w' → Done K n ρ h w v w' := by
  let ρ0 : Env := ⟨fun i => if i < m then ρ (g i) else none, fun b => ρ.F b ∨ Loc ρ (outs g m h) b⟩
  have e0 : ∀ i, i < m → ρ0 i = ρ (g i) := fun i hi => if_pos hi
  have has : ∀ i, i < m → ∃ o, (i, o) ∈ H0 := fun i hi => by
    have : i ∈ H0.map (·.1) := by rw [hids]; exact List.mem_range.2 hi
    obtain ⟨⟨j, o⟩, h1, h2⟩ := List.mem_map.1 this
    dsimp only at h2
    subst h2
    exact ⟨o, h1⟩
  have lt0 : ∀ i o, (i, o) ∈ H0 → i < m := fun i o hm => by
    have : i ∈ H0.map (·.1) := List.mem_map.2 ⟨_, hm, rfl⟩
    rw [hids] at this
    exact List.mem_range.1 this
  have loc0 : ∀ b, Loc ρ0 H0 b → Loc ρ h b := by
    rintro b ⟨i, o, v, h1, h2, h3⟩
    rw [e0 i (lt0 i o h1)] at h2
    exact ⟨g i, _, v, (hH i o h1).1, h2, h3⟩
  have locO : ∀ b, Loc ρ (outs g m h) b → Loc ρ h b := by
    rintro b ⟨i, o, v, h1, h2, h3⟩
    exact ⟨i, o, v, ((outs_mem h).1 h1).1, h2, h3⟩
  have locs : ∀ b, Loc ρ h b → Loc ρ (outs g m h) b ∨ Loc ρ0 H0 b := by
    rintro b ⟨i, o, v, h1, h2, h3⟩
    by_cases hx : ∃ k, k < m ∧ g k = i
    · obtain ⟨k, hk, rfl⟩ := hx
      obtain ⟨o', ho'⟩ := has k hk
      exact .inr ⟨k, o', v, ho', by rw [e0 k hk]; exact h2, h3⟩
    · exact .inl ⟨i, o, v, (outs_mem h).2 ⟨h1, fun k hk e => hx ⟨k, hk, e⟩⟩, h2, h3⟩
  have mut0 : ∀ b, Mut ρ0 H0 b → Mut ρ h b := by
    rintro b ((hF | hF) | hL)
    · exact .inl hF
    · exact .inr (locO b hF)
    · exact .inr (loc0 b hL)
  have sep0 : ∀ b, Loc ρ0 H0 b → ¬ ρ0.F b := by
    rintro b hL (hF | ⟨j, o, v, h1, h2, h3⟩)
    · obtain ⟨i, o, v, h1, h2, h3⟩ := loc0 b hL
      exact r.sep i o v b h1 h2 h3 hF
    · obtain ⟨i, o', v', h4, h5, h6⟩ := hL
      have hi := lt0 i o' h4
      rw [e0 i hi] at h5
      obtain ⟨h7, h8⟩ := (outs_mem h).1 h1
      exact h8 i hi (r.inj _ _ _ _ _ _ b (hH i o' h4).1 h7 h5 h2 h6 h3)
  have k0 : Keeps w (Mut ρ h) w (Mut ρ0 H0) := fun b o hb hm => ⟨hb, fun m' => hm (mut0 b m')⟩
  have r0 : Rep ρ0 m H0 w := by
    refine ⟨by rw [hids]; exact List.nodup_range, ?_, ?_, fun i hi => if_neg (by omega), fun i o v b hm hv hb => sep0 b ⟨i, o, v, hm, hv, hb⟩, ⟨?_, r.old.inv, fun u u' hu q => r.old.stab u u' hu (fun b hb => q b (.inl hb))⟩⟩
    · intro i o hm
      refine renO_inv (f := g) k0 ?_ (r.objs _ _ (hH i o hm).1)
      rintro j (rfl | hj)
      · exact (e0 j (lt0 j o hm)).symm
      · exact (e0 j ((hH i o hm).2 j hj)).symm
    · intro i o j o' v v' b hi hj h1 h2 h3 h4
      rw [e0 i (lt0 i o hi)] at h1
      rw [e0 j (lt0 j o' hj)] at h2
      exact hg i j (lt0 i o hi) (lt0 j o' hj) (r.inj _ _ _ _ v v' b (hH i o hi).1 (hH j o' hj).1 h1 h2 h3 h4)
    · rintro b (hF | hF)
      · exact r.old.lt b hF
      · exact Loc.lt r (locO b hF)
  refine ⟨ρ0, r0, rens_inv k0 _ _ (fun j hj => (e0 j (ha0 j hj)).symm) ha, ?_⟩
  rintro v w' ⟨av, ρ1, n1, h1, hk, r1, hn1, hv, go⟩
  let ρ' : Env := ⟨fun t => if t < n then ρ t else ρ1 (m + (t - n)), ρ.F⟩
  have e1 : ∀ t, t < n → ρ' t = ρ t := fun t ht => if_pos ht
  have e2 : ∀ i, ρ' (lift g m n i) = ρ1 i := by
    intro i
    rcases Nat.lt_or_ge i m with hi | hi
    · rw [lift_lt hi, e1 _ (hl i hi), ← e0 i hi, go.ext i hi]
    · rw [lift_ge hi]
      show (if n + (i - m) < n then _ else ρ1 (m + (n + (i - m) - n))) = _
      rw [if_neg (by omega)]
      congr 1
      omega
  have sub : EnvSub ρ ρ' := fun t x hx => by
    rcases Nat.lt_or_ge t n with ht | ht
    · rw [e1 t ht]; exact hx
    · rw [r.fresh t ht] at hx; cases hx
  have own : ∀ b, ρ1.F b ↔ ρ.F b ∨ Loc ρ (outs g m h) b := fun b => by rw [go.own]
  have ltO : ∀ i o, (i, o) ∈ outs g m h → i < n := fun i o hm => r.lt ((outs_mem h).1 hm).1
  have locN : ∀ b, Loc ρ' (outs g m h ++ renH (lift g m n) h1) b → Loc ρ (outs g m h) b ∨ Loc ρ1 h1 b := by
    rintro b ⟨i, o, x, m1, m2, m3⟩
    rcases List.mem_append.1 m1 with m1 | m1
    · rw [e1 i (ltO i o m1)] at m2
      exact .inl ⟨i, o, x, m1, m2, m3⟩
    · obtain ⟨j, y, q1, rfl, rfl⟩ := renH_mem _ m1
      rw [e2 j] at m2
      exact .inr ⟨j, y, x, q1, m2, m3⟩
  have mutN : ∀ b, Mut ρ' (outs g m h ++ renH (lift g m n) h1) b → Mut ρ1 h1 b := by
    rintro b (hF | hL)
    · exact .inl ((own b).2 (.inl hF))
    · rcases locN b hL with h2 | h2
      · exact .inl ((own b).2 (.inr h2))
      · exact .inr h2
  have kN : Keeps w' (Mut ρ1 h1) w' (Mut ρ' (outs g m h ++ renH (lift g m n) h1)) := fun b o hb hm => ⟨hb, fun q => hm (mutN b q)⟩
  have kk : Keeps w (Mut ρ h) w' (Mut ρ' (outs g m h ++ renH (lift g m n) h1)) := k0.trans (go.keeps.trans kN)
  refine ⟨renV (lift g m n) av, ρ', n + (n1 - m), _, hK av n1 h1 hn1 hk, ⟨?_, ?_, ?_, ?_, ?_, ?_⟩, by omega, ren_rel kN av v (fun i _ => e2 i) hv, ⟨go.os, go.tape, go.output, go.size, ?_, ?_, e1, rfl⟩⟩
  · rw [List.map_append, List.nodup_append, renH_ids]
    refine ⟨r.nodup.sublist ((outs_sub h).map _), ?_, ?_⟩
    · have : ∀ l : List Nat, l.Nodup → (l.map (lift g m n)).Nodup := by
        intro l
        induction l with
        | nil => simp
        | cons x l ih =>
          intro hnd
          rw [List.nodup_cons] at hnd
          rw [List.map_cons, List.nodup_cons]
          refine ⟨fun hm => ?_, ih hnd.2⟩
          obtain ⟨y, hy, e⟩ := List.mem_map.1 hm
          have := lift_inj hg hl e
          subst this
          exact hnd.1 hy
      exact this _ r1.nodup
    · intro a h2 b h3 e
      subst e
      obtain ⟨⟨i, o⟩, h4, rfl⟩ := List.mem_map.1 h2
      obtain ⟨j, h5, h6⟩ := List.mem_map.1 h3
      dsimp only at h6
      have h7 := ltO i o h4
      rcases Nat.lt_or_ge j m with hj | hj
      · rw [lift_lt hj] at h6
        exact ((outs_mem h).1 h4).2 j hj h6
      · rw [lift_ge hj] at h6; omega
  · intro i o hm
    rcases List.mem_append.1 hm with hm | hm
    · refine (r.objs i o ((outs_mem h).1 hm).1).mono sub kk (fun x b hx hb => ?_)
      have hlo : Loc ρ (outs g m h) b := ⟨i, o, x, hm, hx, hb⟩
      exact go.block b (Loc.lt r (locO b hlo)) (fun q => sep0 b q (.inr hlo))
    · obtain ⟨j, y, q1, rfl, rfl⟩ := renH_mem _ hm
      exact renO_rel kN (fun k _ => e2 k) (r1.objs j y q1)
  · intro i o j o' x x' b hi hj h2 h3 h4 h5
    rcases List.mem_append.1 hi with hi | hi <;> rcases List.mem_append.1 hj with hj | hj
    · rw [e1 i (ltO i o hi)] at h2
      rw [e1 j (ltO j o' hj)] at h3
      exact r.inj i o j o' x x' b ((outs_mem h).1 hi).1 ((outs_mem h).1 hj).1 h2 h3 h4 h5
    · obtain ⟨j', y, q1, rfl, rfl⟩ := renH_mem _ hj
      rw [e1 i (ltO i o hi)] at h2
      rw [e2 j'] at h3
      exact absurd ((own b).2 (.inr ⟨i, o, x, hi, h2, h4⟩)) (r1.sep j' y x' b q1 h3 h5)
    · obtain ⟨i', y, q1, rfl, rfl⟩ := renH_mem _ hi
      rw [e1 j (ltO j o' hj)] at h3
      rw [e2 i'] at h2
      exact absurd ((own b).2 (.inr ⟨j, o', x', hj, h3, h5⟩)) (r1.sep i' y x b q1 h2 h4)
    · obtain ⟨i', y, q1, rfl, rfl⟩ := renH_mem _ hi
      obtain ⟨j', y', q2, rfl, rfl⟩ := renH_mem _ hj
      rw [e2 i'] at h2
      rw [e2 j'] at h3
      rw [r1.inj i' y j' y' x x' b q1 q2 h2 h3 h4 h5]
  · intro t ht
    show (if t < n then _ else ρ1 (m + (t - n))) = _
    rw [if_neg (by omega)]
    exact r1.fresh _ (by omega)
  · intro i o x b hm h2 h3 hF
    rcases List.mem_append.1 hm with hm | hm
    · rw [e1 i (ltO i o hm)] at h2
      exact r.sep i o x b ((outs_mem h).1 hm).1 h2 h3 hF
    · obtain ⟨j, y, q1, rfl, rfl⟩ := renH_mem _ hm
      rw [e2 j] at h2
      exact r1.sep j y x b q1 h2 h3 ((own b).2 (.inl hF))
  · exact (r.old.go (fun b hb hF => go.block b hb (fun q => sep0 b q (.inl hF)))).as rfl
  · exact fun b hb hm => go.block b hb (fun q => hm (loc0 b q))
  · intro b hb hm
    rcases locN b hm with h2 | h2
    · exact locO b h2
    · exact loc0 b (go.muts b hb h2)
/-- A call on some of the caller's places. -/
theorem call_frame {f m : Nat} {H0 : Hp} {args0 args : List AV} {K0 K : CallK} {g : Nat → Nat} (hc : CallE P f args0 m H0 K0) (ha : args = renVs g args0) (hids : H0.map (·.1) = List.range m) (hg : ∀ i j, i < m → j < m → g i = g j → i = j) (hl : ∀ i, i < m → g i < n)
    (hH : ∀ i o, (i, o) ∈ H0 → (g i, renO g o) ∈ h ∧ ∀ j ∈ idsO o, j < m) (ha0 : ∀ j ∈ idsVs args0, j < m)
    (hK : ∀ v n1 h1, m ≤ n1 → K0 v n1 h1 → K (renV (lift g m n) v) (n + (n1 - m)) (outs g m h ++ renH (lift g m n) h1)) : CallE P f args n h K := by
  subst ha
  cases hc with
  | enter fn hf hn hb run =>
    refine .enter fn hf hn hb (fun ρ w vs r a => ?_)
    obtain ⟨ρ0, h1, h2, h3⟩ := frame_done hids hg hl hH ha0 hK r a
    refine Calls.mono (run ρ0 w vs h1 h2) ?_
    rintro e w' ⟨v, rfl, hd⟩
    exact ⟨v, rfl, h3 v w' hd⟩
  | ext run =>
    refine .ext (fun ρ w vs r a => ?_)
    obtain ⟨ρ0, h1, h2, h3⟩ := frame_done hids hg hl hH ha0 hK r a
    obtain ⟨v, w', h4, hd⟩ := run ρ0 w vs h1 h2
    exact ⟨v, w', h4, h3 v w' hd⟩
end
end Go.Proofs.Yteakfibolfapiaa.Ab
end
section
namespace Go.Proofs.Yteakfibolfapiaa.Ab
open Go.RowKit Go.Sort
set_option linter.unusedVariables false
set_option linter.unusedSimpArgs false

/-! the real functions behind letters, for runs on letters -/
theorem opq_elim {p : Ar → Prop} (h : ∀ (oBin : BinOp → IntKind → Int → Int → Int) (oCmp : BinOp → Int → Int → Bool) (oWrap : IntKind → Int → Int) (oNeg : IntKind → Int → Int) (oCom : IntKind → Int → Int) (oBnot : Bool → Bool) (oBeq : Bool → Bool → Bool) (oPickB : Bool → Bool → Bool → Bool) (oPickI : Bool → Int → Int → Int) (oPickS : Bool → List UInt8 → List UInt8 → List UInt8) (oInb : Int → Int → Bool) (oSub2 : Int → Int → Int → Bool) (oMinI : Int → Int → Int) (oMaxI : Int → Int → Int) (oSlen : List UInt8 → Int) (oSidx : List UInt8 → Int → Int) (oScat : List UInt8 → List UInt8 → List UInt8) (oSsub : List UInt8 → Int → Int → List UInt8) (oScmp : BinOp → List UInt8 → List UInt8 → Bool) (oScok : List UInt8 → List UInt8 → Bool) (oLen : List (List D) → Int) (oCI : List (List D) → Int → Nat → Int) (oCB : List (List D) → Int → Nat → Bool) (oCS : List (List D) → Int → Nat → List UInt8) (oCL : List (List D) → Int → Nat → List (List D)) (oOkR : List (List D) → Int → Nat → List Kd → Bool) (oApp : List (List D) → List (List D) → List (List D)) (oApok : List (List D) → List (List D) → Nat → Nat → Bool) (oSub : List (List D) → Int → Int → List (List D)) (oSetc : List (List D) → Int → Nat → List D → List (List D)) (oRep : Int → List D → List (List D)) (oMkok : Int → Int → Nat → Bool) (oNthI : List Int → Int → Int) (oNthB : List Bool → Int → Bool) (oNthS : List (List UInt8) → Int → List UInt8) (oIteI : Int → Nat → Int → Int → Int) (oIteB : Int → Nat → Bool → Bool → Bool) (oIteS : Int → Nat → List UInt8 → List UInt8 → List UInt8) (oB2s : List (List D) → List UInt8) (oS2b : List UInt8 → List (List D)) (oAllB : List (List D) → Bool) (oWf : List (List D) → Nat → Bool) (oDeq : List D → List D → Bool) (oMlen : List (Int × Value) → Int) (oMhas : List (Int × Value) → Int → Bool) (oMI : List (Int × Value) → Int → Nat → Int) (oMB : List (Int × Value) → Int → Nat → Bool) (oMS : List (Int × Value) → Int → Nat → List UInt8) (oMok : List (Int × Value) → List Kd → Bool → Bool) (oMput : List (Int × Value) → Int → Value → List (Int × Value)) (oMdel : List (Int × Value) → Int → List (Int × Value)) (oSgo : List UInt8 → Int → Bool) (oSru : List UInt8 → Int → Int) (oSnx : List UInt8 → Int → Int), (⟨oBin, oCmp, oWrap, oNeg, oCom, oBnot, oBeq, oPickB, oPickI, oPickS, oInb, oSub2, oMinI, oMaxI, oSlen, oSidx, oScat, oSsub, oScmp, oScok, oLen, oCI, oCB, oCS, oCL, oOkR, oApp, oApok, oSub, oSetc, oRep, oMkok, oNthI, oNthB, oNthS, oIteI, oIteB, oIteS, oB2s, oS2b, oAllB, oWf, oDeq, oMlen, oMhas, oMI, oMB, oMS, oMok, oMput, oMdel, oSgo, oSru, oSnx⟩ : Ar) = ⟨real.bin, real.cmp, real.wrap, real.neg, real.com, real.bnot, real.beq, real.pickB, real.pickI, real.pickS, real.inb, real.sub2, real.minI, real.maxI, real.slen, real.sidx, real.scat, real.ssub, real.scmp, real.scok, real.len, real.cI, real.cB, real.cS, real.cL, real.okR, real.app, real.apok, real.sub, real.setc, real.rep, real.mkok, real.nthI, real.nthB, real.nthS, real.iteI, real.iteB, real.iteS, real.b2s, real.s2b, real.allB, real.wf, real.deq, real.mlen, real.mhas, real.mI, real.mB, real.mS, real.mok, real.mput, real.mdel, real.sgo, real.sru, real.snx⟩ → p ⟨oBin, oCmp, oWrap, oNeg, oCom, oBnot, oBeq, oPickB, oPickI, oPickS, oInb, oSub2, oMinI, oMaxI, oSlen, oSidx, oScat, oSsub, oScmp, oScok, oLen, oCI, oCB, oCS, oCL, oOkR, oApp, oApok, oSub, oSetc, oRep, oMkok, oNthI, oNthB, oNthS, oIteI, oIteB, oIteS, oB2s, oS2b, oAllB, oWf, oDeq, oMlen, oMhas, oMI, oMB, oMS, oMok, oMput, oMdel, oSgo, oSru, oSnx⟩) : p real := h _ _ _ _ _ _ _ _ _ _ _ _ _ _ _ _ _ _ _ _ _ _ _ _ _ _ _ _ _ _ _ _ _ _ _ _ _ _ _ _ _ _ _ _ _ _ _ _ _ _ _ _ _ _ rfl
/-- Casts that 'cbv' opened. -/
theorem nc1 (n : Nat) : @NatCast.natCast Int instNatCastInt n = Int.ofNat n := rfl
/-- A condition, shut. -/
structure Nd (p : Unit → Prop) : Prop where
  h : p ()
theorem bcase {b : Bool} {f g : Unit → Prop} (h1 : b = true → f ()) (h2 : b = false → g ()) : brA b f g := by
  cases b
  · exact .no rfl (h2 rfl)
  · exact .yes rfl (h1 rfl)
mutual
theorem renV_none {f : Nat → Nat} : ∀ v : AV, idsV v = [] → renV f v = v
  | .d x, _ => rfl
  | .ptr i off, h => by simp [idsV] at h
  | .iptr l' i g, _ => rfl
  | .rptr i c j g, h => by simp [idsV] at h
  | .aptr i off n c j g, h => by simp [idsV] at h
  | .sl i, h => by simp [idsV] at h
  | .map i, h => by simp [idsV] at h
  | .iter i, h => by simp [idsV] at h
  | .agg vs, h => by rw [renV, renVs_none vs h]
  | .tup vs, h => by rw [renV, renVs_none vs h]
  | .fn g vs, h => by rw [renV, renVs_none vs h]
  | .ifc t x, h => by rw [renV, renV_none x h]
  | .top, _ => rfl
  | .raw _, _ => rfl
theorem renVs_none {f : Nat → Nat} : ∀ v : List AV, idsVs v = [] → renVs f v = v
  | [], _ => rfl
  | x :: r, h => by
    simp only [idsVs, List.append_eq_nil_iff] at h
    rw [renVs, renV_none x h.1, renVs_none r h.2]
end
theorem outs_zero (g : Nat → Nat) : ∀ h : Hp, outs g 0 h = h
  | [] => rfl
  | (i, o) :: r => by simp [outs, outs.hits, outs_zero g r]
section
variable {P : Program} {n : Nat} {h : Hp}
/-- What a function of data gives back. -/
def Gets (R : AV → Prop) : CallK := fun v n h => Nd (fun _ => R v) ∧ idsV v = [] ∧ n = 0 ∧ h = []
theorem call_data {f : Nat} {args : List AV} {R : AV → Prop} {K : CallK} (hc : CallE P f args 0 [] (Gets R)) (ha : idsVs args = []) (hK : ∀ v, R v → K v n h) : CallE P f args n h K := by
  refine call_frame (g := fun i => i) hc (renVs_none _ ha).symm rfl (fun i j hi => absurd hi (Nat.not_lt_zero _)) (fun i hi => absurd hi (Nat.not_lt_zero _)) (fun i o hm => by cases hm) (by rw [ha]; intro j hj; cases hj) ?_
  rintro v n1 h1 - ⟨⟨hr⟩, hv, rfl, rfl⟩
  rw [renV_none _ hv, outs_zero]
  simp only [renH, List.append_nil, Nat.sub_zero, Nat.add_zero]
  exact hK v hr
/-- An older contract, of values alone. -/
theorem call_old {f : Nat} {fn : Func} {args : List AV} {vals : List Value} {av : AV} {v : Value} {K : CallK} (hf : P.funcs[f]? = some fn) (hn : (fn.name == "runtime.NumGoroutine") = false) (hb : fn.body.isNone = false)
    (ha : ∀ ρ w M vs, RelVs ρ w M args vs → vs = vals) (hv : ∀ ρ w M, RelV ρ w M av v) (hc : ∀ w, J w → Calls P f vals.toArray w fun e w' => e = .returned v ∧ Below w.heap.size w w') (hK : K av n h) : CallE P f args n h K := by
  refine .enter fn hf hn hb (fun ρ w vs hr hvs => ?_)
  obtain rfl := ha _ _ _ _ hvs
  refine Calls.mono (hc w hr.old.inv) ?_
  rintro e w' ⟨rfl, hb⟩
  have hg : Grows w w' := fun b o hbo => by rw [hb.block b (lt_of_get hbo)]; exact hbo
  exact ⟨v, rfl, av, ρ, n, h, hK, hr.grow hg, Nat.le_refl _, hv _ _ _, goes_grow hg hb.os hb.tape hb.output hb.size⟩
/-- A function outside, its value. -/
theorem call_ext {f : Nat} {args : List AV} {vals : List Value} {av : AV} {v : Value} {K : CallK} (ha : ∀ ρ w M vs, RelVs ρ w M args vs → vs = vals) (hv : ∀ ρ w M, RelV ρ w M av v)
    (hc : ∀ w, (callFunc f vals.toArray).run P w = .ok (.value v) w) (hK : K av n h) : CallE P f args n h K := by
  refine .ext (fun ρ w vs hr hvs => ?_)
  obtain rfl := ha _ _ _ _ hvs
  exact ⟨v, w, hc w, av, ρ, n, h, hK, hr, Nat.le_refl _, hv _ _ _, Goes.refl _ _ _ _⟩
theorem call_fn {T : Nat → TI} (hT : TysOK P T) (hm : P.follows .mixedOrders = true) {C : CallS} (hC : ∀ f args n h K, C f args n h K → CallE P f args n h K) (H : Hints) {f : Nat} {fn : Func} {args : List AV} {hp : Hp} {K : CallK}
    (hf : P.funcs[f]? = some fn) (hn : (fn.name == "runtime.NumGoroutine") = false) (hb : fn.body.isSome = true)
    (h : ∀ (oBin : BinOp → IntKind → Int → Int → Int) (oCmp : BinOp → Int → Int → Bool) (oWrap : IntKind → Int → Int) (oNeg : IntKind → Int → Int) (oCom : IntKind → Int → Int) (oBnot : Bool → Bool) (oBeq : Bool → Bool → Bool) (oPickB : Bool → Bool → Bool → Bool) (oPickI : Bool → Int → Int → Int) (oPickS : Bool → List UInt8 → List UInt8 → List UInt8) (oInb : Int → Int → Bool) (oSub2 : Int → Int → Int → Bool) (oMinI : Int → Int → Int) (oMaxI : Int → Int → Int) (oSlen : List UInt8 → Int) (oSidx : List UInt8 → Int → Int) (oScat : List UInt8 → List UInt8 → List UInt8) (oSsub : List UInt8 → Int → Int → List UInt8) (oScmp : BinOp → List UInt8 → List UInt8 → Bool) (oScok : List UInt8 → List UInt8 → Bool) (oLen : List (List D) → Int) (oCI : List (List D) → Int → Nat → Int) (oCB : List (List D) → Int → Nat → Bool) (oCS : List (List D) → Int → Nat → List UInt8) (oCL : List (List D) → Int → Nat → List (List D)) (oOkR : List (List D) → Int → Nat → List Kd → Bool) (oApp : List (List D) → List (List D) → List (List D)) (oApok : List (List D) → List (List D) → Nat → Nat → Bool) (oSub : List (List D) → Int → Int → List (List D)) (oSetc : List (List D) → Int → Nat → List D → List (List D)) (oRep : Int → List D → List (List D)) (oMkok : Int → Int → Nat → Bool) (oNthI : List Int → Int → Int) (oNthB : List Bool → Int → Bool) (oNthS : List (List UInt8) → Int → List UInt8) (oIteI : Int → Nat → Int → Int → Int) (oIteB : Int → Nat → Bool → Bool → Bool) (oIteS : Int → Nat → List UInt8 → List UInt8 → List UInt8) (oB2s : List (List D) → List UInt8) (oS2b : List UInt8 → List (List D)) (oAllB : List (List D) → Bool) (oWf : List (List D) → Nat → Bool) (oDeq : List D → List D → Bool) (oMlen : List (Int × Value) → Int) (oMhas : List (Int × Value) → Int → Bool) (oMI : List (Int × Value) → Int → Nat → Int) (oMB : List (Int × Value) → Int → Nat → Bool) (oMS : List (Int × Value) → Int → Nat → List UInt8) (oMok : List (Int × Value) → List Kd → Bool → Bool) (oMput : List (Int × Value) → Int → Value → List (Int × Value)) (oMdel : List (Int × Value) → Int → List (Int × Value)) (oSgo : List UInt8 → Int → Bool) (oSru : List UInt8 → Int → Int) (oSnx : List UInt8 → Int → Int), (⟨oBin, oCmp, oWrap, oNeg, oCom, oBnot, oBeq, oPickB, oPickI, oPickS, oInb, oSub2, oMinI, oMaxI, oSlen, oSidx, oScat, oSsub, oScmp, oScok, oLen, oCI, oCB, oCS, oCL, oOkR, oApp, oApok, oSub, oSetc, oRep, oMkok, oNthI, oNthB, oNthS, oIteI, oIteB, oIteS, oB2s, oS2b, oAllB, oWf, oDeq, oMlen, oMhas, oMI, oMB, oMS, oMok, oMput, oMdel, oSgo, oSru, oSnx⟩ : Ar) = ⟨real.bin, real.cmp, real.wrap, real.neg, real.com, real.bnot, real.beq, real.pickB, real.pickI, real.pickS, real.inb, real.sub2, real.minI, real.maxI, real.slen, real.sidx, real.scat, real.ssub, real.scmp, real.scok, real.len, real.cI, real.cB, real.cS, real.cL, real.okR, real.app, real.apok, real.sub, real.setc, real.rep, real.mkok, real.nthI, real.nthB, real.nthS, real.iteI, real.iteB, real.iteS, real.b2s, real.s2b, real.allB, real.wf, real.deq, real.mlen, real.mhas, real.mI, real.mB, real.mS, real.mok, real.mput, real.mdel, real.sgo, real.sru, real.snx⟩ → aw T ⟨oBin, oCmp, oWrap, oNeg, oCom, oBnot, oBeq, oPickB, oPickI, oPickS, oInb, oSub2, oMinI, oMaxI, oSlen, oSidx, oScat, oSsub, oScmp, oScok, oLen, oCI, oCB, oCS, oCL, oOkR, oApp, oApok, oSub, oSetc, oRep, oMkok, oNthI, oNthB, oNthS, oIteI, oIteB, oIteS, oB2s, oS2b, oAllB, oWf, oDeq, oMlen, oMhas, oMI, oMB, oMS, oMok, oMput, oMdel, oSgo, oSru, oSnx⟩ C H n (fn.body.getD .skip) ⟨args ++ List.replicate (fn.ntmps - args.length) (.tup []), n, hp⟩ (retK T n fn.results.toList K)) : CallE P f args n hp K := by
  obtain ⟨c, hc⟩ := Option.isSome_iff_exists.1 hb
  refine call_of hT hC hm H hf hn hc ?_
  rw [hc] at h
  exact opq_elim (p := fun A => aw T A C H n ((some c).getD .skip) ⟨args ++ List.replicate (fn.ntmps - args.length) (.tup []), n, hp⟩ (retK T n fn.results.toList K)) h
end
/-- A slot's number. -/
def ctr (i : Nat) (st : St) : Int := match st.fr.getD i .top with | .d (.int _ n) => n | _ => 0
/-- A result told otherwise. -/
theorem CallE.weaken {P : Program} {f : Nat} {args : List AV} {n : Nat} {h : Hp} {K1 K : CallK} (hc : CallE P f args n h K1) (hk : ∀ v n h, K1 v n h → ∃ v', K v' n h ∧ ∀ ρ w M x, RelV ρ w M v x → RelV ρ w M v' x) : CallE P f args n h K := by
  have key : ∀ n ρ h w v w', Done K1 n ρ h w v w' → Done K n ρ h w v w' := by
    rintro n ρ h w v w' ⟨av, ρ', n', h', h1, h2, h3, h4, h5⟩
    obtain ⟨av', g1, g2⟩ := hk av n' h' h1
    exact ⟨av', ρ', n', h', g1, h2, h3, g2 _ _ _ _ h4, h5⟩
  cases hc with
  | enter fn hf hn hb run => exact .enter fn hf hn hb (fun ρ w vs hr hv => (run ρ w vs hr hv).mono fun e w' ⟨v, he, hd⟩ => ⟨v, he, key _ _ _ _ _ _ hd⟩)
  | ext run => exact .ext (fun ρ w vs hr hv => by
      obtain ⟨v, w', h1, h2⟩ := run ρ w vs hr hv
      exact ⟨v, w', h1, key _ _ _ _ _ _ h2⟩)
/-! small numbers -/
theorem wrap_i64 (x : Int) (h0 : -9223372036854775808 ≤ x) (h1 : x ≤ 9223372036854775807) : IntKind.i64.wrap x = x := by
  simp only [IntKind.wrap, IntKind.bits, IntKind.signed]; simp; omega
theorem wrap_u64 (x : Int) (h0 : 0 ≤ x) (h1 : x ≤ 18446744073709551615) : IntKind.u64.wrap x = x := by
  simp only [IntKind.wrap, IntKind.bits, IntKind.signed]; simp; omega
theorem wrap_i32 (x : Int) (h0 : -2147483648 ≤ x) (h1 : x ≤ 2147483647) : IntKind.i32.wrap x = x := by
  simp only [IntKind.wrap, IntKind.bits, IntKind.signed]; simp; omega
theorem wrap_u32 (x : Int) (h0 : 0 ≤ x) (h1 : x ≤ 4294967295) : IntKind.u32.wrap x = x := by
  simp only [IntKind.wrap, IntKind.bits, IntKind.signed]; simp; omega
theorem wrap_u8 (x : Int) (h0 : 0 ≤ x) (h1 : x ≤ 255) : IntKind.u8.wrap x = x := by
  simp only [IntKind.wrap, IntKind.bits, IntKind.signed]; simp; omega
/-- No calls. -/
def C0 : CallS := fun _ _ _ _ _ => False
theorem C0_ok {P : Program} : ∀ f args n h K, C0 f args n h K → CallE P f args n h K := fun _ _ _ _ _ h => h.elim
def H0 : Hints := ⟨[], [], 0⟩
end Go.Proofs.Yteakfibolfapiaa.Ab
end
section
namespace Go.Proofs.Yteakfibolfapiaa.Ab
open Go
theorem ksI {l : List D} {k : IntKind} {ks : List Kd} (h : ksOk l (.int k :: ks) = true) : ∃ a r, l = .int k a :: r ∧ ksOk r ks = true := by
  cases l with
  | nil => simp [ksOk] at h
  | cons d r =>
    cases d with
    | int q a =>
      simp only [ksOk] at h
      by_cases e : q = k
      · subst e
        simp at h
        exact ⟨a, r, rfl, h⟩
      · simp [e] at h
    | _ => simp [ksOk] at h
theorem ksS {l : List D} {ks : List Kd} (h : ksOk l (.str :: ks) = true) : ∃ a r, l = .str a :: r ∧ ksOk r ks = true := by
  cases l with
  | nil => simp [ksOk] at h
  | cons d r =>
    cases d with
    | str a => exact ⟨a, r, rfl, by simpa [ksOk] using h⟩
    | _ => simp [ksOk] at h
theorem ksN {l : List D} (h : ksOk l [] = true) : l = [] := by
  cases l with
  | nil => rfl
  | cons d r => cases d <;> simp [ksOk] at h
theorem ks3 {l : List D} {k1 k2 : IntKind} (h : ksOk l [.int k1, .int k2, .str] = true) : ∃ a b c, l = [.int k1 a, .int k2 b, .str c] := by
  obtain ⟨a, r1, rfl, h1⟩ := ksI h
  obtain ⟨b, r2, rfl, h2⟩ := ksI h1
  obtain ⟨c, r3, rfl, h3⟩ := ksS h2
  obtain rfl := ksN h3
  exact ⟨a, b, c, rfl⟩
theorem rel3 {w : World} {M : Nat → Prop} {k1 k2 : IntKind} {a b : Int} {c : List UInt8} {xs : Array Value} (h : RelDs w M [.int k1 a, .int k2 b, .str c] xs.toList) : xs = #[.int k1 a, .int k2 b, .string ⟨c.toArray⟩] := by
  obtain ⟨v1, r1, e1, h1, v2, r2, rfl, h2, v3, r3, rfl, h3, h4⟩ := h
  obtain rfl : v1 = .int k1 a := h1
  obtain rfl : v2 = .int k2 b := h2
  obtain rfl : v3 = .string ⟨c.toArray⟩ := h3
  obtain rfl : r3 = [] := h4
  apply Array.ext'
  rw [e1]
end Go.Proofs.Yteakfibolfapiaa.Ab
end
section
namespace Go.Proofs.Yteakfibolfapiaa.Ab
open Go
set_option maxRecDepth 100000
def tys : List TI := [⟨.other, 1, 0, none⟩,
  ⟨.func, 1, 8, none⟩,
  ⟨.int .i64, 1, 8, some [.int .i64 0]⟩,
  ⟨.int .i64, 1, 8, some [.int .i64 0]⟩,
  ⟨.bool, 1, 1, some [.bool false]⟩,
  ⟨.int .u8, 1, 1, some [.int .u8 0]⟩,
  ⟨.int .u8, 1, 1, some [.int .u8 0]⟩,
  ⟨.struct [(0, 2), (1, 3), (2, 4), (3, 6)], 4, 24, some [.int .i64 0, .int .i64 0, .bool false, .int .u8 0]⟩,
  ⟨.struct [(0, 2), (1, 3), (2, 4), (3, 6)], 4, 24, some [.int .i64 0, .int .i64 0, .bool false, .int .u8 0]⟩,
  ⟨.str, 1, 16, some [.str []]⟩,
  ⟨.str, 1, 16, some [.str []]⟩,
  ⟨.str, 1, 16, some [.str []]⟩,
  ⟨.int .u64, 1, 8, some [.int .u64 0]⟩,
  ⟨.struct [(0, 9), (1, 12)], 2, 24, some [.str [], .int .u64 0]⟩,
  ⟨.struct [(0, 9), (1, 12)], 2, 24, some [.str [], .int .u64 0]⟩,
  ⟨.ptr 196, 1, 8, some [.nilp]⟩,
  ⟨.ptr 199, 1, 8, some [.nilp]⟩,
  ⟨.ptr 206, 1, 8, some [.nilp]⟩,
  ⟨.struct [(0, 17)], 1, 8, some [.nilp]⟩,
  ⟨.struct [(0, 17)], 1, 8, some [.nilp]⟩,
  ⟨.iface, 1, 16, some [.nili]⟩,
  ⟨.int .i32, 1, 4, some [.int .i32 0]⟩,
  ⟨.slice 26, 1, 24, some [.nilsl]⟩,
  ⟨.ptr 98, 1, 8, some [.nilp]⟩,
  ⟨.func, 1, 8, none⟩,
  ⟨.map 26 4, 1, 8, some [.nilm]⟩,
  ⟨.int .u16, 1, 2, some [.int .u16 0]⟩,
  ⟨.int .i64, 1, 8, some [.int .i64 0]⟩,
  ⟨.func, 1, 8, none⟩,
  ⟨.int .u8, 1, 1, some [.int .u8 0]⟩,
  ⟨.struct [(0, 3), (1, 29), (2, 9)], 3, 32, some [.int .i64 0, .int .u8 0, .str []]⟩,
  ⟨.struct [(0, 3), (1, 29), (2, 9)], 3, 32, some [.int .i64 0, .int .u8 0, .str []]⟩,
  ⟨.slice 31, 1, 24, some [.nilsl]⟩,
  ⟨.func, 1, 8, none⟩,
  ⟨.func, 1, 8, none⟩,
  ⟨.func, 1, 8, none⟩,
  ⟨.slice 39, 1, 24, some [.nilsl]⟩,
  ⟨.ptr 108, 1, 8, some [.nilp]⟩,
  ⟨.func, 1, 8, none⟩,
  ⟨.slice 44, 1, 24, some [.nilsl]⟩,
  ⟨.slice 46, 1, 24, some [.nilsl]⟩,
  ⟨.slice 46, 1, 24, some [.nilsl]⟩,
  ⟨.int .i64, 1, 8, some [.int .i64 0]⟩,
  ⟨.struct [(0, 3), (1, 2)], 2, 16, some [.int .i64 0, .int .i64 0]⟩,
  ⟨.struct [(0, 3), (1, 2)], 2, 16, some [.int .i64 0, .int .i64 0]⟩,
  ⟨.struct [(0, 3), (1, 42)], 2, 16, some [.int .i64 0, .int .i64 0]⟩,
  ⟨.struct [(0, 3), (1, 42)], 2, 16, some [.int .i64 0, .int .i64 0]⟩,
  ⟨.other, 1, 0, none⟩,
  ⟨.func, 1, 8, none⟩,
  ⟨.func, 1, 8, none⟩,
  ⟨.func, 1, 8, none⟩,
  ⟨.other, 1, 0, none⟩,
  ⟨.func, 1, 8, none⟩,
  ⟨.func, 1, 8, none⟩,
  ⟨.slice 57, 1, 24, some [.nilsl]⟩,
  ⟨.slice 60, 1, 24, some [.nilsl]⟩,
  ⟨.struct [(0, 3), (1, 5), (2, 9)], 3, 32, some [.int .i64 0, .int .u8 0, .str []]⟩,
  ⟨.struct [(0, 3), (1, 5), (2, 9)], 3, 32, some [.int .i64 0, .int .u8 0, .str []]⟩,
  ⟨.other, 1, 0, none⟩,
  ⟨.func, 1, 8, none⟩,
  ⟨.struct [(0, 3), (1, 5), (2, 9)], 3, 32, some [.int .i64 0, .int .u8 0, .str []]⟩,
  ⟨.func, 1, 8, none⟩,
  ⟨.slice 9, 1, 24, some [.nilsl]⟩,
  ⟨.ptr 126, 1, 8, some [.nilp]⟩,
  ⟨.func, 1, 8, none⟩,
  ⟨.other, 1, 0, none⟩,
  ⟨.func, 1, 8, none⟩,
  ⟨.other, 1, 0, none⟩,
  ⟨.func, 1, 8, none⟩,
  ⟨.func, 1, 8, none⟩,
  ⟨.func, 1, 8, none⟩,
  ⟨.func, 1, 8, none⟩,
  ⟨.func, 1, 8, none⟩,
  ⟨.func, 1, 8, none⟩,
  ⟨.slice 5, 1, 24, some [.nilsl]⟩,
  ⟨.struct [(0, 74), (1, 4)], 2, 32, some [.nilsl, .bool false]⟩,
  ⟨.struct [(0, 74), (1, 4)], 2, 32, some [.nilsl, .bool false]⟩,
  ⟨.func, 1, 8, none⟩,
  ⟨.ptr 76, 1, 8, some [.nilp]⟩,
  ⟨.other, 1, 0, none⟩,
  ⟨.func, 1, 8, none⟩,
  ⟨.other, 1, 0, none⟩,
  ⟨.func, 1, 8, none⟩,
  ⟨.func, 1, 8, none⟩,
  ⟨.func, 1, 8, none⟩,
  ⟨.slice 132, 1, 24, some [.nilsl]⟩,
  ⟨.other, 1, 0, none⟩,
  ⟨.func, 1, 8, none⟩,
  ⟨.other, 1, 0, none⟩,
  ⟨.func, 1, 8, none⟩,
  ⟨.func, 1, 8, none⟩,
  ⟨.other, 1, 0, none⟩,
  ⟨.func, 1, 8, none⟩,
  ⟨.func, 1, 8, none⟩,
  ⟨.func, 1, 8, none⟩,
  ⟨.func, 1, 8, none⟩,
  ⟨.map 3 31, 1, 8, some [.nilm]⟩,
  ⟨.struct [(0, 96)], 1, 8, some [.nilm]⟩,
  ⟨.struct [(0, 96)], 1, 8, some [.nilm]⟩,
  ⟨.func, 1, 8, none⟩,
  ⟨.func, 1, 8, none⟩,
  ⟨.func, 1, 8, none⟩,
  ⟨.func, 1, 8, none⟩,
  ⟨.func, 1, 8, none⟩,
  ⟨.func, 1, 8, none⟩,
  ⟨.func, 1, 8, none⟩,
  ⟨.map 3 42, 1, 8, some [.nilm]⟩,
  ⟨.struct [(0, 106)], 1, 8, some [.nilm]⟩,
  ⟨.struct [(0, 106)], 1, 8, some [.nilm]⟩,
  ⟨.slice 118, 1, 24, some [.nilsl]⟩,
  ⟨.func, 1, 8, none⟩,
  ⟨.func, 1, 8, none⟩,
  ⟨.map 3 114, 1, 8, some [.nilm]⟩,
  ⟨.func, 1, 8, none⟩,
  ⟨.slice 42, 1, 24, some [.nilsl]⟩,
  ⟨.other, 1, 0, none⟩,
  ⟨.func, 1, 8, none⟩,
  ⟨.func, 1, 8, none⟩,
  ⟨.struct [(0, 3), (1, 42)], 2, 16, some [.int .i64 0, .int .i64 0]⟩,
  ⟨.int .u64, 1, 8, some [.int .u64 0]⟩,
  ⟨.struct [(0, 3), (1, 3), (2, 119), (3, 9)], 4, 40, some [.int .i64 0, .int .i64 0, .int .u64 0, .str []]⟩,
  ⟨.struct [(0, 3), (1, 3), (2, 119), (3, 9)], 4, 40, some [.int .i64 0, .int .i64 0, .int .u64 0, .str []]⟩,
  ⟨.slice 121, 1, 24, some [.nilsl]⟩,
  ⟨.other, 1, 0, none⟩,
  ⟨.func, 1, 8, none⟩,
  ⟨.struct [(0, 9), (1, 4)], 2, 24, some [.str [], .bool false]⟩,
  ⟨.struct [(0, 9), (1, 4)], 2, 24, some [.str [], .bool false]⟩,
  ⟨.func, 1, 8, none⟩,
  ⟨.func, 1, 8, none⟩,
  ⟨.func, 1, 8, none⟩,
  ⟨.func, 1, 8, none⟩,
  ⟨.func, 1, 8, none⟩,
  ⟨.struct [(0, 3), (1, 2)], 2, 16, some [.int .i64 0, .int .i64 0]⟩,
  ⟨.slice 2, 1, 24, some [.nilsl]⟩,
  ⟨.other, 1, 0, none⟩,
  ⟨.func, 1, 8, none⟩,
  ⟨.func, 1, 8, none⟩,
  ⟨.func, 1, 8, none⟩,
  ⟨.func, 1, 8, none⟩,
  ⟨.func, 1, 8, none⟩,
  ⟨.func, 1, 8, none⟩,
  ⟨.func, 1, 8, none⟩,
  ⟨.func, 1, 8, none⟩,
  ⟨.func, 1, 8, none⟩,
  ⟨.func, 1, 8, none⟩,
  ⟨.func, 1, 8, none⟩,
  ⟨.struct [(0, 2), (1, 119)], 2, 16, some [.int .i64 0, .int .u64 0]⟩,
  ⟨.struct [(0, 2), (1, 119)], 2, 16, some [.int .i64 0, .int .u64 0]⟩,
  ⟨.func, 1, 8, none⟩,
  ⟨.func, 1, 8, none⟩,
  ⟨.func, 1, 8, none⟩,
  ⟨.func, 1, 8, none⟩,
  ⟨.func, 1, 8, none⟩,
  ⟨.func, 1, 8, none⟩,
  ⟨.func, 1, 8, none⟩,
  ⟨.array 2 2, 2, 16, some [.int .i64 0, .int .i64 0]⟩,
  ⟨.func, 1, 8, none⟩,
  ⟨.func, 1, 8, none⟩,
  ⟨.ptr 5, 1, 8, some [.nilp]⟩,
  ⟨.func, 1, 8, none⟩,
  ⟨.func, 1, 8, none⟩,
  ⟨.func, 1, 8, none⟩,
  ⟨.int .u64, 1, 8, some [.int .u64 0]⟩,
  ⟨.func, 1, 8, none⟩,
  ⟨.other, 1, 0, none⟩,
  ⟨.func, 1, 8, none⟩,
  ⟨.array 8 5, 8, 8, some [.int .u8 0, .int .u8 0, .int .u8 0, .int .u8 0, .int .u8 0, .int .u8 0, .int .u8 0, .int .u8 0]⟩,
  ⟨.func, 1, 8, none⟩,
  ⟨.int .i64, 1, 8, some [.int .i64 0]⟩,
  ⟨.other, 1, 0, none⟩,
  ⟨.func, 1, 8, none⟩,
  ⟨.func, 1, 8, none⟩,
  ⟨.func, 1, 8, none⟩,
  ⟨.other, 1, 0, none⟩,
  ⟨.func, 1, 8, none⟩,
  ⟨.func, 1, 8, none⟩,
  ⟨.int .u32, 1, 4, some [.int .u32 0]⟩,
  ⟨.func, 1, 8, none⟩,
  ⟨.func, 1, 8, none⟩,
  ⟨.func, 1, 8, none⟩,
  ⟨.func, 1, 8, none⟩,
  ⟨.func, 1, 8, none⟩,
  ⟨.func, 1, 8, none⟩,
  ⟨.int .u64, 1, 8, some [.int .u64 0]⟩,
  ⟨.func, 1, 8, none⟩,
  ⟨.func, 1, 8, none⟩,
  ⟨.func, 1, 8, none⟩,
  ⟨.ptr 3, 1, 8, some [.nilp]⟩,
  ⟨.func, 1, 8, none⟩,
  ⟨.func, 1, 8, none⟩,
  ⟨.func, 1, 8, none⟩,
  ⟨.ptr 183, 1, 8, some [.nilp]⟩,
  ⟨.other, 1, 0, none⟩,
  ⟨.func, 1, 8, none⟩,
  ⟨.func, 1, 8, none⟩,
  ⟨.struct [(0, 17), (1, 17), (2, 17), (3, 9)], 4, 40, some [.nilp, .nilp, .nilp, .str []]⟩,
  ⟨.struct [(0, 17), (1, 17), (2, 17), (3, 9)], 4, 40, some [.nilp, .nilp, .nilp, .str []]⟩,
  ⟨.array 0 16, 0, 0, some []⟩,
  ⟨.struct [(0, 197)], 0, 0, some []⟩,
  ⟨.struct [(0, 197)], 0, 0, some []⟩,
  ⟨.int .u8, 1, 1, some [.int .u8 0]⟩,
  ⟨.int .u8, 1, 1, some [.int .u8 0]⟩,
  ⟨.func, 1, 8, none⟩,
  ⟨.int .i32, 1, 4, some [.int .i32 0]⟩,
  ⟨.int .i32, 1, 4, some [.int .i32 0]⟩,
  ⟨.struct [(0, 12), (1, 12), (2, 176), (3, 200), (4, 5), (5, 5), (6, 201), (7, 202), (8, 158), (9, 203), (10, 204)], 11, 48, none⟩,
  ⟨.struct [(0, 12), (1, 12), (2, 176), (3, 200), (4, 5), (5, 5), (6, 201), (7, 202), (8, 158), (9, 203), (10, 204)], 11, 48, none⟩,
  ⟨.other, 1, 8, some [.nilp]⟩]
def tyF (t : Nat) : TI := tys.getD t ⟨.other, 0, 0, none⟩
theorem tys_eq : tys = (List.range 208).map (tiOf Try.prog) := by kernel_rfl
theorem tys_ok : ((List.range 208).all fun t => (Try.prog.info? t).any (fun i => match Try.prog.underlying t with | some (.int _) => i.comparable | _ => true) && (Try.prog.underlying t).isSome) = true := by kernel_rfl
theorem tys_z : ((List.range 208).all fun t => zshape Try.prog t) = true := by kernel_rfl
theorem tysOK : TysOK Try.prog tyF := TysOK.of_table tys_eq tys_ok tys_z (by
  intro t h
  simp only [eqT, beq_iff_eq] at h
  subst h
  intro neq l l' X Y xs ys w u M hl hl' hx hy
  have hk : kinds (fun t => tys.getD t ⟨.other, 0, 0, none⟩) 8 31 = [.int .i64, .int .u8, .str] := by kernel_rfl
  rw [hk] at hl hl'
  obtain ⟨a, b, c, rfl⟩ := ks3 hl
  obtain ⟨a', b', c', rfl⟩ := ks3 hl'
  obtain rfl := rel3 hx
  obtain rfl := rel3 hy
  have hS : Try.prog.underlying 31 = some (.struct (Try.prog.fieldsOf 31)) := by kernel_rfl
  have hp : Try.prog.stoodInHeld 31 = false := by kernel_rfl
  have hg : Try.prog.eqGuardType Try.prog.depth 31 = false := by kernel_rfl
  have he : (Op.equalIn 10000 31 (.agg #[.int .i64 a, .int .u8 b, .string ⟨c.toArray⟩]) (.agg #[.int .i64 a', .int .u8 b', .string ⟨c'.toArray⟩])).run Try.prog u = .ok (deqL [.int .i64 a, .int .u8 b, .str c] [.int .i64 a', .int .u8 b', .str c']) u := by
    have u3 := Try.underlying3
    have u29 := Try.underlying29
    have u9 := Try.underlying9
    have a3 := Try.isAgg3
    have a29 := Try.isAgg29
    have a9 := Try.isAgg9
    have z3 := Try.sizeOf3
    have z29 := Try.sizeOf29
    have z9 := Try.sizeOf9
    rw [show (10000 : Nat) = 9999 + 1 from rfl, run_equalIn_agg u 9999 31 _ _ hS hp]
    simp only [Program.fieldsOf, Try.underlying31]
    go_simp
    by_cases h1 : a = a' <;> by_cases h2 : b = b' <;> by_cases h3 : c = c' <;> simp [h1, h2, h3, deqL, deq1]
  cases neq <;> simp [run_eqGuard_agg, hg, run_eql_struct, run_neq_struct, he, Result.andThen]) (by
  intro t g w h hJ
  simp only [globs, Bool.and_eq_true, beq_iff_eq] at h; omega)
theorem orders : Try.prog.follows .mixedOrders = true := by kernel_rfl
end Go.Proofs.Yteakfibolfapiaa.Ab
end
