/- Several texts in one: Ab7, Ab8, Ab9. -/
import Derived.Test.YteakfibolfapiaaTrPk3
import Derived.Deep.AppendSrc
import Derived.Deep.Upon
section
namespace Go.Proofs.Yteakfibolfapiaa.Ab
open Go.RowKit Go.Sort
set_option linter.unusedVariables false
set_option linter.unusedSimpArgs false

section
variable {P : Program} {ρ : Env} {w w' : World} {n : Nat} {h : Hp}
/-- All that is there stays. -/
def Grows (w w' : World) : Prop := ∀ (b : Nat) (o : Obj), w.heap[b]? = some o → w'.heap[b]? = some o
theorem Grows.keeps {M : Nat → Prop} (g : Grows w w') : Keeps w M w' M := fun b o hb hm => ⟨g b o hb, hm⟩
theorem ownsRow_of_block {base size k : Nat} {e : TypeId} {v : Value} {xs : List Value} (hb : ∀ b, blkOf v = some b → w'.heap[b]? = w.heap[b]?) (r : w.ownsRow base e size v k xs) : w'.ownsRow base e size v k xs := by
  refine ⟨r.1, ?_⟩
  rcases r.2 with h0 | ⟨g, cap, cur, hv, hb0, hg, rest⟩
  · exact .inl h0
  · exact .inr ⟨g, cap, cur, hv, hb0, by rw [hb g (by rw [hv]; rfl)]; exact hg, rest⟩
theorem ownsRow_blk {base size k b : Nat} {e : TypeId} {v : Value} {xs : List Value} (r : w.ownsRow base e size v k xs) (hb : blkOf v = some b) : ∃ cs fz, w.heap[b]? = some (.cells cs e fz) := by
  rcases r.2 with ⟨h0, -⟩ | ⟨g, cap, cur, hv, hb0, hg, rest⟩
  · rw [h0] at hb; cases hb
  · rw [hv] at hb
    simp [blkOf] at hb
    subst hb
    exact ⟨_, _, hg⟩
theorem ownsRow_in {base size k b : Nat} {e : TypeId} {v : Value} {xs : List Value} (r : w.ownsRow base e size v k xs) (hb : blkIn v b) : blkOf v = some b := by
  rcases r.2 with ⟨rfl, -⟩ | ⟨g, cap, cur, rfl, -⟩
  · exact hb
  · exact hb
theorem in_of_row {base size k b : Nat} {e : TypeId} {v : Value} {xs : List Value} (r : w.ownsRow base e size v k xs) (hb : blkOf v = some b) : blkIn v b := by
  rcases r.2 with ⟨rfl, -⟩ | ⟨g, cap, cur, rfl, -⟩
  · exact hb
  · exact hb
theorem RelO.blk {M : Nat → Prop} {id b : Nat} {o : Ob} {v : Value} (r : RelO ρ w M id o) (hv : ρ id = some v) (hb : blkIn v b) : b < w.heap.size := by
  cases o with
  | cells l =>
    obtain ⟨b', cs, ty, h1, h2, -⟩ := r
    rw [hv] at h1
    obtain rfl := Option.some.inj h1
    simp [blkIn, blkOf] at hb
    subst hb
    exact lt_of_get h2
  | row c l =>
    obtain ⟨v', xs, ty, h1, -, h2, -⟩ := r
    rw [hv] at h1
    obtain rfl := Option.some.inj h1
    obtain ⟨cs, fz, h3⟩ := ownsRow_blk h2 (ownsRow_in h2 hb)
    exact lt_of_get h3
  | mp k l =>
    obtain ⟨r', h1, h2⟩ := r
    rw [hv] at h1
    obtain rfl := Option.some.inj h1
    obtain rfl := Option.some.inj (show some r' = some b from hb)
    exact h2.lt
  | it k e l c0 =>
    obtain ⟨b', r', h1, h2, -⟩ := r
    rw [hv] at h1
    obtain rfl := Option.some.inj h1
    obtain rfl := Option.some.inj (show some b' = some b from hb)
    exact h2.it.lt
  | sit s p =>
    obtain ⟨b', h1, -, h2⟩ := r
    rw [hv] at h1
    obtain rfl := Option.some.inj h1
    obtain rfl := Option.some.inj (show some b' = some b from hb)
    exact lt_of_get h2
  | bag c l =>
    obtain ⟨vs, h1, h2, -, h3, -⟩ := r
    rw [hv] at h1
    obtain rfl := Option.some.inj h1
    obtain ⟨u, hu, hb⟩ := hb
    rw [h2] at hu
    obtain ⟨p, hp, rfl⟩ := List.mem_map.1 hu
    obtain ⟨xs, ty, h4, -⟩ := h3 p hp
    obtain ⟨cs, fz, h5⟩ := ownsRow_blk h4 hb
    exact lt_of_get h5
theorem RelO.some {M : Nat → Prop} {id : Nat} {o : Ob} (r : RelO ρ w M id o) : ∃ v, ρ id = Option.some v := by
  cases o with
  | cells l => obtain ⟨b', cs, ty, h1, h2, -⟩ := r; exact ⟨_, h1⟩
  | row c l => obtain ⟨v', xs, ty, h1, -, h2, -⟩ := r; exact ⟨_, h1⟩
  | mp k l => obtain ⟨r', h1, -⟩ := r; exact ⟨_, h1⟩
  | it k e l c0 => obtain ⟨b, r', h1, -⟩ := r; exact ⟨_, h1⟩
  | sit s p => obtain ⟨b, h1, -⟩ := r; exact ⟨_, h1⟩
  | bag c l => obtain ⟨vs, h1, -⟩ := r; exact ⟨_, h1⟩
theorem RelO.mono {ρ' : Env} {M M' : Nat → Prop} {id : Nat} {o : Ob} (hs : EnvSub ρ ρ') (hk : Keeps w M w' M') (hb : ∀ v b, ρ id = Option.some v → blkIn v b → w'.heap[b]? = w.heap[b]?) (r : RelO ρ w M id o) : RelO ρ' w' M' id o := by
  cases o with
  | cells l =>
    obtain ⟨b, cs, ty, h1, h2, h3⟩ := r
    exact ⟨b, cs, ty, hs _ _ h1, by rw [hb _ b h1 rfl]; exact h2, RelVs.mono hs hk _ _ h3⟩
  | row c l =>
    obtain ⟨v, xs, ty, h1, hc, h2, h3, h4⟩ := r
    exact ⟨v, xs, ty, hs _ _ h1, hc, ownsRow_of_block (fun b e => hb v b h1 (in_of_row h2 e)) h2, h3, RelRows.mono hk _ _ h4⟩
  | mp k l =>
    obtain ⟨r', h1, h2⟩ := r
    exact ⟨r', hs _ _ h1, h2.move fun o ho => by rw [hb _ r' h1 rfl]; exact ho⟩
  | it k e l c0 =>
    obtain ⟨b, r', h1, h2, h3⟩ := r
    have hb' := hb _ b h1 rfl
    obtain ⟨E, cl, seen, g1, g2, g3⟩ := h2
    obtain ⟨k1, k2⟩ := hk r' _ g1 h3
    exact ⟨b, r', hs _ _ h1, ⟨E, cl, seen, k1, by rw [hb']; exact g2, g3⟩, k2⟩
  | sit s p =>
    obtain ⟨b, h1, h2, h3⟩ := r
    exact ⟨b, hs _ _ h1, h2, by rw [hb _ b h1 rfl]; exact h3⟩
  | bag c l =>
    obtain ⟨vs, h1, h2, h3, h4, h5⟩ := r
    refine ⟨vs, hs _ _ h1, h2, h3, fun p hp => ?_, h5⟩
    obtain ⟨xs, ty, g1, g2, g3⟩ := h4 p hp
    exact ⟨xs, ty, ownsRow_of_block (fun b e => hb _ b h1 ⟨p.1, by rw [h2]; exact List.mem_map.2 ⟨p, hp, rfl⟩, e⟩) g1, g2, RelRows.mono hk _ _ g3⟩
theorem Rep.lt (r : Rep ρ n h w) {id : Nat} {o : Ob} (hm : (id, o) ∈ h) : id < n := by
  rcases Nat.lt_or_ge id n with hl | hl
  · exact hl
  · obtain ⟨v, hv⟩ := (r.objs id o hm).some
    rw [r.fresh id hl] at hv
    cases hv
theorem Loc.lt (r : Rep ρ n h w) {b : Nat} (hm : Loc ρ h b) : b < w.heap.size := by
  obtain ⟨id, o, v, h1, h2, h3⟩ := hm
  exact (r.objs id o h1).blk h2 h3
theorem Grows.same (g : Grows w w') {F : Nat → Prop} (b : Nat) (hb : b < w.heap.size) (_ : F b) : w'.heap[b]? = w.heap[b]? := by
  have : w.heap[b]? = some w.heap[b] := Array.getElem?_eq_getElem hb
  rw [this]; exact g b _ this
theorem Mut.lt (r : Rep ρ n h w) {b : Nat} (hm : Mut ρ h b) : b < w.heap.size := hm.elim (r.old.lt b) (Loc.lt r)
theorem Grows.size (g : Grows w w') : w.heap.size ≤ w'.heap.size := by
  rcases Nat.lt_or_ge w'.heap.size w.heap.size with hl | hl
  · have := g w'.heap.size _ (Array.getElem?_eq_getElem hl)
    rw [Array.getElem?_eq_none (Nat.le_refl _)] at this
    cases this
  · exact hl
theorem Rep.grow (g : Grows w w') (r : Rep ρ n h w) : Rep ρ n h w' where
  nodup := r.nodup
  objs id o hm := (r.objs id o hm).mono (EnvSub.refl ρ) g.keeps (fun v b hv hb => by
    have hl := (r.objs id o hm).blk hv hb
    have : w.heap[b]? = some w.heap[b] := Array.getElem?_eq_getElem hl
    rw [this]; exact g b _ this)
  inj := r.inj
  fresh := r.fresh
  sep := r.sep
  old := r.old.go (g.same)
theorem goes_grow {n0 : Nat} (g : Grows w w') (ho : w'.os = w.os) (ht : w'.tape = w.tape) (hp : w'.output = w.output) (hs : w.heap.size ≤ w'.heap.size) : Goes n0 ρ h w ρ h w' :=
  ⟨ho, ht, hp, hs, fun b hb _ => by
    have : w.heap[b]? = some w.heap[b] := Array.getElem?_eq_getElem hb
    rw [this]; exact g b _ this, fun _ _ m => m, fun _ _ => rfl, rfl⟩
theorem grows_alloc (w : World) (o : Obj) : Grows w (w.alloc o) := fun b x hb => Tr.blk_old hb
theorem grows_drew (w : World) : Grows w w.drew := fun b x hb => hb
theorem Grows.refl (w : World) : Grows w w := fun _ _ h => h
theorem Grows.trans {w1 w2 w3 : World} (g : Grows w1 w2) (k : Grows w2 w3) : Grows w1 w3 := fun b o h => k b o (g b o h)
def upd (ρ : Env) (n : Nat) (v : Value) : Env := ⟨fun i => if i = n then some v else ρ i, ρ.F⟩
theorem upd_at (ρ : Env) (n : Nat) (v : Value) (i : Nat) : upd ρ n v i = if i = n then some v else ρ i := rfl
theorem upd_same (ρ : Env) (n : Nat) (v : Value) : upd ρ n v n = some v := by simp [upd]
theorem upd_sub (hf : ∀ id, n ≤ id → ρ id = none) (v : Value) : EnvSub ρ (upd ρ n v) := fun id x hx => by
  rw [upd_at]
  split
  · rename_i e; subst e; rw [hf id (Nat.le_refl _)] at hx; cases hx
  · exact hx
theorem upd_ext (ρ : Env) (n : Nat) (v : Value) : ∀ id, id < n → upd ρ n v id = ρ id := fun id h => by rw [upd_at, if_neg (by omega)]
theorem loc_new {v : Value} {o : Ob} (hf : ∀ id, n ≤ id → ρ id = none) {b : Nat} (hm : Loc (upd ρ n v) (h ++ [(n, o)]) b) : Loc ρ h b ∨ blkIn v b := by
  obtain ⟨id, o', v', h1, h2, h3⟩ := hm
  rcases List.mem_append.1 h1 with h1 | h1
  · by_cases e : id = n
    · subst e
      rw [upd_same] at h2
      obtain rfl := Option.some.inj h2
      exact .inr h3
    · rw [upd_at, if_neg e] at h2
      exact .inl ⟨id, o', v', h1, h2, h3⟩
  · simp at h1
    obtain ⟨rfl, rfl⟩ := h1
    rw [upd_same] at h2
    obtain rfl := Option.some.inj h2
    exact .inr h3
theorem mut_new {v : Value} {o : Ob} (hf : ∀ id, n ≤ id → ρ id = none) {b : Nat} (hm : Mut (upd ρ n v) (h ++ [(n, o)]) b) : Mut ρ h b ∨ blkIn v b :=
  hm.elim (fun f => .inl (.inl f)) (fun m => (loc_new hf m).imp .inr id)
/-- A new place. -/
theorem Rep.new (r : Rep ρ n h w) (g : Grows w w') {v : Value} {o : Ob} (hb : ∀ b, blkIn v b → w.heap.size ≤ b)
    (ho : Keeps w (Mut ρ h) w' (Mut (upd ρ n v) (h ++ [(n, o)])) → RelO (upd ρ n v) w' (Mut (upd ρ n v) (h ++ [(n, o)])) n o) : Rep (upd ρ n v) (n + 1) (h ++ [(n, o)]) w' := by
  have hk : Keeps w (Mut ρ h) w' (Mut (upd ρ n v) (h ++ [(n, o)])) := fun b x hx hm => ⟨g b x hx, fun m => by
    rcases mut_new r.fresh m with m | m
    · exact hm m
    · have := hb b m; have := lt_of_get hx; omega⟩
  have hlt := fun id o hm => r.lt (id := id) (o := o) hm
  refine ⟨?_, ?_, ?_, ?_, ?_, (r.old.go g.same).as rfl⟩
  · rw [List.map_append, List.nodup_append]
    refine ⟨r.nodup, by simp, ?_⟩
    intro a ha b hb' e
    simp at hb'
    obtain ⟨⟨i, o'⟩, hm, rfl⟩ := List.mem_map.1 ha
    have := hlt i o' hm
    dsimp only at e
    omega
  · intro id o' hm
    rcases List.mem_append.1 hm with hm | hm
    · refine (r.objs id o' hm).mono (upd_sub r.fresh v) hk (fun v' b hv hb' => ?_)
      have hl := (r.objs id o' hm).blk hv hb'
      have : w.heap[b]? = some w.heap[b] := Array.getElem?_eq_getElem hl
      rw [this]; exact g b _ this
    · simp at hm
      obtain ⟨rfl, rfl⟩ := hm
      exact ho hk
  · intro i o1 j o2 v1 v2 b hi hj h1 h2 b1 b2
    rcases List.mem_append.1 hi with hi' | hi' <;> rcases List.mem_append.1 hj with hj' | hj'
    · have e1 : upd ρ n v i = ρ i := upd_ext ρ n v i (hlt i o1 hi')
      have e2 : upd ρ n v j = ρ j := upd_ext ρ n v j (hlt j o2 hj')
      exact r.inj i o1 j o2 v1 v2 b hi' hj' (e1 ▸ h1) (e2 ▸ h2) b1 b2
    · simp at hj'
      obtain ⟨rfl, rfl⟩ := hj'
      rw [upd_same] at h2
      obtain rfl := Option.some.inj h2
      have e1 : upd ρ j v i = ρ i := upd_ext ρ j v i (hlt i o1 hi')
      have := (r.objs i o1 hi').blk (e1 ▸ h1) b1
      have := hb b b2
      omega
    · simp at hi'
      obtain ⟨rfl, rfl⟩ := hi'
      rw [upd_same] at h1
      obtain rfl := Option.some.inj h1
      have e2 : upd ρ i v j = ρ j := upd_ext ρ i v j (hlt j o2 hj')
      have := (r.objs j o2 hj').blk (e2 ▸ h2) b2
      have := hb b b1
      omega
    · simp at hi' hj'
      rw [hi'.1, hj'.1]
  · intro id hid
    rw [upd_at, if_neg (by omega)]
    exact r.fresh id (by omega)
  · intro id x v' b hm hv hb' hF
    rcases List.mem_append.1 hm with hm' | hm'
    · exact r.sep id x v' b hm' ((upd_ext ρ n v id (hlt id x hm')) ▸ hv) hb' hF
    · simp at hm'
      obtain ⟨rfl, rfl⟩ := hm'
      rw [upd_same] at hv
      obtain rfl := Option.some.inj hv
      have h1 := hb b hb'
      have h2 := r.old.lt b hF
      omega
theorem goes_new (r : Rep ρ n h w) (g : Grows w w') {v : Value} {o : Ob} (hb : ∀ b, blkIn v b → w.heap.size ≤ b) (hos : w'.os = w.os) (ht : w'.tape = w.tape) (hp : w'.output = w.output) (hs : w.heap.size ≤ w'.heap.size) :
    Goes n ρ h w (upd ρ n v) (h ++ [(n, o)]) w' :=
  ⟨hos, ht, hp, hs, fun b hb' _ => by
    have : w.heap[b]? = some w.heap[b] := Array.getElem?_eq_getElem hb'
    rw [this]; exact g b _ this, fun b hb' m => by
      rcases loc_new r.fresh m with m | m
      · exact m
      · have := hb b m; omega, upd_ext ρ n v, rfl⟩

/-! a place that is written -/
theorem hset_ids : ∀ (h : Hp) (id : Nat) (o : Ob), (hset h id o).map (·.1) = h.map (·.1)
  | [], _, _ => rfl
  | (i, x) :: r, id, o => by
    simp only [hset]
    cases hb : i == id with
    | true => simp
    | false => simp [hset_ids r id o]
theorem hset_mem {h : Hp} (hn : (h.map (·.1)).Nodup) {id : Nat} {o : Ob} : ∀ {i : Nat} {x : Ob}, (i, x) ∈ hset h id o → (i = id ∧ x = o) ∨ (i ≠ id ∧ (i, x) ∈ h) := by
  induction h with
  | nil => intro i x hm; simp [hset] at hm
  | cons y r ih =>
    obtain ⟨j, z⟩ := y
    rw [List.map_cons, List.nodup_cons] at hn
    intro i x hm
    simp only [hset] at hm
    cases hb : j == id with
    | true =>
      have e := eq_of_beq hb
      subst e
      simp only [hb, cond_true, List.mem_cons, Prod.mk.injEq] at hm
      rcases hm with ⟨rfl, rfl⟩ | hm
      · exact .inl ⟨rfl, rfl⟩
      · refine .inr ⟨fun e => hn.1 (by rw [← e]; exact List.mem_map.2 ⟨_, hm, rfl⟩), by simp [hm]⟩
    | false =>
      simp only [hb, cond_false, List.mem_cons, Prod.mk.injEq] at hm
      rcases hm with ⟨rfl, rfl⟩ | hm
      · exact .inr ⟨fun e => by rw [e] at hb; simp at hb, by simp⟩
      · rcases ih hn.2 hm with h1 | ⟨h1, h2⟩
        · exact .inl h1
        · exact .inr ⟨h1, by simp [h2]⟩
theorem hset_has {h : Hp} {id : Nat} {o x : Ob} (hm : (id, x) ∈ h) : ∃ y, (id, y) ∈ hset h id o := by
  have : id ∈ (hset h id o).map (·.1) := by rw [hset_ids]; exact List.mem_map.2 ⟨_, hm, rfl⟩
  obtain ⟨⟨i, y⟩, h1, rfl⟩ := List.mem_map.1 this
  exact ⟨y, h1⟩
theorem hset_old {h : Hp} {id i : Nat} {o x : Ob} (hm : (i, x) ∈ h) : ∃ y, (i, y) ∈ hset h id o := by
  have : i ∈ (hset h id o).map (·.1) := by rw [hset_ids]; exact List.mem_map.2 ⟨_, hm, rfl⟩
  obtain ⟨⟨j, y⟩, h1, rfl⟩ := List.mem_map.1 this
  exact ⟨y, h1⟩
theorem loc_set (hn : (h.map (·.1)).Nodup) {id : Nat} {o x : Ob} (hx : (id, x) ∈ h) {b : Nat} : Loc ρ (hset h id o) b ↔ Loc ρ h b := by
  constructor
  · rintro ⟨i, y, v, h1, h2, h3⟩
    rcases hset_mem hn h1 with ⟨rfl, rfl⟩ | ⟨-, h4⟩
    · exact ⟨i, x, v, hx, h2, h3⟩
    · exact ⟨i, y, v, h4, h2, h3⟩
  · rintro ⟨i, y, v, h1, h2, h3⟩
    obtain ⟨z, hz⟩ := hset_old (id := id) (o := o) h1
    exact ⟨i, z, v, hz, h2, h3⟩
theorem mut_set (hn : (h.map (·.1)).Nodup) {id : Nat} {o x : Ob} (hx : (id, x) ∈ h) {b : Nat} : Mut ρ (hset h id o) b ↔ Mut ρ h b := or_congr Iff.rfl (loc_set hn hx)
theorem Rep.set (r : Rep ρ n h w) {id b : Nat} {o x : Ob} {v : Value} (hx : (id, x) ∈ h) (hv : ρ id = some v) (hb : blkIn v b) (hw : ∀ k, k ≠ b → w'.heap[k]? = w.heap[k]?)
    (ho : Keeps w (Mut ρ h) w' (Mut ρ (hset h id o)) → RelO ρ w' (Mut ρ (hset h id o)) id o) : Rep ρ n (hset h id o) w' := by
  have hk : Keeps w (Mut ρ h) w' (Mut ρ (hset h id o)) := fun k y hy hm => by
    refine ⟨?_, fun m => hm ((mut_set r.nodup hx).1 m)⟩
    rw [hw k (fun e => hm (.inr ⟨id, x, v, hx, hv, by rw [e]; exact hb⟩))]
    exact hy
  refine ⟨by rw [hset_ids]; exact r.nodup, ?_, ?_, r.fresh, ?_, r.old.go (fun b' _ hF => hw b' (fun e => r.sep id x v b hx hv hb (e ▸ hF)))⟩
  · intro i y hm
    rcases hset_mem r.nodup hm with ⟨rfl, rfl⟩ | ⟨h1, h2⟩
    · exact ho hk
    · refine (r.objs i y h2).mono (EnvSub.refl ρ) hk (fun v' b' hv' hb' => hw b' (fun e => ?_))
      subst e
      exact h1 (r.inj i y id x v' v b' h2 hx hv' hv hb' hb)
  · intro i o1 j o2 v1 v2 b hi hj h1 h2 b1 b2
    obtain ⟨y1, hy1⟩ : ∃ y, (i, y) ∈ h := by
      rcases hset_mem r.nodup hi with ⟨rfl, rfl⟩ | ⟨-, h4⟩
      · exact ⟨x, hx⟩
      · exact ⟨_, h4⟩
    obtain ⟨y2, hy2⟩ : ∃ y, (j, y) ∈ h := by
      rcases hset_mem r.nodup hj with ⟨rfl, rfl⟩ | ⟨-, h4⟩
      · exact ⟨x, hx⟩
      · exact ⟨_, h4⟩
    exact r.inj i y1 j y2 v1 v2 b hy1 hy2 h1 h2 b1 b2
  · intro i y v' b' hm hv' hb' hF
    rcases hset_mem r.nodup hm with ⟨rfl, rfl⟩ | ⟨-, h2⟩
    · exact r.sep i x v' b' hx hv' hb' hF
    · exact r.sep i y v' b' h2 hv' hb' hF
theorem goes_set {n0 : Nat} (r : Rep ρ n h w) {id b : Nat} {o x : Ob} {v : Value} (hx : (id, x) ∈ h) (hv : ρ id = some v) (hb : blkIn v b) (hw : ∀ k, k ≠ b → w'.heap[k]? = w.heap[k]?) (hos : w'.os = w.os) (ht : w'.tape = w.tape) (hp : w'.output = w.output) (hs : w'.heap.size = w.heap.size) :
    Goes n0 ρ h w ρ (hset h id o) w' :=
  ⟨hos, ht, hp, by omega, fun k _ hm => hw k (fun e => hm ⟨id, x, v, hx, hv, by rw [e]; exact hb⟩), fun k _ m => (loc_set r.nodup hx).1 m, fun _ _ => rfl, rfl⟩

/-! a place that is given up -/
theorem hdel_sub : ∀ (h : Hp) (id : Nat) (i : Nat) (x : Ob), (i, x) ∈ hdel h id → (i, x) ∈ h
  | [], _, _, _, hm => by simp [hdel] at hm
  | (j, y) :: r, id, i, x, hm => by
    simp only [hdel] at hm
    cases hb : j == id with
    | true => simp only [hb, cond_true] at hm; simp [hm]
    | false =>
      simp only [hb, cond_false, List.mem_cons] at hm
      rcases hm with hm | hm
      · simp [hm]
      · simp [hdel_sub r id i x hm]
theorem hdel_sublist : ∀ (h : Hp) (id : Nat), (hdel h id).Sublist h
  | [], _ => List.Sublist.slnil
  | (j, y) :: r, id => by
    simp only [hdel]
    cases hb : j == id with
    | true => exact List.sublist_cons_self _ _
    | false => exact (hdel_sublist r id).cons_cons _
theorem hdel_ne {h : Hp} (hn : (h.map (·.1)).Nodup) {id : Nat} {x : Ob} : ∀ {i : Nat}, (i, x) ∈ hdel h id → i ≠ id := by
  induction h with
  | nil => intro i hm; simp [hdel] at hm
  | cons y r ih =>
    obtain ⟨j, z⟩ := y
    rw [List.map_cons, List.nodup_cons] at hn
    intro i hm e
    subst e
    simp only [hdel] at hm
    cases hb : j == i with
    | true =>
      have := eq_of_beq hb
      subst this
      simp only [hb, cond_true] at hm
      exact hn.1 (List.mem_map.2 ⟨_, hm, rfl⟩)
    | false =>
      simp only [hb, cond_false, List.mem_cons, Prod.mk.injEq] at hm
      rcases hm with ⟨rfl, -⟩ | hm
      · simp at hb
      · exact ih hn.2 hm rfl
theorem loc_del {id b : Nat} (m : Loc ρ (hdel h id) b) : Loc ρ h b := by
  obtain ⟨i, o, v, h1, h2, h3⟩ := m
  exact ⟨i, o, v, hdel_sub _ _ _ _ h1, h2, h3⟩
theorem mut_del {id b : Nat} (m : Mut ρ (hdel h id) b) : Mut ρ h b := m.imp (fun f => f) loc_del
theorem keeps_del (id : Nat) : Keeps w (Mut ρ h) w (Mut ρ (hdel h id)) := fun b o hb hm => ⟨hb, fun m => hm (mut_del m)⟩
theorem Rep.del (r : Rep ρ n h w) (id : Nat) : Rep ρ n (hdel h id) w where
  nodup := r.nodup.sublist ((hdel_sublist h id).map _)
  objs i o hm := (r.objs i o (hdel_sub _ _ _ _ hm)).mono (EnvSub.refl ρ) (keeps_del id) (fun _ _ _ _ => rfl)
  inj i o j o' v v' b hi hj := r.inj i o j o' v v' b (hdel_sub _ _ _ _ hi) (hdel_sub _ _ _ _ hj)
  fresh := r.fresh
  sep i o v b hm := r.sep i o v b (hdel_sub _ _ _ _ hm)
  old := r.old
theorem goes_del {n0 : Nat} (id : Nat) : Goes n0 ρ h w ρ (hdel h id) w := ⟨rfl, rfl, rfl, Nat.le_refl _, fun _ _ _ => rfl, fun _ _ m => loc_del m, fun _ _ => rfl, rfl⟩
/-- The block of a place that was given up is nobody's. -/
theorem del_free (r : Rep ρ n h w) {id b : Nat} {x : Ob} {v : Value} (hx : (id, x) ∈ h) (hv : ρ id = some v) (hb : blkIn v b) : ¬ Mut ρ (hdel h id) b := by
  rintro (hF | ⟨i, o, v', h1, h2, h3⟩)
  · exact r.sep id x v b hx hv hb hF
  · exact hdel_ne r.nodup h1 (r.inj i o id x v' v b (hdel_sub _ _ _ _ h1) hx h2 hv h3 hb)
/-- A place that is given up, its block with it; then the world turns there alone. -/
theorem Rep.del_turn (r : Rep ρ n h w) {id : Nat} {x : Ob} {v : Value} (hx : (id, x) ∈ h) (hv : ρ id = some v) (hw : ∀ k, k < w.heap.size → ¬ blkIn v k → w'.heap[k]? = w.heap[k]?) :
    Rep ρ n (hdel h id) w' ∧ Keeps w (Mut ρ h) w' (Mut ρ (hdel h id)) := by
  have hk : Keeps w (Mut ρ h) w' (Mut ρ (hdel h id)) := fun b o hb hm => by
    refine ⟨?_, fun m => hm (mut_del m)⟩
    rw [hw b (lt_of_get hb) (fun e => hm (.inr ⟨id, x, v, hx, hv, e⟩))]
    exact hb
  refine ⟨⟨r.nodup.sublist ((hdel_sublist h id).map _), ?_, fun i o j o' v v' b hi hj => r.inj i o j o' v v' b (hdel_sub _ _ _ _ hi) (hdel_sub _ _ _ _ hj), r.fresh, fun i o v' b hm => r.sep i o v' b (hdel_sub _ _ _ _ hm), r.old.go (fun b hb hF => hw b hb (fun e => r.sep id x v b hx hv e hF))⟩, hk⟩
  intro i o hm
  refine (r.objs i o (hdel_sub _ _ _ _ hm)).mono (EnvSub.refl ρ) hk (fun v' b hv' hb => ?_)
  refine hw b ((r.objs i o (hdel_sub _ _ _ _ hm)).blk hv' hb) (fun e => ?_)
  exact hdel_ne r.nodup hm (r.inj i o id x v' v b (hdel_sub _ _ _ _ hm) hx hv' hv hb e)
end
end Go.Proofs.Yteakfibolfapiaa.Ab
end
section
namespace Go.Proofs.Yteakfibolfapiaa.Ab
open Go.RowKit Go.Sort
set_option linter.unusedVariables false
set_option linter.unusedSimpArgs false

section
variable {P : Program} {T : Nat → TI} {ρ : Env} {w : World} {M : Nat → Prop}
theorem flat_one {v : AV} {x : Value} (hf : flatV v = true) (h : RelV ρ w M v x) : x.oneCell' = true := by
  cases v with
  | d y =>
    refine RelD.oneCell h (fun l e => ?_)
    subst e
    simp [flatV] at hf
  | ptr id off => obtain ⟨b, hb, rfl⟩ := h; rfl
  | iptr l i f => obtain ⟨b, off, cs, e, fz, c, rfl, -⟩ := h; rfl
  | rptr id c i f => obtain ⟨g, n, cap, hb, h0, rfl⟩ := h; rfl
  | aptr id off n c i f => obtain ⟨b, hb, h0, h1, rfl⟩ := h; rfl
  | sl id => obtain ⟨hb, a, n, cap, rfl⟩ := h; rfl
  | map id => obtain ⟨hb, r, rfl⟩ := h; rfl
  | iter id => obtain ⟨hb, r, rfl⟩ := h; rfl
  | agg l => simp [flatV] at hf
  | tup l => simp [flatV] at hf
  | fn f c => obtain ⟨cs, rfl, -⟩ := h; rfl
  | ifc t x => obtain ⟨cs, rfl, -⟩ := h; rfl
  | top => simp [flatV] at hf
  | raw v0 => obtain ⟨rfl, a, n, cap, rfl⟩ := h; rfl
theorem flat_all : ∀ (l : List AV) (vs : List Value), flatVs l = true → RelVs ρ w M l vs → ∀ u ∈ vs, u.oneCell' = true
  | [], vs, _, r, u, hu => by rw [show vs = [] from r] at hu; cases hu
  | v :: l, vs, hf, ⟨x, rest, hv, r1, r2⟩, u, hu => by
    subst hv
    simp only [flatVs] at hf
    cases hfv : flatV v with
    | false => simp [hfv] at hf
    | true =>
      simp [hfv] at hf
      rcases List.mem_cons.1 hu with rfl | hu
      · exact flat_one hfv r1
      · exact flat_all l rest hf r2 u hu
theorem flat_top : ∀ {v : AV}, flatVs (cellsOf v) = true → v ≠ .top := by
  rintro v h rfl
  simp [cellsOf, flatVs, flatV] at h
theorem setMany_eq : ∀ (vs l : List AV) (off : Nat), off + vs.length ≤ l.length → setMany l off vs = l.take off ++ vs ++ l.drop (off + vs.length)
  | [], l, off, _ => by simp [setMany]
  | v :: vs, l, off, h => by
    simp only [List.length_cons] at h
    rw [setMany, setMany_eq vs (l.set off v) (off + 1) (by simp; omega)]
    have e1 : (l.set off v).take (off + 1) = l.take off ++ [v] := by
      rw [List.take_add_one]
      rw [List.take_set_of_le (by omega)]
      rw [List.getElem?_set_self (by omega)]
      rfl
    have e2 : (l.set off v).drop (off + 1 + vs.length) = l.drop (off + (v :: vs).length) := by
      rw [List.drop_set_of_lt (by omega), List.length_cons]
      congr 1; omega
    rw [e1, e2]
    simp
theorem setMany_rel {l vs : List AV} {cs xs : List Value} {off : Nat} (h : RelVs ρ w M l cs) (hv : RelVs ρ w M vs xs) (hle : off + vs.length ≤ l.length) :
    RelVs ρ w M (setMany l off vs) (cs.take off ++ xs ++ cs.drop (off + xs.length)) := by
  rw [setMany_eq vs l off hle, ← RelVs.length _ _ hv]
  exact RelVs.append _ _ _ _ (RelVs.append _ _ _ _ (RelVs.take _ _ h off) hv) (RelVs.drop _ _ h _)
theorem RelRows.mk {c : Nat} : ∀ (l : List (List D)) (vs : List Value), (∀ r ∈ l, r.length = c) → (∀ (i : Nat) (r : List D), l[i]? = some r → RelDs w M r ((vs.drop (i * c)).take c)) → RelRows w M l vs
  | [], vs, _, _ => trivial
  | r :: rest, vs, hl, h => by
    have hr := hl r (by simp)
    refine ⟨?_, RelRows.mk rest _ (fun x hx => hl x (by simp [hx])) (fun i r' hi => ?_)⟩
    · have := h 0 r (by simp)
      rw [hr]
      simpa using this
    · have := h (i + 1) r' (by simpa using hi)
      rw [List.drop_drop, hr]
      rw [Nat.add_mul, Nat.one_mul, Nat.add_comm] at this
      exact this
theorem ite_eq {i : Int} {j : Nat} {v old x : AV} (h : iteA real i j v old = some x) : x = if i = (j : Int) then v else old := by
  unfold iteA at h
  split at h
  · rename_i k a k' b
    cases hb : decide (k = k') with
    | false => simp [hb] at h
    | true =>
      have : k = k' := by simpa using hb
      subst this
      simp only [decide_true, cond_true, Option.some.injEq] at h
      subst h
      simp only [real]
      split <;> rfl
  · simp only [Option.some.injEq] at h
    subst h
    simp only [real]
    split <;> rfl
  · simp only [Option.some.injEq] at h
    subst h
    simp only [real]
    split <;> rfl
  · cases h
theorem setA_eq {i : Int} {v : AV} {c : Nat} : ∀ (n : Nat) (l l' : List AV) (off j : Nat), setA real i v l off c j n = some l' → 
    l' = if (j : Int) ≤ i ∧ i < j + n then l.set (off + (i.toNat - j) * c) v else l
  | 0, l, l', off, j, h => by
    simp [setA] at h
    subst h
    rw [if_neg (by omega)]
  | n + 1, l, l', off, j, h => by
    simp only [setA] at h
    cases ho : l[off]? with
    | none => simp [ho] at h
    | some old =>
      simp only [ho] at h
      cases hx : iteA real i j v old with
      | none => simp [hx] at h
      | some x =>
        simp only [hx] at h
        have hxe := ite_eq hx
        have ih := setA_eq n _ _ _ _ h
        by_cases he : i = (j : Int)
        · rw [if_pos he] at hxe
          subst hxe
          rw [if_neg (by omega)] at ih
          rw [if_pos (by omega), ih]
          congr 1
          have : i.toNat - j = 0 := by omega
          rw [this]; omega
        · rw [if_neg he] at hxe
          subst hxe
          have hself : l.set off x = l := by
            apply List.ext_getElem?
            intro k
            rw [List.getElem?_set]
            split
            · rename_i e
              subst e
              split
              · exact ho.symm
              · rename_i hlt
                rw [List.getElem?_eq_none (by omega)] at ho; cases ho
            · rfl
          rw [hself] at ih
          by_cases hr : ((j + 1 : Nat) : Int) ≤ i ∧ i < (j + 1 : Nat) + n
          · rw [if_pos hr] at ih
            rw [if_pos (by omega), ih]
            congr 1
            have : i.toNat - j = (i.toNat - (j + 1)) + 1 := by omega
            rw [this, Nat.add_mul]
            omega
          · rw [if_neg hr] at ih
            rw [if_neg (by omega)]
            exact ih
theorem setA_has {i : Int} {v : AV} {c : Nat} : ∀ (n : Nat) (l l' : List AV) (off j : Nat), setA real i v l off c j n = some l' → ∀ k, k < n → ∃ o, l[off + k * c]? = some o
  | 0, l, l', off, j, h, k, hk => absurd hk (Nat.not_lt_zero _)
  | n + 1, l, l', off, j, h, k, hk => by
    simp only [setA] at h
    cases ho : l[off]? with
    | none => simp [ho] at h
    | some old =>
      simp only [ho] at h
      cases hx : iteA real i j v old with
      | none => simp [hx] at h
      | some x =>
        simp only [hx] at h
        cases k with
        | zero => exact ⟨old, by simpa using ho⟩
        | succ k =>
          obtain ⟨o, h2⟩ := setA_has n _ _ _ _ h k (by omega)
          have h3 := (List.getElem?_eq_some_iff.1 h2).1
          rw [List.length_set] at h3
          refine ⟨l[off + (k + 1) * c]'(by rw [Nat.add_mul]; omega), List.getElem?_eq_getElem _⟩
theorem setRow_old (w : World) (g : Nat) (cs : Array Value) : ∀ k, k ≠ g → (w.setRow g cs).heap[k]? = w.heap[k]? := fun k h => setRow_other w g k cs h
theorem setRow_size (w : World) (g : Nat) (cs : Array Value) : (w.setRow g cs).heap.size = w.heap.size := by simp [World.setRow]

theorem splice_get (a vs : List Value) (p k : Nat) (h : p + vs.length ≤ a.length) : (a.take p ++ vs ++ a.drop (p + vs.length))[k]? = if k < p then a[k]? else if k < p + vs.length then vs[k - p]? else a[k]? := by
  rw [List.append_assoc, List.getElem?_append, List.length_take, List.getElem?_append, List.getElem?_take, List.getElem?_drop]
  have : min p a.length = p := by omega
  rw [this]
  by_cases h1 : k < p
  · rw [if_pos h1, if_pos h1, if_pos h1]
  · rw [if_neg h1, if_neg h1]
    by_cases h2 : k < p + vs.length
    · rw [if_pos (by omega), if_pos h2]
    · rw [if_neg (by omega), if_neg h2]
      congr 1
      omega
theorem window_get (a : List Value) (m p c k : Nat) (h : p + c ≤ m) : (((a.take m).drop p).take c)[k]? = if k < c then a[p + k]? else none := by
  rw [List.getElem?_take, List.getElem?_drop, List.getElem?_take]
  by_cases h1 : k < c
  · rw [if_pos h1, if_pos h1, if_pos (by omega)]
  · rw [if_neg h1, if_neg h1]
/-- What a store leaves. -/
def Stored (P : Program) (ρ : Env) (st : St) (w : World) (K : St → Prop) (s : Sem Unit) : Prop :=
  ∃ w' h', s.run P w = .ok () w' ∧ K { st with h := h' } ∧ Rep ρ st.n h' w' ∧ Goes st.n ρ st.h w ρ h' w'
theorem store_run (hT : TysOK P T) {t g off : Nat} {vx : Value} {cur : Array Value} {e : TypeId} (hs : (T t).size ≠ 0) (hl : vx.cells.size = (T t).size) (hg : w.heap[g]? = some (.cells cur e (0, 0)))
    (hfit : off + vx.cells.size ≤ cur.size) (h1 : ∀ u ∈ vx.cells.toList, u.oneCell' = true) :
    (Instr.storeAt t (.pointer (some ⟨g, off, none⟩)) vx).run P w = .ok () (w.setRow g (cur.toList.take off ++ vx.cells.toList ++ cur.toList.drop (off + vx.cells.toList.length)).toArray) := by
  have h := run_storeCells_at P g off e vx.cells.toList 0 cur w hg (by simpa using hfit) h1
  simp only [Nat.add_zero] at h
  simp [Instr.storeAt, Instr.sureAddr, storeVar, hT.size hs, hl, h]
theorem store_sound (hT : TysOK P T) {K : St → Prop} {st : St} {a : Act} {t : Nat} {x v : AV} {vx vv : Value} (hs : RepS ρ st a w) (hx : RelV ρ w (Mut ρ st.h) x vx) (hv : RelV ρ w (Mut ρ st.h) v vv) (h : storeA T real st t x v K) :
    Stored P ρ st w K (Instr.storeAt t vx vv) := by
  unfold storeA ty at h
  obtain ⟨hc, h⟩ := bif_true h not_false
  simp only [Bool.and_eq_true, beq_iff_eq] at hc
  obtain ⟨⟨hlen, hflat⟩, hs0⟩ := hc
  have hs0 : (T t).size ≠ 0 := by
    have := Nat.le_of_ble_eq_true hs0
    omega
  have hcr := cells_rel hv (flat_top hflat)
  have hcl := RelVs.length _ _ hcr
  have hvl : vv.cells.size = (T t).size := by rw [← hlen, hcl, Array.length_toList]
  have h1 := flat_all _ _ hflat hcr
  cases x with
  | ptr id off =>
    obtain ⟨b, hb, rfl⟩ := hx
    dsimp only at h
    cases hg : hget st.h id with
    | none => simp [hg] at h
    | some o =>
      cases o with
      | row c l => simp [hg] at h
      | mp k m => simp [hg] at h
      | it k e m c0 => simp [hg] at h
      | sit s p => simp [hg] at h
      | bag s p => simp [hg] at h
      | cells l =>
        simp only [hg] at h
        obtain ⟨hle, h⟩ := bif_true h not_false
        have hle := Nat.le_of_ble_eq_true hle
        obtain ⟨b', cs, e, hb', hcs, hl⟩ := obj_cells hs.rep hg
        obtain rfl : b = b' := by rw [hb] at hb'; simpa using hb'
        have hll := RelVs.length _ _ hl
        have hrun := store_run (P := P) (w := w) (off := off) hT hs0 hvl hcs (by rw [hvl, ← Array.length_toList, ← hll]; exact hle) h1
        refine ⟨_, _, hrun, h, ?_, ?_⟩
        · refine hs.rep.set (hget_mem hg) hb rfl (fun k hk => setRow_old _ _ _ k hk) (fun hk => ⟨b, _, e, hb, setRow_heap w b cs _ e _ hcs, ?_⟩)
          have := setMany_rel hl hcr (off := off) (by rw [hlen]; exact hle)
          exact RelVs.mono (EnvSub.refl ρ) hk _ _ this
        · exact goes_set hs.rep (hget_mem hg) hb rfl (fun k hk => setRow_old _ _ _ k hk) rfl rfl rfl (setRow_size _ _ _)
  | rptr id c i f =>
    obtain ⟨g, n, cap, hg, h0, rfl⟩ := hx
    dsimp only at h
    cases ho : hget st.h id with
    | none => simp [ho] at h
    | some o =>
      cases o with
      | cells l => simp [ho] at h
      | mp k m => simp [ho] at h
      | it k e m c0 => simp [ho] at h
      | sit s p => simp [ho] at h
      | bag s p => simp [ho] at h
      | row c' l =>
        cases hd : dsOf (cellsOf v) with
        | none => simp [ho, hd] at h
        | some ds =>
          simp only [ho, hd] at h
          obtain ⟨⟨rfl, hin⟩, h⟩ := h
          obtain ⟨hle, h⟩ := bif_true h not_false
          have hle := Nat.le_of_ble_eq_true hle
          have hin : 0 ≤ i ∧ i < (l.length : Int) := by simpa [real] using hin
          obtain ⟨v', xs, e, hv', hc, hown, hl, hr⟩ := obj_row hs.rep ho
          rw [hg] at hv'
          obtain rfl := Option.some.inj hv'
          rcases hown.2 with ⟨hv', -⟩ | ⟨g', cap', cur, hv', hb, hgg, hcap, hmx, hsz, ht⟩
          · cases hv'
          · simp only [Value.slice.injEq, Option.some.injEq, Addr.mk.injEq, and_true] at hv'
            obtain ⟨rfl, hnl, rfl⟩ := hv'
            obtain ⟨q, hq⟩ : ∃ q, q = i.toNat := ⟨_, rfl⟩
            have hql : q < l.length := by omega
            have hqc : q * c' + c' ≤ l.length * c' := by
              have : (q + 1) * c' ≤ l.length * c' := Nat.mul_le_mul_right c' (by omega)
              rw [Nat.add_mul, Nat.one_mul] at this
              exact this
            have hlc : l.length * c' ≤ cap * c' := Nat.mul_le_mul_right c' hcap
            have hcv : cellsOf v = ds.map .d := dsOf_map _ _ hd
            have hdl : vv.cells.size = ds.length := by rw [hvl, ← hlen, hcv, List.length_map]
            have hfit : q * c' + f + vv.cells.size ≤ cur.size := by rw [hsz, hdl]; omega
            rw [← hq]
            have hrun := store_run (P := P) (w := w) (off := q * c' + f) hT hs0 hvl hgg hfit h1
            generalize hvs : vv.cells.toList = vs at *
            have hvsl : vs.length = ds.length := by rw [← hvs, Array.length_toList, hdl]
            refine ⟨_, _, hrun, h, ?_, ?_⟩
            · refine hs.rep.set (hget_mem ho) hg rfl (fun k hk => setRow_old _ _ _ k hk) (fun hk => ?_)
              refine ⟨_, (cur.toList.take (q * c' + f) ++ vs ++ cur.toList.drop (q * c' + f + vs.length)).take (l.length * c'), e, hg, hc, ⟨?_, .inr ⟨g, cap, _, ?_, Nat.zero_le _, setRow_heap w g cur _ e _ hgg, ?_, hmx, ?_, ?_⟩⟩, ?_, ?_⟩
              · simp only [List.length_take, List.length_append, List.length_drop, Array.length_toList, real, List.length_set]
                omega
              · simp [real, hnl]
              · simp only [real, List.length_set]; exact hcap
              · simp only [List.size_toArray, List.length_take, List.length_append, List.length_drop, Array.length_toList]
                omega
              · simp [real]
              · intro r hr'
                simp only [real] at hr'
                rw [← hq] at hr'
                rcases List.mem_or_eq_of_mem_set hr' with h2 | h2
                · exact hl r h2
                · have hrl : (l.getD q []).length = c' := hl _ (by rw [List.getD_eq_getElem?_getD, List.getElem?_eq_getElem hql]; exact List.getElem_mem _)
                  rw [h2, List.length_append, List.length_append, List.length_take, List.length_drop, hrl]
                  omega
              · have hold := fun j r hj => RelDs.mono hk _ _ (RelRows.get l _ hr hl j r hj)
                refine RelRows.mk (c := c') _ _ ?_ ?_
                · intro r hr'
                  simp only [real] at hr'
                  rw [← hq] at hr'
                  rcases List.mem_or_eq_of_mem_set hr' with h2 | h2
                  · exact hl r h2
                  · have hrl : (l.getD q []).length = c' := hl _ (by rw [List.getD_eq_getElem?_getD, List.getElem?_eq_getElem hql]; exact List.getElem_mem _)
                    rw [h2, List.length_append, List.length_append, List.length_take, List.length_drop, hrl]
                    omega
                · intro j r hj
                  simp only [real] at hj
                  rw [← hq] at hj
                  have hjl : j < l.length := by
                    have := (List.getElem?_eq_some_iff.1 hj).1
                    simpa using this
                  have hjc : j * c' + c' ≤ l.length * c' := by
                    have : (j + 1) * c' ≤ l.length * c' := Nat.mul_le_mul_right c' (by omega)
                    rw [Nat.add_mul, Nat.one_mul] at this
                    exact this
                  have hxs : xs = cur.toList.take (l.length * c') := ht.symm
                  by_cases hjq : j = q
                  · subst hjq
                    rw [List.getElem?_set_self hql] at hj
                    obtain rfl := (Option.some.inj hj).symm
                    have hgq : l[j]? = some (l.getD j []) := by rw [List.getD_eq_getElem?_getD, List.getElem?_eq_getElem hql]; rfl
                    have h2 := hold j _ hgq
                    have hrl : (l.getD j []).length = c' := hl _ (List.mem_of_getElem? hgq)
                    generalize l.getD j [] = r0 at *
                    have hds : RelDs w (Mut ρ st.h) ds vs := rels_ds ds vs (by rw [← hcv]; exact hcr)
                    have h3 := RelDs.append _ _ _ _ (RelDs.append _ _ _ _ (RelDs.take _ _ h2 f) (RelDs.mono hk _ _ hds)) (RelDs.drop _ _ h2 (f + ds.length))
                    have e1 : ((((cur.toList.take (j * c' + f) ++ vs ++ cur.toList.drop (j * c' + f + vs.length)).take (l.length * c')).drop (j * c')).take c') =
                        (((xs.drop (j * c')).take c').take f ++ vs ++ ((xs.drop (j * c')).take c').drop (f + ds.length)) := by
                      have hcl2 : cur.toList.length = cap * c' := by rw [Array.length_toList]; exact hsz
                      have e0 : ((xs.drop (j * c')).take c').length = c' := by rw [hxs]; simp only [List.length_take, List.length_drop]; omega
                      apply List.ext_getElem?
                      intro k
                      rw [window_get _ _ _ _ _ hjc, splice_get _ _ _ _ (by omega), ← hvsl, splice_get _ _ _ _ (by omega), hxs, window_get _ _ _ _ _ hjc]
                      by_cases k1 : k < f
                      · rw [if_pos (by omega), if_pos (by omega), if_pos k1, if_pos (by omega)]
                      · by_cases k2 : k < f + vs.length
                        · rw [if_pos (by omega), if_neg (by omega), if_pos (by omega), if_neg k1, if_pos k2]
                          congr 1; omega
                        · by_cases k3 : k < c'
                          · rw [if_pos k3, if_neg (by omega), if_neg (by omega), if_neg k1, if_neg k2, if_pos k3]
                          · rw [if_neg k3, if_neg k1, if_neg k2, if_neg k3]
                    rw [e1]
                    exact h3
                  · rw [List.getElem?_set_ne (by omega)] at hj
                    have h2 := hold j r hj
                    have hne : j * c' + c' ≤ q * c' ∨ q * c' + c' ≤ j * c' := by
                      rcases Nat.lt_or_gt_of_ne hjq with h3 | h3
                      · left
                        have : (j + 1) * c' ≤ q * c' := Nat.mul_le_mul_right c' h3
                        rw [Nat.add_mul, Nat.one_mul] at this; exact this
                      · right
                        have : (q + 1) * c' ≤ j * c' := Nat.mul_le_mul_right c' h3
                        rw [Nat.add_mul, Nat.one_mul] at this; exact this
                    have e1 : ((((cur.toList.take (q * c' + f) ++ vs ++ cur.toList.drop (q * c' + f + vs.length)).take (l.length * c')).drop (j * c')).take c') = (xs.drop (j * c')).take c' := by
                      have hcl2 : cur.toList.length = cap * c' := by rw [Array.length_toList]; exact hsz
                      apply List.ext_getElem?
                      intro k
                      rw [window_get _ _ _ _ _ hjc, splice_get _ _ _ _ (by omega), hxs, window_get _ _ _ _ _ hjc]
                      by_cases k3 : k < c'
                      · rw [if_pos k3, if_pos k3]
                        rcases hne with hne | hne
                        · rw [if_pos (by omega)]
                        · rw [if_neg (by omega), if_neg (by omega)]
                      · rw [if_neg k3, if_neg k3]
                    rw [e1]
                    exact h2
            · exact goes_set hs.rep (hget_mem ho) hg rfl (fun k hk => setRow_old _ _ _ k hk) rfl rfl rfl (setRow_size _ _ _)
  | aptr id off n c i f =>
    obtain ⟨b, hb, h0, hin, rfl⟩ := hx
    dsimp only at h
    cases hg : hget st.h id with
    | none => simp [hg] at h
    | some o =>
      cases o with
      | row c l => simp [hg] at h
      | mp k m => simp [hg] at h
      | it k e m c0 => simp [hg] at h
      | sit s p => simp [hg] at h
      | bag s p => simp [hg] at h
      | cells l =>
        simp only [hg] at h
        obtain ⟨hs1, h⟩ := bif_true h not_false
        have hs1 : (T t).size = 1 := by simpa using hs1
        obtain ⟨b', cs, e, hb', hcs, hl⟩ := obj_cells hs.rep hg
        obtain rfl : b = b' := by rw [hb] at hb'; simpa using hb'
        generalize hcv : cellsOf v = cv at *
        match cv, h, hcr, hlen with
        | [y], h, hcr, hlen =>
          dsimp only at h
          cases hse : setA real i y l (off + f) c 0 n with
          | none => simp [hse] at h
          | some l' =>
            simp only [hse] at h
            have he := setA_eq n l l' (off + f) 0 hse
            rw [if_pos (by omega)] at he
            obtain ⟨z, r, hz, hyz, hr⟩ := hcr
            have hr : r = [] := hr
            subst hr
            have hll := RelVs.length _ _ hl
            have hpos : off + i.toNat * c + f < cs.size := by
              rcases Nat.lt_or_ge (off + i.toNat * c + f) cs.size with h2 | h2
              · exact h2
              · exfalso
                obtain ⟨o, ho⟩ := setA_has n l l' (off + f) 0 hse i.toNat (by omega)
                have h3 := (List.getElem?_eq_some_iff.1 ho).1
                rw [hll, Array.length_toList] at h3
                have e1 : off + f + i.toNat * c = off + i.toNat * c + f := by omega
                omega
            have hrun := store_run (P := P) (w := w) (off := off + i.toNat * c + f) hT hs0 hvl hcs (by rw [hvl, hs1]; omega) h1
            have e1 : off + f + (i.toNat - 0) * c = off + i.toNat * c + f := by rw [Nat.sub_zero]; omega
            have e2 : (cs.toList.take (off + i.toNat * c + f) ++ [z] ++ cs.toList.drop (off + i.toNat * c + f + [z].length)) = cs.toList.set (off + i.toNat * c + f) z := by
              rw [List.set_eq_take_append_cons_drop, if_pos (by rw [Array.length_toList]; exact hpos)]
              simp
            rw [e1] at he
            subst he
            rw [hz, e2] at hrun
            refine ⟨_, _, hrun, h, ?_, ?_⟩
            · refine hs.rep.set (hget_mem hg) hb rfl (fun k hk => setRow_old _ _ _ k hk) (fun hk => ⟨b, _, e, hb, setRow_heap w b cs _ e _ hcs, ?_⟩)
              exact RelVs.set (RelV.mono (EnvSub.refl ρ) hk _ _ hyz) _ _ (RelVs.mono (EnvSub.refl ρ) hk _ _ hl) (off + i.toNat * c + f)
            · exact goes_set hs.rep (hget_mem hg) hb rfl (fun k hk => setRow_old _ _ _ k hk) rfl rfl rfl (setRow_size _ _ _)
        | [], h, hcr, hlen => exact h.elim
        | _ :: _ :: _, h, hcr, hlen => exact h.elim
  | _ => exact h.elim
end
end Go.Proofs.Yteakfibolfapiaa.Ab
end
section
namespace Go.Proofs.Yteakfibolfapiaa.Ab
open Go.RowKit Go.Sort
set_option linter.unusedVariables false
set_option linter.unusedSimpArgs false

section
variable {P : Program} {T : Nat → TI} {ρ : Env} {w w' : World} {M : Nat → Prop} {n : Nat} {h : Hp}
/-- A place more, of whatever block is nobody's. -/
theorem Rep.add (r : Rep ρ n h w') {v : Value} {o : Ob} (hk : ∀ id x, (id, x) ∈ h → RelO (upd ρ n v) w' (Mut (upd ρ n v) (h ++ [(n, o)])) id x) (hb : ∀ b, blkIn v b → ¬ Mut ρ h b) (hold : Old ρ w')
    (ho : RelO (upd ρ n v) w' (Mut (upd ρ n v) (h ++ [(n, o)])) n o) : Rep (upd ρ n v) (n + 1) (h ++ [(n, o)]) w' := by
  have hlt := fun id o hm => r.lt (id := id) (o := o) hm
  refine ⟨?_, ?_, ?_, ?_, ?_, hold.as rfl⟩
  · rw [List.map_append, List.nodup_append]
    refine ⟨r.nodup, by simp, ?_⟩
    intro a ha b hb' e
    simp at hb'
    obtain ⟨⟨i, o'⟩, hm, rfl⟩ := List.mem_map.1 ha
    have := hlt i o' hm
    dsimp only at e
    omega
  · intro id o' hm
    rcases List.mem_append.1 hm with hm | hm
    · exact hk id o' hm
    · simp at hm
      obtain ⟨rfl, rfl⟩ := hm
      exact ho
  · intro i o1 j o2 v1 v2 b hi hj h1 h2 b1 b2
    rcases List.mem_append.1 hi with hi' | hi' <;> rcases List.mem_append.1 hj with hj' | hj'
    · have e1 : upd ρ n v i = ρ i := upd_ext ρ n v i (hlt i o1 hi')
      have e2 : upd ρ n v j = ρ j := upd_ext ρ n v j (hlt j o2 hj')
      exact r.inj i o1 j o2 v1 v2 b hi' hj' (e1 ▸ h1) (e2 ▸ h2) b1 b2
    · simp at hj'
      obtain ⟨rfl, rfl⟩ := hj'
      rw [upd_same] at h2
      obtain rfl := Option.some.inj h2
      have e1 : upd ρ j v i = ρ i := upd_ext ρ j v i (hlt i o1 hi')
      exact absurd (.inr ⟨i, o1, v1, hi', e1 ▸ h1, b1⟩) (hb b b2)
    · simp at hi'
      obtain ⟨rfl, rfl⟩ := hi'
      rw [upd_same] at h1
      obtain rfl := Option.some.inj h1
      have e2 : upd ρ i v j = ρ j := upd_ext ρ i v j (hlt j o2 hj')
      exact absurd (.inr ⟨j, o2, v2, hj', e2 ▸ h2, b2⟩) (hb b b1)
    · simp at hi' hj'
      rw [hi'.1, hj'.1]
  · intro id hid
    rw [upd_at, if_neg (by omega)]
    exact r.fresh id (by omega)
  · intro id x v' b hm hv hb' hF
    rcases List.mem_append.1 hm with hm' | hm'
    · exact r.sep id x v' b hm' ((upd_ext ρ n v id (hlt id x hm')) ▸ hv) hb' hF
    · simp at hm'
      obtain ⟨rfl, rfl⟩ := hm'
      rw [upd_same] at hv
      obtain rfl := Option.some.inj hv
      exact hb b hb' (.inl hF)
/-- A place for another one: its block, or a new one. -/
theorem Rep.exch (r : Rep ρ n h w) {id : Nat} {x o : Ob} {v v' : Value} (hx : (id, x) ∈ h) (hv : ρ id = some v) (hw : ∀ k, k < w.heap.size → ¬ blkIn v k → w'.heap[k]? = w.heap[k]?)
    (hb : ∀ b, blkIn v' b → blkIn v b ∨ w.heap.size ≤ b)
    (ho : Keeps w (Mut ρ h) w' (Mut (upd ρ n v') (hdel h id ++ [(n, o)])) → RelO (upd ρ n v') w' (Mut (upd ρ n v') (hdel h id ++ [(n, o)])) n o) :
    Rep (upd ρ n v') (n + 1) (hdel h id ++ [(n, o)]) w' ∧ ∀ b, b < w.heap.size → Loc (upd ρ n v') (hdel h id ++ [(n, o)]) b → Loc ρ h b := by
  have hmb : ∀ b, b < w.heap.size → Loc (upd ρ n v') (hdel h id ++ [(n, o)]) b → Loc ρ h b := by
    intro b hlt m
    rcases loc_new r.fresh m with m | m
    · exact loc_del m
    · rcases hb b m with hb | hb
      · exact ⟨id, x, v, hx, hv, hb⟩
      · omega
  have hk : Keeps w (Mut ρ h) w' (Mut (upd ρ n v') (hdel h id ++ [(n, o)])) := fun b y hy hm => by
    refine ⟨?_, fun m => hm (m.imp (fun f => f) (hmb b (lt_of_get hy)))⟩
    rw [hw b (lt_of_get hy) (fun e => hm (.inr ⟨id, x, v, hx, hv, e⟩))]
    exact hy
  obtain ⟨r1, -⟩ := r.del_turn hx hv hw
  refine ⟨r1.add ?_ ?_ r1.old (ho hk), hmb⟩
  · intro i y hm
    refine (r.objs i y (hdel_sub _ _ _ _ hm)).mono (upd_sub r.fresh v') hk (fun v2 b hv2 hb2 => ?_)
    refine hw b ((r.objs i y (hdel_sub _ _ _ _ hm)).blk hv2 hb2) (fun e => ?_)
    exact hdel_ne r.nodup hm (r.inj i y id x v2 v b (hdel_sub _ _ _ _ hm) hx hv2 hv hb2 e)
  · intro b hb2 m
    rcases hb b hb2 with hb | hb
    · exact del_free r hx hv hb m
    · have := Mut.lt r (mut_del m)
      omega

/-! rows of data as lists of cells -/
theorem RelRows.take {c : Nat} (l : List (List D)) (xs : List Value) (hl : ∀ r ∈ l, r.length = c) (h : RelRows w M l xs) : RelRows w M l (xs.take (l.length * c)) := by
  refine RelRows.mk (c := c) _ _ hl (fun i r hi => ?_)
  have h1 := RelRows.get l xs h hl i r hi
  have hil := (List.getElem?_eq_some_iff.1 hi).1
  have hm : i * c + c ≤ l.length * c := by
    have : (i + 1) * c ≤ l.length * c := Nat.mul_le_mul_right c hil
    rw [Nat.add_mul, Nat.one_mul] at this; exact this
  have e : ((xs.take (l.length * c)).drop (i * c)).take c = (xs.drop (i * c)).take c := by
    apply List.ext_getElem?
    intro k
    rw [window_get _ _ _ _ _ hm, List.getElem?_take, List.getElem?_drop]
  rw [e]
  exact h1
theorem RelRows.len {c : Nat} : ∀ (l : List (List D)) (xs : List Value), (∀ r ∈ l, r.length = c) → RelRows w M l xs → l.length * c ≤ xs.length
  | [], xs, _, _ => by simp
  | r :: rest, xs, hl, ⟨h1, h2⟩ => by
    have hr := hl r (by simp)
    have h3 := RelRows.len rest _ (fun x hx => hl x (by simp [hx])) h2
    have h4 := RelDs.length _ _ h1
    rw [List.length_take] at h4
    rw [List.length_drop] at h3
    rw [List.length_cons, Nat.add_mul]
    by_cases hc : c = 0
    · subst hc; simp
    · omega
theorem RelRows.append {c : Nat} : ∀ (l l' : List (List D)) (xs ys : List Value), (∀ r ∈ l, r.length = c) → xs.length = l.length * c → RelRows w M l xs → RelRows w M l' ys → RelRows w M (l ++ l') (xs ++ ys)
  | [], l', xs, ys, _, hx, _, h' => by
    have : xs = [] := List.eq_nil_of_length_eq_zero (by simpa using hx)
    subst this; exact h'
  | r :: rest, l', xs, ys, hl, hx, ⟨h1, h2⟩, h' => by
    have hr := hl r (by simp)
    rw [List.length_cons, Nat.add_mul] at hx
    refine ⟨?_, ?_⟩
    · rw [List.take_append_of_le_length (by omega)]; exact h1
    · rw [List.drop_append_of_le_length (by omega)]
      exact RelRows.append rest l' _ ys (fun x hx => hl x (by simp [hx])) (by rw [List.length_drop]; omega) h2 h'
theorem RelRows.one {c : Nat} : ∀ (l : List (List D)) (xs : List Value), (∀ r ∈ l, r.length = c ∧ ∀ d ∈ r, flatD d = true) → xs.length = l.length * c → RelRows w M l xs → ∀ u ∈ xs, u.oneCell' = true
  | [], xs, _, hx, _, u, hu => by
    have : xs = [] := List.eq_nil_of_length_eq_zero (by simpa using hx)
    subst this; cases hu
  | r :: rest, xs, hl, hx, ⟨h1, h2⟩, u, hu => by
    obtain ⟨hr, hf⟩ := hl r (by simp)
    rw [List.length_cons, Nat.add_mul] at hx
    rw [← List.take_append_drop r.length xs, List.mem_append] at hu
    rcases hu with hu | hu
    · have key : ∀ (r : List D) (ys : List Value), (∀ d ∈ r, flatD d = true) → RelDs w M r ys → ∀ u ∈ ys, u.oneCell' = true := by
        intro r
        induction r with
        | nil => intro ys _ h u hu; rw [show ys = [] from h] at hu; cases hu
        | cons d ds ih =>
          rintro ys hf ⟨v, rest, rfl, h1, h2⟩ u hu
          rcases List.mem_cons.1 hu with rfl | hu
          · exact RelD.oneCell h1 (fun l e => by have := hf d (by simp); rw [e] at this; simp [flatD] at this)
          · exact ih rest (fun d hd => hf d (by simp [hd])) h2 u hu
      exact key r _ hf h1 u hu
    · exact RelRows.one rest _ (fun x hx => hl x (by simp [hx])) (by rw [List.length_drop]; omega) h2 u hu
theorem s2b_rows (s : List UInt8) : RelRows w M (real.s2b s) (byteCells ⟨s.toArray⟩) := by
  have : byteCells ⟨s.toArray⟩ = s.map fun b => Value.int .u8 b.toNat := by simp [byteCells]
  rw [this]
  simp only [real]
  induction s with
  | nil => exact trivial
  | cons b r ih => exact ⟨⟨_, [], rfl, rfl, rfl⟩, ih (by simp [byteCells])⟩

/-- append, of whatever source, onto a row of the call's own. -/
theorem append_run {t tx ty e : TypeId} {i : TypeInfo} {z : Value} {ty0 : TypeId} {v : Value} {k : Nat} {xs : List Value} (ht : P.underlying t = some (.slice e)) (hi : P.info? e = some i) (hz : i.zero = some z) (hzs : z.cells.size = i.size) (hc : 0 < i.size)
    (hown : w.ownsRow 0 ty0 i.size v k xs) {x : Value} {m : Nat} {news : List Value} (hs : Src P i.size tx x m news w) (h63 : k + m ≤ maxLen) (hb : (k + m) * i.bytes ≤ 140737488355328) :
    ∃ v' w' ty', (Builtin.append_ #[t, tx] ty #[v, x]).run P w = .ok v' w' ∧ w'.ownsRow 0 ty' i.size v' (k + m) (xs ++ news) ∧ w.grownBy w' v.ownBlock ∧ (∃ a q cap, v' = .slice a q cap) ∧
      (blkOf v' = blkOf v ∨ ∀ b, blkOf v' = some b → w.heap.size ≤ b) := by
  have hsmall : k + m ≤ 9223372036854775807 := by simp only [maxLen] at h63; omega
  have hlen : (xs ++ news).length = (k + m) * i.size := by rw [List.length_append, hown.1, hs.newsLen, Nat.add_mul]
  have grown : ∀ (old : Nat), old < k + m → ∀ (row : Option Nat),
      (w.drew.alloc (.cells ((xs ++ news).toArray ++ Builtin.zeroCells z.cells (grownCap w (k + m) old e - (k + m))) e)).ownsRow 0 e i.size
        (.slice (some ⟨w.heap.size, 0, none⟩) (k + m) (grownCap w (k + m) old e)) (k + m) (xs ++ news) ∧
      w.grownBy (w.drew.alloc (.cells ((xs ++ news).toArray ++ Builtin.zeroCells z.cells (grownCap w (k + m) old e - (k + m))) e)) row := by
    intro old ho row
    have hge := grownCap_ge w (k + m) old e
    have hcm : grownCap w (k + m) old e ≤ maxLen := grownCap_le_maxLen w (k + m) old e h63
    refine ⟨⟨hlen, .inr ⟨w.heap.size, _, _, rfl, Nat.zero_le _, heap_alloc_new w.drew _, hge, hcm, ?_, ?_⟩⟩, ⟨rfl, rfl, rfl, by simp, fun k hk _ => Below.heap_alloc w.drew _ k hk⟩⟩
    · simp only [Array.size_append, List.size_toArray, size_zeroCells, hzs, hlen, ← Nat.add_mul]
      congr 1
      omega
    · simp only [Array.toList_append]
      rw [← hlen]
      exact List.take_left
  rcases hown.2 with ⟨rfl, rfl⟩ | ⟨g, cap, cur, rfl, hbg, hg, hnc, hcm, hcs, htake⟩
  · have hx : xs = [] := List.eq_nil_of_length_eq_zero (by simpa using hown.1)
    subst hx
    by_cases hm : m = 0
    · subst hm
      have hn : news = [] := List.eq_nil_of_length_eq_zero (by simpa using hs.newsLen)
      subst hn
      exact ⟨.slice none 0 0, w, e, run_append_nothing w t tx ty e i ht hi none 0 0 (Nat.le_refl _) x hs, World.ownsRow_nil w 0 e i.size, ⟨rfl, rfl, rfl, Nat.le_refl _, fun _ _ _ => rfl⟩, ⟨_, _, _, rfl⟩, .inl rfl⟩
    · have hr := run_append_grow_src (P := P) w t tx ty e i z ht hi hz none 0 0 [] (by simp [Builtin.firstCells]) x m news hs (by omega) (by omega) (growslice_fits (by omega) (by simpa using hb))
      have hgr := grown 0 (by omega) (Value.ownBlock (.slice none 0 0))
      exact ⟨_, _, _, hr, hgr.1, hgr.2, ⟨_, _, _, rfl⟩, .inr (fun b hb => by simp [blkOf] at hb; omega)⟩
  · by_cases hroom : k + m ≤ cap
    · have hfit : k * i.size + news.length ≤ cur.size := by rw [hs.newsLen, hcs, ← Nat.add_mul]; exact Nat.mul_le_mul_right _ hroom
      have hst := run_storeCells_at P g (k * i.size) ty0 news 0 cur w hg (by simpa using hfit) hs.one
      simp only [Nat.add_zero] at hst
      have hr : (Builtin.append_ #[t, tx] ty #[.slice (some ⟨g, 0, none⟩) k cap, x]).run P w = .ok (.slice (some ⟨g, 0, none⟩) (k + m) cap) (w.setRow g (cur.toList.take (k * i.size) ++ news ++ cur.toList.drop (k * i.size + news.length)).toArray) := by
        rcases hs.kind with ⟨e', hk⟩ | hk <;> simp [Builtin.append_, run_underlying ht, run_underlying hk, sizeOf, typeInfo, hi, hs.len, hroom, hs.cells, Addr.add_lit, hst]
      refine ⟨_, _, ty0, hr, ⟨hlen, .inr ⟨g, cap, _, rfl, hbg, setRow_heap w g cur _ ty0 _ hg, hroom, hcm, ?_, ?_⟩⟩, ⟨rfl, rfl, rfl, by simp, fun k _ hk => setRow_other w g k _ (fun e => hk (by simp [Value.ownBlock, e]))⟩, ⟨_, _, _, rfl⟩, .inl rfl⟩
      · simp only [List.size_toArray, List.length_append, List.length_take, List.length_drop, Array.length_toList]
        omega
      · rw [htake, ← hlen]
        exact List.take_left
    · have holds : ∀ j u, xs[j]? = some u → w.cell? ((⟨g, 0, none⟩ : Addr).add j) = some u := hown.cells (g := g) rfl
      have hr := run_append_grow_src (P := P) w t tx ty e i z ht hi hz (some ⟨g, 0, none⟩) k cap xs (run_firstCells_some w.drew i.size k ⟨g, 0, none⟩ k cap xs hown.1 (by simpa using holds)) x m news hs (by omega) (by omega) (growslice_fits (by omega) hb)
      have hgr := grown cap (by omega) (Value.ownBlock (.slice (some ⟨g, 0, none⟩) k cap))
      exact ⟨_, _, _, hr, hgr.1, hgr.2, ⟨_, _, _, rfl⟩, .inr (fun b hb => by simp [blkOf] at hb; omega)⟩
end
end Go.Proofs.Yteakfibolfapiaa.Ab
end
