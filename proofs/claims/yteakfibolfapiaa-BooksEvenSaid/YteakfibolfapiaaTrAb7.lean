/- How a state goes on: worlds that grow, new places, places that are written, given up, exchanged. -/
import Derived.Test.YteakfibolfapiaaTrAb6
namespace Go.Proofs.Yteakfibolfapiaa.Ab
open Go.RowKit Go.Sort
set_option linter.unusedVariables false
set_option linter.unusedSimpArgs false

section
variable {P : Program} {ρ : Env} {w w' : World} {n : Nat} {h : Hp}
/-- All that is there stays. -/
def Grows (w w' : World) : Prop := ∀ (b : Nat) (o : Obj), w.heap[b]? = some o → w'.heap[b]? = some o
theorem Grows.keeps {M : Nat → Prop} (g : Grows w w') : Keeps w M w' M := fun b o hb hm => ⟨g b o hb, hm⟩
theorem ownsRow_of_block {base size k : Nat} {e : TypeId} {v : Value} {xs : List Value} (hb : ∀ b, blkOf v = some b → w'.heap[b]? = w.heap[b]?) (r : w.ownsRow base e size v k xs) : w'.ownsRow base e size v k xs := by
  refine ⟨r.1, ?_⟩
  rcases r.2 with h0 | ⟨g, cap, cur, hv, hb0, hg, rest⟩
  · exact .inl h0
  · exact .inr ⟨g, cap, cur, hv, hb0, by rw [hb g (by rw [hv]; rfl)]; exact hg, rest⟩
theorem ownsRow_blk {base size k b : Nat} {e : TypeId} {v : Value} {xs : List Value} (r : w.ownsRow base e size v k xs) (hb : blkOf v = some b) : ∃ cs fz, w.heap[b]? = some (.cells cs e fz) := by
  rcases r.2 with ⟨h0, -⟩ | ⟨g, cap, cur, hv, hb0, hg, rest⟩
  · rw [h0] at hb; cases hb
  · rw [hv] at hb
    simp [blkOf] at hb
    subst hb
    exact ⟨_, _, hg⟩
theorem ownsRow_in {base size k b : Nat} {e : TypeId} {v : Value} {xs : List Value} (r : w.ownsRow base e size v k xs) (hb : blkIn v b) : blkOf v = some b := by
  rcases r.2 with ⟨rfl, -⟩ | ⟨g, cap, cur, rfl, -⟩
  · exact hb
  · exact hb
theorem in_of_row {base size k b : Nat} {e : TypeId} {v : Value} {xs : List Value} (r : w.ownsRow base e size v k xs) (hb : blkOf v = some b) : blkIn v b := by
  rcases r.2 with ⟨rfl, -⟩ | ⟨g, cap, cur, rfl, -⟩
  · exact hb
  · exact hb
theorem RelO.blk {M : Nat → Prop} {id b : Nat} {o : Ob} {v : Value} (r : RelO ρ w M id o) (hv : ρ id = some v) (hb : blkIn v b) : b < w.heap.size := by
  cases o with
  | cells l =>
    obtain ⟨b', cs, ty, h1, h2, -⟩ := r
    rw [hv] at h1
    obtain rfl := Option.some.inj h1
    simp [blkIn, blkOf] at hb
    subst hb
    exact lt_of_get h2
  | row c l =>
    obtain ⟨v', xs, ty, h1, -, h2, -⟩ := r
    rw [hv] at h1
    obtain rfl := Option.some.inj h1
    obtain ⟨cs, fz, h3⟩ := ownsRow_blk h2 (ownsRow_in h2 hb)
    exact lt_of_get h3
  | mp k l =>
    obtain ⟨r', h1, h2⟩ := r
    rw [hv] at h1
    obtain rfl := Option.some.inj h1
    obtain rfl := Option.some.inj (show some r' = some b from hb)
    exact h2.lt
  | it k e l c0 =>
    obtain ⟨b', r', h1, h2, -⟩ := r
    rw [hv] at h1
    obtain rfl := Option.some.inj h1
    obtain rfl := Option.some.inj (show some b' = some b from hb)
    exact h2.it.lt
  | sit s p =>
    obtain ⟨b', h1, -, h2⟩ := r
    rw [hv] at h1
    obtain rfl := Option.some.inj h1
    obtain rfl := Option.some.inj (show some b' = some b from hb)
    exact lt_of_get h2
  | bag c l =>
    obtain ⟨vs, h1, h2, -, h3, -⟩ := r
    rw [hv] at h1
    obtain rfl := Option.some.inj h1
    obtain ⟨u, hu, hb⟩ := hb
    rw [h2] at hu
    obtain ⟨p, hp, rfl⟩ := List.mem_map.1 hu
    obtain ⟨xs, ty, h4, -⟩ := h3 p hp
    obtain ⟨cs, fz, h5⟩ := ownsRow_blk h4 hb
    exact lt_of_get h5
theorem RelO.some {M : Nat → Prop} {id : Nat} {o : Ob} (r : RelO ρ w M id o) : ∃ v, ρ id = Option.some v := by
  cases o with
  | cells l => obtain ⟨b', cs, ty, h1, h2, -⟩ := r; exact ⟨_, h1⟩
  | row c l => obtain ⟨v', xs, ty, h1, -, h2, -⟩ := r; exact ⟨_, h1⟩
  | mp k l => obtain ⟨r', h1, -⟩ := r; exact ⟨_, h1⟩
  | it k e l c0 => obtain ⟨b, r', h1, -⟩ := r; exact ⟨_, h1⟩
  | sit s p => obtain ⟨b, h1, -⟩ := r; exact ⟨_, h1⟩
  | bag c l => obtain ⟨vs, h1, -⟩ := r; exact ⟨_, h1⟩
theorem RelO.mono {ρ' : Env} {M M' : Nat → Prop} {id : Nat} {o : Ob} (hs : EnvSub ρ ρ') (hk : Keeps w M w' M') (hb : ∀ v b, ρ id = Option.some v → blkIn v b → w'.heap[b]? = w.heap[b]?) (r : RelO ρ w M id o) : RelO ρ' w' M' id o := by
  cases o with
  | cells l =>
    obtain ⟨b, cs, ty, h1, h2, h3⟩ := r
    exact ⟨b, cs, ty, hs _ _ h1, by rw [hb _ b h1 rfl]; exact h2, RelVs.mono hs hk _ _ h3⟩
  | row c l =>
    obtain ⟨v, xs, ty, h1, hc, h2, h3, h4⟩ := r
    exact ⟨v, xs, ty, hs _ _ h1, hc, ownsRow_of_block (fun b e => hb v b h1 (in_of_row h2 e)) h2, h3, RelRows.mono hk _ _ h4⟩
  | mp k l =>
    obtain ⟨r', h1, h2⟩ := r
    exact ⟨r', hs _ _ h1, h2.move fun o ho => by rw [hb _ r' h1 rfl]; exact ho⟩
  | it k e l c0 =>
    obtain ⟨b, r', h1, h2, h3⟩ := r
    have hb' := hb _ b h1 rfl
    obtain ⟨E, cl, seen, g1, g2, g3⟩ := h2
    obtain ⟨k1, k2⟩ := hk r' _ g1 h3
    exact ⟨b, r', hs _ _ h1, ⟨E, cl, seen, k1, by rw [hb']; exact g2, g3⟩, k2⟩
  | sit s p =>
    obtain ⟨b, h1, h2, h3⟩ := r
    exact ⟨b, hs _ _ h1, h2, by rw [hb _ b h1 rfl]; exact h3⟩
  | bag c l =>
    obtain ⟨vs, h1, h2, h3, h4, h5⟩ := r
    refine ⟨vs, hs _ _ h1, h2, h3, fun p hp => ?_, h5⟩
    obtain ⟨xs, ty, g1, g2, g3⟩ := h4 p hp
    exact ⟨xs, ty, ownsRow_of_block (fun b e => hb _ b h1 ⟨p.1, by rw [h2]; exact List.mem_map.2 ⟨p, hp, rfl⟩, e⟩) g1, g2, RelRows.mono hk _ _ g3⟩
theorem Rep.lt (r : Rep ρ n h w) {id : Nat} {o : Ob} (hm : (id, o) ∈ h) : id < n := by
  rcases Nat.lt_or_ge id n with hl | hl
  · exact hl
  · obtain ⟨v, hv⟩ := (r.objs id o hm).some
    rw [r.fresh id hl] at hv
    cases hv
theorem Loc.lt (r : Rep ρ n h w) {b : Nat} (hm : Loc ρ h b) : b < w.heap.size := by
  obtain ⟨id, o, v, h1, h2, h3⟩ := hm
  exact (r.objs id o h1).blk h2 h3
theorem Grows.same (g : Grows w w') {F : Nat → Prop} (b : Nat) (hb : b < w.heap.size) (_ : F b) : w'.heap[b]? = w.heap[b]? := by
  have : w.heap[b]? = some w.heap[b] := Array.getElem?_eq_getElem hb
  rw [this]; exact g b _ this
theorem Mut.lt (r : Rep ρ n h w) {b : Nat} (hm : Mut ρ h b) : b < w.heap.size := hm.elim (r.old.lt b) (Loc.lt r)
theorem Grows.size (g : Grows w w') : w.heap.size ≤ w'.heap.size := by
  rcases Nat.lt_or_ge w'.heap.size w.heap.size with hl | hl
  · have := g w'.heap.size _ (Array.getElem?_eq_getElem hl)
    rw [Array.getElem?_eq_none (Nat.le_refl _)] at this
    cases this
  · exact hl
theorem Rep.grow (g : Grows w w') (r : Rep ρ n h w) : Rep ρ n h w' where
  nodup := r.nodup
  objs id o hm := (r.objs id o hm).mono (EnvSub.refl ρ) g.keeps (fun v b hv hb => by
    have hl := (r.objs id o hm).blk hv hb
    have : w.heap[b]? = some w.heap[b] := Array.getElem?_eq_getElem hl
    rw [this]; exact g b _ this)
  inj := r.inj
  fresh := r.fresh
  sep := r.sep
  old := r.old.go (g.same)
theorem goes_grow {n0 : Nat} (g : Grows w w') (ho : w'.os = w.os) (ht : w'.tape = w.tape) (hp : w'.output = w.output) (hs : w.heap.size ≤ w'.heap.size) : Goes n0 ρ h w ρ h w' :=
  ⟨ho, ht, hp, hs, fun b hb _ => by
    have : w.heap[b]? = some w.heap[b] := Array.getElem?_eq_getElem hb
    rw [this]; exact g b _ this, fun _ _ m => m, fun _ _ => rfl, rfl⟩
theorem grows_alloc (w : World) (o : Obj) : Grows w (w.alloc o) := fun b x hb => Tr.blk_old hb
theorem grows_drew (w : World) : Grows w w.drew := fun b x hb => hb
theorem Grows.refl (w : World) : Grows w w := fun _ _ h => h
theorem Grows.trans {w1 w2 w3 : World} (g : Grows w1 w2) (k : Grows w2 w3) : Grows w1 w3 := fun b o h => k b o (g b o h)
def upd (ρ : Env) (n : Nat) (v : Value) : Env := ⟨fun i => if i = n then some v else ρ i, ρ.F⟩
theorem upd_at (ρ : Env) (n : Nat) (v : Value) (i : Nat) : upd ρ n v i = if i = n then some v else ρ i := rfl
theorem upd_same (ρ : Env) (n : Nat) (v : Value) : upd ρ n v n = some v := by simp [upd]
theorem upd_sub (hf : ∀ id, n ≤ id → ρ id = none) (v : Value) : EnvSub ρ (upd ρ n v) := fun id x hx => by
  rw [upd_at]
  split
  · rename_i e; subst e; rw [hf id (Nat.le_refl _)] at hx; cases hx
  · exact hx
theorem upd_ext (ρ : Env) (n : Nat) (v : Value) : ∀ id, id < n → upd ρ n v id = ρ id := fun id h => by rw [upd_at, if_neg (by omega)]
theorem loc_new {v : Value} {o : Ob} (hf : ∀ id, n ≤ id → ρ id = none) {b : Nat} (hm : Loc (upd ρ n v) (h ++ [(n, o)]) b) : Loc ρ h b ∨ blkIn v b := by
  obtain ⟨id, o', v', h1, h2, h3⟩ := hm
  rcases List.mem_append.1 h1 with h1 | h1
  · by_cases e : id = n
    · subst e
      rw [upd_same] at h2
      obtain rfl := Option.some.inj h2
      exact .inr h3
    · rw [upd_at, if_neg e] at h2
      exact .inl ⟨id, o', v', h1, h2, h3⟩
  · simp at h1
    obtain ⟨rfl, rfl⟩ := h1
    rw [upd_same] at h2
    obtain rfl := Option.some.inj h2
    exact .inr h3
theorem mut_new {v : Value} {o : Ob} (hf : ∀ id, n ≤ id → ρ id = none) {b : Nat} (hm : Mut (upd ρ n v) (h ++ [(n, o)]) b) : Mut ρ h b ∨ blkIn v b :=
  hm.elim (fun f => .inl (.inl f)) (fun m => (loc_new hf m).imp .inr id)
/-- A new place. -/
theorem Rep.new (r : Rep ρ n h w) (g : Grows w w') {v : Value} {o : Ob} (hb : ∀ b, blkIn v b → w.heap.size ≤ b)
    (ho : Keeps w (Mut ρ h) w' (Mut (upd ρ n v) (h ++ [(n, o)])) → RelO (upd ρ n v) w' (Mut (upd ρ n v) (h ++ [(n, o)])) n o) : Rep (upd ρ n v) (n + 1) (h ++ [(n, o)]) w' := by
  have hk : Keeps w (Mut ρ h) w' (Mut (upd ρ n v) (h ++ [(n, o)])) := fun b x hx hm => ⟨g b x hx, fun m => by
    rcases mut_new r.fresh m with m | m
    · exact hm m
    · have := hb b m; have := lt_of_get hx; omega⟩
  have hlt := fun id o hm => r.lt (id := id) (o := o) hm
  refine ⟨?_, ?_, ?_, ?_, ?_, (r.old.go g.same).as rfl⟩
  · rw [List.map_append, List.nodup_append]
    refine ⟨r.nodup, by simp, ?_⟩
    intro a ha b hb' e
    simp at hb'
    obtain ⟨⟨i, o'⟩, hm, rfl⟩ := List.mem_map.1 ha
    have := hlt i o' hm
    dsimp only at e
    omega
  · intro id o' hm
    rcases List.mem_append.1 hm with hm | hm
    · refine (r.objs id o' hm).mono (upd_sub r.fresh v) hk (fun v' b hv hb' => ?_)
      have hl := (r.objs id o' hm).blk hv hb'
      have : w.heap[b]? = some w.heap[b] := Array.getElem?_eq_getElem hl
      rw [this]; exact g b _ this
    · simp at hm
      obtain ⟨rfl, rfl⟩ := hm
      exact ho hk
  · intro i o1 j o2 v1 v2 b hi hj h1 h2 b1 b2
    rcases List.mem_append.1 hi with hi' | hi' <;> rcases List.mem_append.1 hj with hj' | hj'
    · have e1 : upd ρ n v i = ρ i := upd_ext ρ n v i (hlt i o1 hi')
      have e2 : upd ρ n v j = ρ j := upd_ext ρ n v j (hlt j o2 hj')
      exact r.inj i o1 j o2 v1 v2 b hi' hj' (e1 ▸ h1) (e2 ▸ h2) b1 b2
    · simp at hj'
      obtain ⟨rfl, rfl⟩ := hj'
      rw [upd_same] at h2
      obtain rfl := Option.some.inj h2
      have e1 : upd ρ j v i = ρ i := upd_ext ρ j v i (hlt i o1 hi')
      have := (r.objs i o1 hi').blk (e1 ▸ h1) b1
      have := hb b b2
      omega
    · simp at hi'
      obtain ⟨rfl, rfl⟩ := hi'
      rw [upd_same] at h1
      obtain rfl := Option.some.inj h1
      have e2 : upd ρ i v j = ρ j := upd_ext ρ i v j (hlt j o2 hj')
      have := (r.objs j o2 hj').blk (e2 ▸ h2) b2
      have := hb b b1
      omega
    · simp at hi' hj'
      rw [hi'.1, hj'.1]
  · intro id hid
    rw [upd_at, if_neg (by omega)]
    exact r.fresh id (by omega)
  · intro id x v' b hm hv hb' hF
    rcases List.mem_append.1 hm with hm' | hm'
    · exact r.sep id x v' b hm' ((upd_ext ρ n v id (hlt id x hm')) ▸ hv) hb' hF
    · simp at hm'
      obtain ⟨rfl, rfl⟩ := hm'
      rw [upd_same] at hv
      obtain rfl := Option.some.inj hv
      have h1 := hb b hb'
      have h2 := r.old.lt b hF
      omega
theorem goes_new (r : Rep ρ n h w) (g : Grows w w') {v : Value} {o : Ob} (hb : ∀ b, blkIn v b → w.heap.size ≤ b) (hos : w'.os = w.os) (ht : w'.tape = w.tape) (hp : w'.output = w.output) (hs : w.heap.size ≤ w'.heap.size) :
    Goes n ρ h w (upd ρ n v) (h ++ [(n, o)]) w' :=
  ⟨hos, ht, hp, hs, fun b hb' _ => by
    have : w.heap[b]? = some w.heap[b] := Array.getElem?_eq_getElem hb'
    rw [this]; exact g b _ this, fun b hb' m => by
      rcases loc_new r.fresh m with m | m
      · exact m
      · have := hb b m; omega, upd_ext ρ n v, rfl⟩

/-! a place that is written -/
theorem hset_ids : ∀ (h : Hp) (id : Nat) (o : Ob), (hset h id o).map (·.1) = h.map (·.1)
  | [], _, _ => rfl
  | (i, x) :: r, id, o => by
    simp only [hset]
    cases hb : i == id with
    | true => simp
    | false => simp [hset_ids r id o]
theorem hset_mem {h : Hp} (hn : (h.map (·.1)).Nodup) {id : Nat} {o : Ob} : ∀ {i : Nat} {x : Ob}, (i, x) ∈ hset h id o → (i = id ∧ x = o) ∨ (i ≠ id ∧ (i, x) ∈ h) := by
  induction h with
  | nil => intro i x hm; simp [hset] at hm
  | cons y r ih =>
    obtain ⟨j, z⟩ := y
    rw [List.map_cons, List.nodup_cons] at hn
    intro i x hm
    simp only [hset] at hm
    cases hb : j == id with
    | true =>
      have e := eq_of_beq hb
      subst e
      simp only [hb, cond_true, List.mem_cons, Prod.mk.injEq] at hm
      rcases hm with ⟨rfl, rfl⟩ | hm
      · exact .inl ⟨rfl, rfl⟩
      · refine .inr ⟨fun e => hn.1 (by rw [← e]; exact List.mem_map.2 ⟨_, hm, rfl⟩), by simp [hm]⟩
    | false =>
      simp only [hb, cond_false, List.mem_cons, Prod.mk.injEq] at hm
      rcases hm with ⟨rfl, rfl⟩ | hm
      · exact .inr ⟨fun e => by rw [e] at hb; simp at hb, by simp⟩
      · rcases ih hn.2 hm with h1 | ⟨h1, h2⟩
        · exact .inl h1
        · exact .inr ⟨h1, by simp [h2]⟩
theorem hset_has {h : Hp} {id : Nat} {o x : Ob} (hm : (id, x) ∈ h) : ∃ y, (id, y) ∈ hset h id o := by
  have : id ∈ (hset h id o).map (·.1) := by rw [hset_ids]; exact List.mem_map.2 ⟨_, hm, rfl⟩
  obtain ⟨⟨i, y⟩, h1, rfl⟩ := List.mem_map.1 this
  exact ⟨y, h1⟩
theorem hset_old {h : Hp} {id i : Nat} {o x : Ob} (hm : (i, x) ∈ h) : ∃ y, (i, y) ∈ hset h id o := by
  have : i ∈ (hset h id o).map (·.1) := by rw [hset_ids]; exact List.mem_map.2 ⟨_, hm, rfl⟩
  obtain ⟨⟨j, y⟩, h1, rfl⟩ := List.mem_map.1 this
  exact ⟨y, h1⟩
theorem loc_set (hn : (h.map (·.1)).Nodup) {id : Nat} {o x : Ob} (hx : (id, x) ∈ h) {b : Nat} : Loc ρ (hset h id o) b ↔ Loc ρ h b := by
  constructor
  · rintro ⟨i, y, v, h1, h2, h3⟩
    rcases hset_mem hn h1 with ⟨rfl, rfl⟩ | ⟨-, h4⟩
    · exact ⟨i, x, v, hx, h2, h3⟩
    · exact ⟨i, y, v, h4, h2, h3⟩
  · rintro ⟨i, y, v, h1, h2, h3⟩
    obtain ⟨z, hz⟩ := hset_old (id := id) (o := o) h1
    exact ⟨i, z, v, hz, h2, h3⟩
theorem mut_set (hn : (h.map (·.1)).Nodup) {id : Nat} {o x : Ob} (hx : (id, x) ∈ h) {b : Nat} : Mut ρ (hset h id o) b ↔ Mut ρ h b := or_congr Iff.rfl (loc_set hn hx)
theorem Rep.set (r : Rep ρ n h w) {id b : Nat} {o x : Ob} {v : Value} (hx : (id, x) ∈ h) (hv : ρ id = some v) (hb : blkIn v b) (hw : ∀ k, k ≠ b → w'.heap[k]? = w.heap[k]?)
    (ho : Keeps w (Mut ρ h) w' (Mut ρ (hset h id o)) → RelO ρ w' (Mut ρ (hset h id o)) id o) : Rep ρ n (hset h id o) w' := by
  have hk : Keeps w (Mut ρ h) w' (Mut ρ (hset h id o)) := fun k y hy hm => by
    refine ⟨?_, fun m => hm ((mut_set r.nodup hx).1 m)⟩
    rw [hw k (fun e => hm (.inr ⟨id, x, v, hx, hv, by rw [e]; exact hb⟩))]
    exact hy
  refine ⟨by rw [hset_ids]; exact r.nodup, ?_, ?_, r.fresh, ?_, r.old.go (fun b' _ hF => hw b' (fun e => r.sep id x v b hx hv hb (e ▸ hF)))⟩
  · intro i y hm
    rcases hset_mem r.nodup hm with ⟨rfl, rfl⟩ | ⟨h1, h2⟩
    · exact ho hk
    · refine (r.objs i y h2).mono (EnvSub.refl ρ) hk (fun v' b' hv' hb' => hw b' (fun e => ?_))
      subst e
      exact h1 (r.inj i y id x v' v b' h2 hx hv' hv hb' hb)
  · intro i o1 j o2 v1 v2 b hi hj h1 h2 b1 b2
    obtain ⟨y1, hy1⟩ : ∃ y, (i, y) ∈ h := by
      rcases hset_mem r.nodup hi with ⟨rfl, rfl⟩ | ⟨-, h4⟩
      · exact ⟨x, hx⟩
      · exact ⟨_, h4⟩
    obtain ⟨y2, hy2⟩ : ∃ y, (j, y) ∈ h := by
      rcases hset_mem r.nodup hj with ⟨rfl, rfl⟩ | ⟨-, h4⟩
      · exact ⟨x, hx⟩
      · exact ⟨_, h4⟩
    exact r.inj i y1 j y2 v1 v2 b hy1 hy2 h1 h2 b1 b2
  · intro i y v' b' hm hv' hb' hF
    rcases hset_mem r.nodup hm with ⟨rfl, rfl⟩ | ⟨-, h2⟩
    · exact r.sep i x v' b' hx hv' hb' hF
    · exact r.sep i y v' b' h2 hv' hb' hF
theorem goes_set {n0 : Nat} (r : Rep ρ n h w) {id b : Nat} {o x : Ob} {v : Value} (hx : (id, x) ∈ h) (hv : ρ id = some v) (hb : blkIn v b) (hw : ∀ k, k ≠ b → w'.heap[k]? = w.heap[k]?) (hos : w'.os = w.os) (ht : w'.tape = w.tape) (hp : w'.output = w.output) (hs : w'.heap.size = w.heap.size) :
    Goes n0 ρ h w ρ (hset h id o) w' :=
  ⟨hos, ht, hp, by omega, fun k _ hm => hw k (fun e => hm ⟨id, x, v, hx, hv, by rw [e]; exact hb⟩), fun k _ m => (loc_set r.nodup hx).1 m, fun _ _ => rfl, rfl⟩

/-! a place that is given up -/
theorem hdel_sub : ∀ (h : Hp) (id : Nat) (i : Nat) (x : Ob), (i, x) ∈ hdel h id → (i, x) ∈ h
  | [], _, _, _, hm => by simp [hdel] at hm
  | (j, y) :: r, id, i, x, hm => by
    simp only [hdel] at hm
    cases hb : j == id with
    | true => simp only [hb, cond_true] at hm; simp [hm]
    | false =>
      simp only [hb, cond_false, List.mem_cons] at hm
      rcases hm with hm | hm
      · simp [hm]
      · simp [hdel_sub r id i x hm]
theorem hdel_sublist : ∀ (h : Hp) (id : Nat), (hdel h id).Sublist h
  | [], _ => List.Sublist.slnil
  | (j, y) :: r, id => by
    simp only [hdel]
    cases hb : j == id with
    | true => exact List.sublist_cons_self _ _
    | false => exact (hdel_sublist r id).cons_cons _
theorem hdel_ne {h : Hp} (hn : (h.map (·.1)).Nodup) {id : Nat} {x : Ob} : ∀ {i : Nat}, (i, x) ∈ hdel h id → i ≠ id := by
  induction h with
  | nil => intro i hm; simp [hdel] at hm
  | cons y r ih =>
    obtain ⟨j, z⟩ := y
    rw [List.map_cons, List.nodup_cons] at hn
    intro i hm e
    subst e
    simp only [hdel] at hm
    cases hb : j == i with
    | true =>
      have := eq_of_beq hb
      subst this
      simp only [hb, cond_true] at hm
      exact hn.1 (List.mem_map.2 ⟨_, hm, rfl⟩)
    | false =>
      simp only [hb, cond_false, List.mem_cons, Prod.mk.injEq] at hm
      rcases hm with ⟨rfl, -⟩ | hm
      · simp at hb
      · exact ih hn.2 hm rfl
theorem loc_del {id b : Nat} (m : Loc ρ (hdel h id) b) : Loc ρ h b := by
  obtain ⟨i, o, v, h1, h2, h3⟩ := m
  exact ⟨i, o, v, hdel_sub _ _ _ _ h1, h2, h3⟩
theorem mut_del {id b : Nat} (m : Mut ρ (hdel h id) b) : Mut ρ h b := m.imp (fun f => f) loc_del
theorem keeps_del (id : Nat) : Keeps w (Mut ρ h) w (Mut ρ (hdel h id)) := fun b o hb hm => ⟨hb, fun m => hm (mut_del m)⟩
theorem Rep.del (r : Rep ρ n h w) (id : Nat) : Rep ρ n (hdel h id) w where
  nodup := r.nodup.sublist ((hdel_sublist h id).map _)
  objs i o hm := (r.objs i o (hdel_sub _ _ _ _ hm)).mono (EnvSub.refl ρ) (keeps_del id) (fun _ _ _ _ => rfl)
  inj i o j o' v v' b hi hj := r.inj i o j o' v v' b (hdel_sub _ _ _ _ hi) (hdel_sub _ _ _ _ hj)
  fresh := r.fresh
  sep i o v b hm := r.sep i o v b (hdel_sub _ _ _ _ hm)
  old := r.old
theorem goes_del {n0 : Nat} (id : Nat) : Goes n0 ρ h w ρ (hdel h id) w := ⟨rfl, rfl, rfl, Nat.le_refl _, fun _ _ _ => rfl, fun _ _ m => loc_del m, fun _ _ => rfl, rfl⟩
/-- The block of a place that was given up is nobody's. -/
theorem del_free (r : Rep ρ n h w) {id b : Nat} {x : Ob} {v : Value} (hx : (id, x) ∈ h) (hv : ρ id = some v) (hb : blkIn v b) : ¬ Mut ρ (hdel h id) b := by
  rintro (hF | ⟨i, o, v', h1, h2, h3⟩)
  · exact r.sep id x v b hx hv hb hF
  · exact hdel_ne r.nodup h1 (r.inj i o id x v' v b (hdel_sub _ _ _ _ h1) hx h2 hv h3 hb)
/-- A place that is given up, its block with it; then the world turns there alone. -/
theorem Rep.del_turn (r : Rep ρ n h w) {id : Nat} {x : Ob} {v : Value} (hx : (id, x) ∈ h) (hv : ρ id = some v) (hw : ∀ k, k < w.heap.size → ¬ blkIn v k → w'.heap[k]? = w.heap[k]?) :
    Rep ρ n (hdel h id) w' ∧ Keeps w (Mut ρ h) w' (Mut ρ (hdel h id)) := by
  have hk : Keeps w (Mut ρ h) w' (Mut ρ (hdel h id)) := fun b o hb hm => by
    refine ⟨?_, fun m => hm (mut_del m)⟩
    rw [hw b (lt_of_get hb) (fun e => hm (.inr ⟨id, x, v, hx, hv, e⟩))]
    exact hb
  refine ⟨⟨r.nodup.sublist ((hdel_sublist h id).map _), ?_, fun i o j o' v v' b hi hj => r.inj i o j o' v v' b (hdel_sub _ _ _ _ hi) (hdel_sub _ _ _ _ hj), r.fresh, fun i o v' b hm => r.sep i o v' b (hdel_sub _ _ _ _ hm), r.old.go (fun b hb hF => hw b hb (fun e => r.sep id x v b hx hv e hF))⟩, hk⟩
  intro i o hm
  refine (r.objs i o (hdel_sub _ _ _ _ hm)).mono (EnvSub.refl ρ) hk (fun v' b hv' hb => ?_)
  refine hw b ((r.objs i o (hdel_sub _ _ _ _ hm)).blk hv' hb) (fun e => ?_)
  exact hdel_ne r.nodup hm (r.inj i o id x v' v b (hdel_sub _ _ _ _ hm) hx hv' hv hb e)
end
end Go.Proofs.Yteakfibolfapiaa.Ab
