/- The executor is sound: append. -/
import Derived.Test.YteakfibolfapiaaTrAb8
import Derived.Deep.AppendSrc
import Derived.Deep.Upon
namespace Go.Proofs.Yteakfibolfapiaa.Ab
open Go.RowKit Go.Sort
set_option linter.unusedVariables false
set_option linter.unusedSimpArgs false

section
variable {P : Program} {T : Nat → TI} {ρ : Env} {w w' : World} {M : Nat → Prop} {n : Nat} {h : Hp}
/-- A place more, of whatever block is nobody's. -/
theorem Rep.add (r : Rep ρ n h w') {v : Value} {o : Ob} (hk : ∀ id x, (id, x) ∈ h → RelO (upd ρ n v) w' (Mut (upd ρ n v) (h ++ [(n, o)])) id x) (hb : ∀ b, blkIn v b → ¬ Mut ρ h b) (hold : Old ρ w')
    (ho : RelO (upd ρ n v) w' (Mut (upd ρ n v) (h ++ [(n, o)])) n o) : Rep (upd ρ n v) (n + 1) (h ++ [(n, o)]) w' := by
  have hlt := fun id o hm => r.lt (id := id) (o := o) hm
  refine ⟨?_, ?_, ?_, ?_, ?_, hold.as rfl⟩
  · rw [List.map_append, List.nodup_append]
    refine ⟨r.nodup, by simp, ?_⟩
    intro a ha b hb' e
    simp at hb'
    obtain ⟨⟨i, o'⟩, hm, rfl⟩ := List.mem_map.1 ha
    have := hlt i o' hm
    dsimp only at e
    omega
  · intro id o' hm
    rcases List.mem_append.1 hm with hm | hm
    · exact hk id o' hm
    · simp at hm
      obtain ⟨rfl, rfl⟩ := hm
      exact ho
  · intro i o1 j o2 v1 v2 b hi hj h1 h2 b1 b2
    rcases List.mem_append.1 hi with hi' | hi' <;> rcases List.mem_append.1 hj with hj' | hj'
    · have e1 : upd ρ n v i = ρ i := upd_ext ρ n v i (hlt i o1 hi')
      have e2 : upd ρ n v j = ρ j := upd_ext ρ n v j (hlt j o2 hj')
      exact r.inj i o1 j o2 v1 v2 b hi' hj' (e1 ▸ h1) (e2 ▸ h2) b1 b2
    · simp at hj'
      obtain ⟨rfl, rfl⟩ := hj'
      rw [upd_same] at h2
      obtain rfl := Option.some.inj h2
      have e1 : upd ρ j v i = ρ i := upd_ext ρ j v i (hlt i o1 hi')
      exact absurd (.inr ⟨i, o1, v1, hi', e1 ▸ h1, b1⟩) (hb b b2)
    · simp at hi'
      obtain ⟨rfl, rfl⟩ := hi'
      rw [upd_same] at h1
      obtain rfl := Option.some.inj h1
      have e2 : upd ρ i v j = ρ j := upd_ext ρ i v j (hlt j o2 hj')
      exact absurd (.inr ⟨j, o2, v2, hj', e2 ▸ h2, b2⟩) (hb b b1)
    · simp at hi' hj'
      rw [hi'.1, hj'.1]
  · intro id hid
    rw [upd_at, if_neg (by omega)]
    exact r.fresh id (by omega)
  · intro id x v' b hm hv hb' hF
    rcases List.mem_append.1 hm with hm' | hm'
    · exact r.sep id x v' b hm' ((upd_ext ρ n v id (hlt id x hm')) ▸ hv) hb' hF
    · simp at hm'
      obtain ⟨rfl, rfl⟩ := hm'
      rw [upd_same] at hv
      obtain rfl := Option.some.inj hv
      exact hb b hb' (.inl hF)
/-- A place for another one: its block, or a new one. -/
theorem Rep.exch (r : Rep ρ n h w) {id : Nat} {x o : Ob} {v v' : Value} (hx : (id, x) ∈ h) (hv : ρ id = some v) (hw : ∀ k, k < w.heap.size → ¬ blkIn v k → w'.heap[k]? = w.heap[k]?)
    (hb : ∀ b, blkIn v' b → blkIn v b ∨ w.heap.size ≤ b)
    (ho : Keeps w (Mut ρ h) w' (Mut (upd ρ n v') (hdel h id ++ [(n, o)])) → RelO (upd ρ n v') w' (Mut (upd ρ n v') (hdel h id ++ [(n, o)])) n o) :
    Rep (upd ρ n v') (n + 1) (hdel h id ++ [(n, o)]) w' ∧ ∀ b, b < w.heap.size → Loc (upd ρ n v') (hdel h id ++ [(n, o)]) b → Loc ρ h b := by
  have hmb : ∀ b, b < w.heap.size → Loc (upd ρ n v') (hdel h id ++ [(n, o)]) b → Loc ρ h b := by
    intro b hlt m
    rcases loc_new r.fresh m with m | m
    · exact loc_del m
    · rcases hb b m with hb | hb
      · exact ⟨id, x, v, hx, hv, hb⟩
      · omega
  have hk : Keeps w (Mut ρ h) w' (Mut (upd ρ n v') (hdel h id ++ [(n, o)])) := fun b y hy hm => by
    refine ⟨?_, fun m => hm (m.imp (fun f => f) (hmb b (lt_of_get hy)))⟩
    rw [hw b (lt_of_get hy) (fun e => hm (.inr ⟨id, x, v, hx, hv, e⟩))]
    exact hy
  obtain ⟨r1, -⟩ := r.del_turn hx hv hw
  refine ⟨r1.add ?_ ?_ r1.old (ho hk), hmb⟩
  · intro i y hm
    refine (r.objs i y (hdel_sub _ _ _ _ hm)).mono (upd_sub r.fresh v') hk (fun v2 b hv2 hb2 => ?_)
    refine hw b ((r.objs i y (hdel_sub _ _ _ _ hm)).blk hv2 hb2) (fun e => ?_)
    exact hdel_ne r.nodup hm (r.inj i y id x v2 v b (hdel_sub _ _ _ _ hm) hx hv2 hv hb2 e)
  · intro b hb2 m
    rcases hb b hb2 with hb | hb
    · exact del_free r hx hv hb m
    · have := Mut.lt r (mut_del m)
      omega

/-! rows of data as lists of cells -/
theorem RelRows.take {c : Nat} (l : List (List D)) (xs : List Value) (hl : ∀ r ∈ l, r.length = c) (h : RelRows w M l xs) : RelRows w M l (xs.take (l.length * c)) := by
  refine RelRows.mk (c := c) _ _ hl (fun i r hi => ?_)
  have h1 := RelRows.get l xs h hl i r hi
  have hil := (List.getElem?_eq_some_iff.1 hi).1
  have hm : i * c + c ≤ l.length * c := by
    have : (i + 1) * c ≤ l.length * c := Nat.mul_le_mul_right c hil
    rw [Nat.add_mul, Nat.one_mul] at this; exact this
  have e : ((xs.take (l.length * c)).drop (i * c)).take c = (xs.drop (i * c)).take c := by
    apply List.ext_getElem?
    intro k
    rw [window_get _ _ _ _ _ hm, List.getElem?_take, List.getElem?_drop]
  rw [e]
  exact h1
theorem RelRows.len {c : Nat} : ∀ (l : List (List D)) (xs : List Value), (∀ r ∈ l, r.length = c) → RelRows w M l xs → l.length * c ≤ xs.length
  | [], xs, _, _ => by simp
  | r :: rest, xs, hl, ⟨h1, h2⟩ => by
    have hr := hl r (by simp)
    have h3 := RelRows.len rest _ (fun x hx => hl x (by simp [hx])) h2
    have h4 := RelDs.length _ _ h1
    rw [List.length_take] at h4
    rw [List.length_drop] at h3
    rw [List.length_cons, Nat.add_mul]
    by_cases hc : c = 0
    · subst hc; simp
    · omega
theorem RelRows.append {c : Nat} : ∀ (l l' : List (List D)) (xs ys : List Value), (∀ r ∈ l, r.length = c) → xs.length = l.length * c → RelRows w M l xs → RelRows w M l' ys → RelRows w M (l ++ l') (xs ++ ys)
  | [], l', xs, ys, _, hx, _, h' => by
    have : xs = [] := List.eq_nil_of_length_eq_zero (by simpa using hx)
    subst this; exact h'
  | r :: rest, l', xs, ys, hl, hx, ⟨h1, h2⟩, h' => by
    have hr := hl r (by simp)
    rw [List.length_cons, Nat.add_mul] at hx
    refine ⟨?_, ?_⟩
    · rw [List.take_append_of_le_length (by omega)]; exact h1
    · rw [List.drop_append_of_le_length (by omega)]
      exact RelRows.append rest l' _ ys (fun x hx => hl x (by simp [hx])) (by rw [List.length_drop]; omega) h2 h'
theorem RelRows.one {c : Nat} : ∀ (l : List (List D)) (xs : List Value), (∀ r ∈ l, r.length = c ∧ ∀ d ∈ r, flatD d = true) → xs.length = l.length * c → RelRows w M l xs → ∀ u ∈ xs, u.oneCell' = true
  | [], xs, _, hx, _, u, hu => by
    have : xs = [] := List.eq_nil_of_length_eq_zero (by simpa using hx)
    subst this; cases hu
  | r :: rest, xs, hl, hx, ⟨h1, h2⟩, u, hu => by
    obtain ⟨hr, hf⟩ := hl r (by simp)
    rw [List.length_cons, Nat.add_mul] at hx
    rw [← List.take_append_drop r.length xs, List.mem_append] at hu
    rcases hu with hu | hu
    · have key : ∀ (r : List D) (ys : List Value), (∀ d ∈ r, flatD d = true) → RelDs w M r ys → ∀ u ∈ ys, u.oneCell' = true := by
        intro r
        induction r with
        | nil => intro ys _ h u hu; rw [show ys = [] from h] at hu; cases hu
        | cons d ds ih =>
          rintro ys hf ⟨v, rest, rfl, h1, h2⟩ u hu
          rcases List.mem_cons.1 hu with rfl | hu
          · exact RelD.oneCell h1 (fun l e => by have := hf d (by simp); rw [e] at this; simp [flatD] at this)
          · exact ih rest (fun d hd => hf d (by simp [hd])) h2 u hu
      exact key r _ hf h1 u hu
    · exact RelRows.one rest _ (fun x hx => hl x (by simp [hx])) (by rw [List.length_drop]; omega) h2 u hu
theorem s2b_rows (s : List UInt8) : RelRows w M (real.s2b s) (byteCells ⟨s.toArray⟩) := by
  have : byteCells ⟨s.toArray⟩ = s.map fun b => Value.int .u8 b.toNat := by simp [byteCells]
  rw [this]
  simp only [real]
  induction s with
  | nil => exact trivial
  | cons b r ih => exact ⟨⟨_, [], rfl, rfl, rfl⟩, ih (by simp [byteCells])⟩

/-- append, of whatever source, onto a row of the call's own. -/
theorem append_run {t tx ty e : TypeId} {i : TypeInfo} {z : Value} {ty0 : TypeId} {v : Value} {k : Nat} {xs : List Value} (ht : P.underlying t = some (.slice e)) (hi : P.info? e = some i) (hz : i.zero = some z) (hzs : z.cells.size = i.size) (hc : 0 < i.size)
    (hown : w.ownsRow 0 ty0 i.size v k xs) {x : Value} {m : Nat} {news : List Value} (hs : Src P i.size tx x m news w) (h63 : k + m ≤ maxLen) (hb : (k + m) * i.bytes ≤ 140737488355328) :
    ∃ v' w' ty', (Builtin.append_ #[t, tx] ty #[v, x]).run P w = .ok v' w' ∧ w'.ownsRow 0 ty' i.size v' (k + m) (xs ++ news) ∧ w.grownBy w' v.ownBlock ∧ (∃ a q cap, v' = .slice a q cap) ∧
      (blkOf v' = blkOf v ∨ ∀ b, blkOf v' = some b → w.heap.size ≤ b) := by
  have hsmall : k + m ≤ 9223372036854775807 := by simp only [maxLen] at h63; omega
  have hlen : (xs ++ news).length = (k + m) * i.size := by rw [List.length_append, hown.1, hs.newsLen, Nat.add_mul]
  have grown : ∀ (old : Nat), old < k + m → ∀ (row : Option Nat),
      (w.drew.alloc (.cells ((xs ++ news).toArray ++ Builtin.zeroCells z.cells (grownCap w (k + m) old e - (k + m))) e)).ownsRow 0 e i.size
        (.slice (some ⟨w.heap.size, 0, none⟩) (k + m) (grownCap w (k + m) old e)) (k + m) (xs ++ news) ∧
      w.grownBy (w.drew.alloc (.cells ((xs ++ news).toArray ++ Builtin.zeroCells z.cells (grownCap w (k + m) old e - (k + m))) e)) row := by
    intro old ho row
    have hge := grownCap_ge w (k + m) old e
    have hcm : grownCap w (k + m) old e ≤ maxLen := grownCap_le_maxLen w (k + m) old e h63
    refine ⟨⟨hlen, .inr ⟨w.heap.size, _, _, rfl, Nat.zero_le _, heap_alloc_new w.drew _, hge, hcm, ?_, ?_⟩⟩, ⟨rfl, rfl, rfl, by simp, fun k hk _ => Below.heap_alloc w.drew _ k hk⟩⟩
    · simp only [Array.size_append, List.size_toArray, size_zeroCells, hzs, hlen, ← Nat.add_mul]
      congr 1
      omega
    · simp only [Array.toList_append]
      rw [← hlen]
      exact List.take_left
  rcases hown.2 with ⟨rfl, rfl⟩ | ⟨g, cap, cur, rfl, hbg, hg, hnc, hcm, hcs, htake⟩
  · have hx : xs = [] := List.eq_nil_of_length_eq_zero (by simpa using hown.1)
    subst hx
    by_cases hm : m = 0
    · subst hm
      have hn : news = [] := List.eq_nil_of_length_eq_zero (by simpa using hs.newsLen)
      subst hn
      exact ⟨.slice none 0 0, w, e, run_append_nothing w t tx ty e i ht hi none 0 0 (Nat.le_refl _) x hs, World.ownsRow_nil w 0 e i.size, ⟨rfl, rfl, rfl, Nat.le_refl _, fun _ _ _ => rfl⟩, ⟨_, _, _, rfl⟩, .inl rfl⟩
    · have hr := run_append_grow_src (P := P) w t tx ty e i z ht hi hz none 0 0 [] (by simp [Builtin.firstCells]) x m news hs (by omega) (by omega) (growslice_fits (by omega) (by simpa using hb))
      have hgr := grown 0 (by omega) (Value.ownBlock (.slice none 0 0))
      exact ⟨_, _, _, hr, hgr.1, hgr.2, ⟨_, _, _, rfl⟩, .inr (fun b hb => by simp [blkOf] at hb; omega)⟩
  · by_cases hroom : k + m ≤ cap
    · have hfit : k * i.size + news.length ≤ cur.size := by rw [hs.newsLen, hcs, ← Nat.add_mul]; exact Nat.mul_le_mul_right _ hroom
      have hst := run_storeCells_at P g (k * i.size) ty0 news 0 cur w hg (by simpa using hfit) hs.one
      simp only [Nat.add_zero] at hst
      have hr : (Builtin.append_ #[t, tx] ty #[.slice (some ⟨g, 0, none⟩) k cap, x]).run P w = .ok (.slice (some ⟨g, 0, none⟩) (k + m) cap) (w.setRow g (cur.toList.take (k * i.size) ++ news ++ cur.toList.drop (k * i.size + news.length)).toArray) := by
        rcases hs.kind with ⟨e', hk⟩ | hk <;> simp [Builtin.append_, run_underlying ht, run_underlying hk, sizeOf, typeInfo, hi, hs.len, hroom, hs.cells, Addr.add_lit, hst]
      refine ⟨_, _, ty0, hr, ⟨hlen, .inr ⟨g, cap, _, rfl, hbg, setRow_heap w g cur _ ty0 _ hg, hroom, hcm, ?_, ?_⟩⟩, ⟨rfl, rfl, rfl, by simp, fun k _ hk => setRow_other w g k _ (fun e => hk (by simp [Value.ownBlock, e]))⟩, ⟨_, _, _, rfl⟩, .inl rfl⟩
      · simp only [List.size_toArray, List.length_append, List.length_take, List.length_drop, Array.length_toList]
        omega
      · rw [htake, ← hlen]
        exact List.take_left
    · have holds : ∀ j u, xs[j]? = some u → w.cell? ((⟨g, 0, none⟩ : Addr).add j) = some u := hown.cells (g := g) rfl
      have hr := run_append_grow_src (P := P) w t tx ty e i z ht hi hz (some ⟨g, 0, none⟩) k cap xs (run_firstCells_some w.drew i.size k ⟨g, 0, none⟩ k cap xs hown.1 (by simpa using holds)) x m news hs (by omega) (by omega) (growslice_fits (by omega) hb)
      have hgr := grown cap (by omega) (Value.ownBlock (.slice (some ⟨g, 0, none⟩) k cap))
      exact ⟨_, _, _, hr, hgr.1, hgr.2, ⟨_, _, _, rfl⟩, .inr (fun b hb => by simp [blkOf] at hb; omega)⟩
end
end Go.Proofs.Yteakfibolfapiaa.Ab
