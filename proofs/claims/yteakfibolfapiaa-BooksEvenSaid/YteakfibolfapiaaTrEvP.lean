/- BooksEven, plainly: sums of balances. -/
import Derived.Test.YteakfibolfapiaaTrBk7
namespace Go.Proofs.Yteakfibolfapiaa.Ab
open Go Go.RowKit Go.Sort
set_option linter.unusedVariables false
set_option linter.unusedSimpArgs false
theorem perm_sum {a b : List Int} (h : a.Perm b) : a.sum = b.sum := by
  induction h with
  | nil => rfl
  | cons x _ ih => simp [ih]
  | swap x y l => simp; omega
  | trans _ _ h1 h2 => exact h1.trans h2
theorem sum_keys : ∀ (xs : List (Int × Int)) (ks : List Int) (f : Int → Int), (xs.map (·.1)).Nodup → ks.Nodup → (∀ p ∈ xs, p.1 ∈ ks ∧ f p.1 = p.2) → (∀ k ∈ ks, (∀ p ∈ xs, p.1 ≠ k) → f k = 0) → (ks.map f).sum = (xs.map (·.2)).sum
  | [], ks, f, _, _, _, h => by
    have : ∀ l : List Int, (∀ k ∈ l, f k = 0) → (l.map f).sum = 0 := by
      intro l
      induction l with
      | nil => intro _; rfl
      | cons a l ih =>
        intro h
        rw [List.map_cons, List.sum_cons, h a (by simp), ih (fun k hk => h k (by simp [hk]))]
        rfl
    exact this ks (fun k hk => h k hk (fun p hp => by cases hp))
  | x :: xs, ks, f, hn, hk, h1, h2 => by
    rw [List.map_cons, List.nodup_cons] at hn
    have hx := h1 x (by simp)
    have hp := List.perm_cons_erase hx.1
    rw [perm_sum (hp.map f), List.map_cons, List.sum_cons, List.map_cons, List.sum_cons, hx.2]
    rw [sum_keys xs (ks.erase x.1) f hn.2 (hk.erase _) (fun p hp => ⟨?_, (h1 p (by simp [hp])).2⟩) (fun k hk' hno => ?_)]
    · refine (List.mem_erase_of_ne (fun e => hn.1 (List.mem_map.2 ⟨p, hp, e⟩))).2 (h1 p (by simp [hp])).1
    · refine h2 k (List.mem_of_mem_erase hk') (fun p hp e => ?_)
      rcases List.mem_cons.1 hp with rfl | hp
      · subst e
        exact hk.not_mem_erase hk'
      · exact hno p hp e
theorem sum_one : ∀ (ks : List Int) (a z : Int), ks.Nodup → (ks.map fun k => if a = k then z else 0).sum = if a ∈ ks then z else 0
  | [], a, z, _ => rfl
  | k :: ks, a, z, hn => by
    rw [List.nodup_cons] at hn
    rw [List.map_cons, List.sum_cons, sum_one ks a z hn.2]
    by_cases e : a = k
    · subst e
      rw [if_pos rfl, if_neg hn.1, if_pos (by simp)]
      omega
    · rw [if_neg e]
      by_cases h : a ∈ ks
      · rw [if_pos h, if_pos (by simp [h])]; omega
      · rw [if_neg h, if_neg (by simp [h, e])]; rfl
theorem sum_add (ks : List Int) (f g : Int → Int) : (ks.map fun k => f k + g k).sum = (ks.map f).sum + (ks.map g).sum := by
  induction ks with
  | nil => rfl
  | cons a l ih => simp only [List.map_cons, List.sum_cons, ih]; omega
theorem sel_cons (q : Int × Int) (qs : List (Int × Int)) (k : Int) : (sel (q :: qs) k).sum = (if q.1 = k then q.2 else 0) + (sel qs k).sum := by
  unfold sel
  rw [List.filter_cons]
  by_cases h : q.1 = k
  · have : (q.1 == k) = true := by simpa using h
    rw [this, if_pos h]
    simp
  · have : (q.1 == k) = false := by simpa using h
    rw [this, if_neg h]
    simp
theorem sum_sel (ks : List Int) (hk : ks.Nodup) : ∀ (qs : List (Int × Int)), (∀ q ∈ qs, q.1 ∈ ks) → (ks.map fun k => (sel qs k).sum).sum = (qs.map (·.2)).sum
  | [], _ => by
    have : ∀ l : List Int, (l.map fun k => (sel [] k).sum).sum = 0 := by
      intro l
      induction l with
      | nil => rfl
      | cons a l ih => rw [List.map_cons, List.sum_cons, ih]; rfl
    exact this ks
  | q :: qs, h => by
    have e : (fun k => (sel (q :: qs) k).sum) = fun k => (if q.1 = k then q.2 else 0) + (sel qs k).sum := funext (sel_cons q qs)
    rw [e, sum_add, sum_one ks q.1 q.2 hk, if_pos (h q (by simp)), sum_sel ks hk qs (fun p hp => h p (by simp [hp])), List.map_cons, List.sum_cons]
theorem abs_sum {c : Int} : ∀ (l : List Int), (∀ x ∈ l, -c ≤ x ∧ x ≤ c) → -(l.length * c) ≤ l.sum ∧ l.sum ≤ l.length * c
  | [], _ => by simp
  | x :: l, h => by
    have h1 := h x (by simp)
    have h2 := abs_sum l (fun y hy => h y (by simp [hy]))
    rw [List.sum_cons, List.length_cons]
    have e : ((l.length + 1 : Nat) : Int) * c = l.length * c + c := by
      push_cast; rw [Int.add_mul]; omega
    rw [e]
    omega
theorem debs_crds (xs : List (Int × Int)) : (debs xs).sum + (crds xs).sum = (xs.map (·.2)).sum := by
  induction xs with
  | nil => rfl
  | cons x xs ih =>
    unfold debs crds at ih ⊢
    rw [List.map_cons, List.sum_cons, List.filter_cons, List.filter_cons]
    by_cases h : 0 < x.2
    · simp [h]; omega
    · simp [h]; omega
theorem sel_negs (qs : List (Int × Int)) (k : Int) : (sel (negs qs) k).sum = -(sel qs k).sum := by
  induction qs with
  | nil => rfl
  | cons q qs ih =>
    have e : negs (q :: qs) = (q.1, -q.2) :: negs qs := rfl
    rw [e, sel_cons, sel_cons, ih]
    dsimp only
    split <;> omega
def K10 : List Int := [0, 1, 2, 3, 4, 5, 6, 7, 8, 9]
theorem K10_nd : K10.Nodup := by decide
theorem K10_mem {k : Int} (h0 : 0 ≤ k) (h : k ≤ 9) : k ∈ K10 := by
  unfold K10
  simp only [List.mem_cons, List.not_mem_nil, or_false]
  omega
/-- A posting that may be, and is even. -/
structure PostOk (ps : List (Int × Int)) : Prop where
  rg : ∀ q ∈ ps, 0 ≤ q.1 ∧ q.1 ≤ 9
  len : ps.length ≤ 8
  ne : ps ≠ []
  am : ∀ q ∈ ps, -7696581394432 ≤ q.2 ∧ q.2 ≤ 7696581394432
  ev : (ps.map (·.2)).sum = 0
theorem PostOk.S {ps : List (Int × Int)} (h : PostOk ps) (k : Int) : -61572651155456 ≤ (sel ps k).sum ∧ (sel ps k).sum ≤ 61572651155456 := by
  have h1 := abs_sum (c := 7696581394432) (sel ps k) (fun x hx => by
    obtain ⟨q, hq, rfl⟩ := List.mem_map.1 hx
    exact h.am q (List.mem_filter.1 hq).1)
  have h2 := sel_len ps k
  have h3 := h.len
  omega
theorem PostOk.I {ps : List (Int × Int)} (h : PostOk ps) : ∀ q ∈ ps, I64 q.2 := fun q hq => by
  have := h.am q hq
  unfold I64
  omega
theorem PostOk.opp {ps : List (Int × Int)} (h : PostOk ps) : opp ps := fun q hq => by
  have := h.am q hq
  omega
theorem PostOk.args {ps : List (Int × Int)} {r : List (List D)} (h : PostOk ps) (hr : r = lnR ps) : ∃ qs, r = lnR qs ∧ qs.length ≤ 1000 ∧ ∀ q ∈ qs, I64 q.2 := ⟨ps, hr, by have := h.len; omega, h.I⟩
theorem PostOk.cargs {ps : List (Int × Int)} {r : List (List D)} (h : PostOk ps) (hr : r = lnR ps) : ∃ qs, r = lnR qs ∧ qs.length ≤ 1000 ∧ qs ≠ [] ∧ Ab.opp qs := ⟨ps, hr, by have := h.len; omega, h.ne, h.opp⟩
theorem PostOk.negs {ps : List (Int × Int)} (h : PostOk ps) : PostOk (negs ps) := by
  refine ⟨fun q hq => ?_, by simpa [Ab.negs] using h.len, by simpa [Ab.negs] using h.ne, fun q hq => ?_, ?_⟩
  · obtain ⟨p, hp, rfl⟩ := List.mem_map.1 hq
    exact h.rg p hp
  · obtain ⟨p, hp, rfl⟩ := List.mem_map.1 hq
    have := h.am p hp
    dsimp only
    omega
  · have e : ∀ l : List (Int × Int), ((Ab.negs l).map (·.2)).sum = -(l.map (·.2)).sum := by
      intro l
      induction l with
      | nil => rfl
      | cons a l ih =>
        have e : Ab.negs (a :: l) = (a.1, -a.2) :: Ab.negs l := rfl
        rw [e]
        simp only [List.map_cons, List.sum_cons, ih]
        omega
    rw [e, h.ev]; rfl
/-- The books behind so many rounds. -/
structure EvI (m : ML) (i : Nat) : Prop where
  g : gB m
  hi : ∀ k, 9 < k → bal m k = 0
  bd : ∀ k, -(i * 61572651155456) ≤ bal m k ∧ bal m k ≤ i * 61572651155456
  ev : (K10.map (bal m)).sum = 0
theorem EvI.nil : EvI [] 0 := ⟨gB_nil, fun k _ => bal_nil k, fun k => by rw [bal_nil]; simp, by
  have : (bal ([] : ML)) = fun _ => 0 := funext bal_nil
  rw [this]; rfl⟩
/-- A posting applied to books that hold little. -/
theorem app_ok {m m' : ML} {ps : List (Int × Int)} {e : Int} (hb : ∀ k, -1300000000000000 ≤ bal m k ∧ bal m k ≤ 1300000000000000) (hp : PostOk ps) (h : AppR m ps e m') : e = 0 ∧ gB m' ∧ ∀ k, bal m' k = bal m k + (sel ps k).sum := by
  rcases h with ⟨-, -, h3⟩ | ⟨-, -, -, q, -, h3⟩ | ⟨h3, -, -, h4⟩
  · exact absurd (fun q hq => by have := hp.rg q hq; omega) h3
  · refine absurd ?_ h3
    have h1 := hb q.1
    have h2 := hp.S q.1
    unfold tot I64
    omega
  · exact ⟨h3, h4.g, fun k => by rw [h4.b]; unfold tot; omega⟩
theorem app_r {m : ML} {ps : List (Int × Int)} {r : List (List D)} {q : Int × ML} (hr : r = lnR ps) (h : ∃ qs, r = lnR qs ∧ AppR m qs q.1 q.2) : AppR m ps q.1 q.2 := by
  obtain ⟨qs, h1, h2⟩ := h
  obtain rfl := lnR_inj (hr.symm.trans h1)
  exact h2
theorem EvI.bd1 {m : ML} {i : Nat} (h : EvI m i) (hi : i < 20) (k : Int) : -1231453023109120 ≤ bal m k ∧ bal m k ≤ 1231453023109120 := by
  have := h.bd k
  omega
/-- The three postings of a round. -/
theorem ev1 {m : ML} {i : Nat} {ps : List (Int × Int)} {r : List (List D)} {q : Int × ML} (h : EvI m i) (hi : i < 20) (hp : PostOk ps) (hr : r = lnR ps) (hq : ∃ qs, r = lnR qs ∧ AppR m qs q.1 q.2) : q.1 = 0 ∧ gB q.2 ∧ ∀ k, bal q.2 k = bal m k + (sel ps k).sum :=
  app_ok (fun k => by have := h.bd1 hi k; omega) hp (app_r hr hq)
theorem ev2 {m : ML} {i : Nat} {ps : List (Int × Int)} {r r2 : List (List D)} {q q2 : Int × ML} (h : EvI m i) (hi : i < 20) (hp : PostOk ps) (hr : r = lnR ps) (hq : ∃ qs, r = lnR qs ∧ AppR m qs q.1 q.2) (hr2 : ∃ qs, r = lnR qs ∧ r2 = lnR (negs qs)) (hq2 : ∃ qs, r2 = lnR qs ∧ AppR q.2 qs q2.1 q2.2) :
    q2.1 = 0 ∧ gB q2.2 ∧ ∀ k, bal q2.2 k = bal m k := by
  obtain ⟨-, -, h1⟩ := ev1 h hi hp hr hq
  obtain ⟨qs, e1, e2⟩ := hr2
  obtain rfl := lnR_inj (hr.symm.trans e1)
  obtain ⟨h2, h3, h4⟩ := app_ok (fun k => by
    rw [h1]
    have := h.bd1 hi k
    have := hp.S k
    omega) hp.negs (app_r e2 hq2)
  exact ⟨h2, h3, fun k => by rw [h4, h1, sel_negs]; omega⟩
theorem ev3 {m m2 : ML} {i : Nat} {ps : List (Int × Int)} {r : List (List D)} {q3 : Int × ML} (h : EvI m i) (hi : i < 20) (hp : PostOk ps) (hr : r = lnR ps) (h2 : gB m2 ∧ ∀ k, bal m2 k = bal m k) (hq3 : ∃ qs, r = lnR qs ∧ AppR m2 qs q3.1 q3.2) : q3.1 = 0 ∧ EvI q3.2 (i + 1) := by
  obtain ⟨h3, h4, h5⟩ := app_ok (fun k => by
    rw [h2.2]
    have := h.bd1 hi k
    omega) hp (app_r hr hq3)
  refine ⟨h3, h4, fun k hk => ?_, fun k => ?_, ?_⟩
  · rw [h5, h2.2, h.hi k hk, sel_none (fun q hq e => by have := hp.rg q hq; omega)]
    rfl
  · rw [h5, h2.2]
    have := h.bd k
    have := hp.S k
    push_cast
    omega
  · have e : bal q3.2 = fun k => bal m k + (sel ps k).sum := funext fun k => by rw [h5, h2.2]
    rw [e, sum_add, h.ev, sum_sel K10 K10_nd ps (fun q hq => K10_mem (hp.rg q hq).1 (hp.rg q hq).2), hp.ev]
    rfl
theorem EvI.trial {m : ML} {i : Nat} (h : EvI m i) (hi : i ≤ 20) {xs : List (Int × Int)} (hL : BL m xs) {q : Int × Int × Int} (hq : q = tri (debs xs).sum (crds xs).sum) : q.2.2 = 0 ∧ q.1 = q.2.1 := by
  have hk : ∀ p ∈ xs, p.1 ∈ K10 ∧ bal m p.1 = p.2 := fun p hp => by
    have h1 := (hL.mem h.g p.1 p.2).1 hp
    have h2 := h.g.rg (Bl.prE p) (hL.p.mem_iff.1 (List.mem_map.2 ⟨p, hp, rfl⟩))
    have h2 : 0 ≤ p.1 ∧ p.1 ≤ 65535 := h2
    refine ⟨K10_mem h2.1 (Decidable.byContradiction fun h3 => ?_), h1.2⟩
    exact h1.1 (h1.2.symm.trans (h.hi p.1 (by omega)))
  have hnd : (xs.map (·.1)).Nodup := by
    rw [List.Nodup, List.pairwise_map]
    exact hL.s.imp fun h => by omega
  have hsum := sum_keys xs K10 (bal m) hnd K10_nd hk (fun k _ hno => by
    refine Decidable.byContradiction fun h3 => ?_
    exact hno (k, bal m k) ((hL.mem h.g k _).2 ⟨h3, rfl⟩) rfl)
  rw [h.ev, ← debs_crds] at hsum
  have hlen : xs.length ≤ 10 := by
    have := nodup_le 10 (xs.map (·.1)) hnd (fun x hx => by
      obtain ⟨p, hp, rfl⟩ := List.mem_map.1 hx
      have h1 := (hk p hp).1
      unfold K10 at h1
      simp only [List.mem_cons, List.not_mem_nil, or_false] at h1
      omega)
    simpa using this
  have hd := abs_sum (c := 1231453023109120) (debs xs) (fun x hx => by
    obtain ⟨p, hp, rfl⟩ := List.mem_map.1 hx
    have h1 := h.bd p.1
    rw [(hk p (List.mem_filter.1 hp).1).2] at h1
    omega)
  have hdl := debs_len xs
  have h1 : Go.Proofs.Yteakfibolfapiaa.I64 (debs xs).sum := by unfold Go.Proofs.Yteakfibolfapiaa.I64; omega
  have h2 : Go.Proofs.Yteakfibolfapiaa.I64 (crds xs).sum := by unfold Go.Proofs.Yteakfibolfapiaa.I64; omega
  rw [hq, tri, (amt_yes h1).1, (amt_yes h1).2, (amt_yes h2).1, (amt_yes h2).2, if_pos ⟨rfl, rfl, by omega⟩]
  exact ⟨rfl, by dsimp only; omega⟩
theorem ev4 {m : ML} {i : Nat} (h : EvI m i) (hi : i ≤ 20) {q : Int × Int × Int} (hq : ∃ xs, BL m xs ∧ q = tri (debs xs).sum (crds xs).sum) : q.2.2 = 0 ∧ q.1 = q.2.1 := by
  obtain ⟨xs, h1, h2⟩ := hq
  exact h.trial hi h1 h2
/-! what a round makes of its lines -/
def e1 (q : Int × Int) : Int × Int := ((max 0 q.1).tmod 9, q.2.tmod 1099511627776)
def es (zs : List (Int × Int)) : List (Int × Int) := zs.map e1
def isum (zs : List (Int × Int)) : Int := ((es zs).map (·.2)).sum
theorem e1_ok (q : Int × Int) : (0 ≤ (e1 q).1 ∧ (e1 q).1 ≤ 8) ∧ -1099511627776 ≤ (e1 q).2 ∧ (e1 q).2 ≤ 1099511627776 := by
  unfold e1
  dsimp only
  refine ⟨?_, ?_⟩
  · rw [Int.tmod_eq_emod_of_nonneg (by omega)]
    omega
  · have h1 := Int.tmod_lt_of_pos q.2 (b := 1099511627776) (by decide)
    have h2 := Int.lt_tmod_of_pos q.2 (b := 1099511627776) (by decide)
    omega
theorem isum_bd {zs : List (Int × Int)} (h : zs.length ≤ 7) : -7696581394432 ≤ isum zs ∧ isum zs ≤ 7696581394432 := by
  have h1 := abs_sum (c := 1099511627776) ((es zs).map (·.2)) (fun x hx => by
    obtain ⟨p, hp, rfl⟩ := List.mem_map.1 hx
    obtain ⟨q, -, rfl⟩ := List.mem_map.1 hp
    have := e1_ok q
    omega)
  unfold isum
  simp only [es, List.length_map] at h1 ⊢
  omega
theorem post_ok {zs : List (Int × Int)} (h : zs.length ≤ 7) : PostOk (es zs ++ [(9, -(isum zs))]) := by
  have hb := isum_bd h
  refine ⟨fun q hq => ?_, by simp [es]; omega, by simp, fun q hq => ?_, ?_⟩
  · rcases List.mem_append.1 hq with hq | hq
    · obtain ⟨p, -, rfl⟩ := List.mem_map.1 hq
      have := e1_ok p
      omega
    · simp only [List.mem_singleton] at hq
      subst hq
      exact ⟨show (0 : Int) ≤ 9 by decide, show (9 : Int) ≤ 9 by decide⟩
  · rcases List.mem_append.1 hq with hq | hq
    · obtain ⟨p, -, rfl⟩ := List.mem_map.1 hq
      have := e1_ok p
      omega
    · simp only [List.mem_singleton] at hq
      subst hq
      dsimp only
      omega
  · rw [List.map_append, List.sum_append]
    unfold isum
    simp
    omega
end Go.Proofs.Yteakfibolfapiaa.Ab
