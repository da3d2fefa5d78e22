/- Books: Trial. -/
import Derived.Test.YteakfibolfapiaaTrBk4
namespace Go.Proofs.Yteakfibolfapiaa.Ab
open Go Go.RowKit Go.Sort
set_option linter.unusedVariables false
set_option linter.unusedSimpArgs false
set_option maxRecDepth 100000
set_option maxHeartbeats 8000000
def debs (xs : List (Int × Int)) : List Int := (xs.filter fun p => decide (0 < p.2)).map (·.2)
def crds (xs : List (Int × Int)) : List Int := (xs.filter fun p => !decide (0 < p.2)).map (·.2)
theorem debs_snoc (xs : List (Int × Int)) (p : Int × Int) : debs (xs ++ [p]) = if 0 < p.2 then debs xs ++ [p.2] else debs xs := by
  unfold debs
  rw [List.filter_append, List.map_append]
  split
  · rename_i h; simp [h]
  · rename_i h; simp [h]
theorem crds_snoc (xs : List (Int × Int)) (p : Int × Int) : crds (xs ++ [p]) = if 0 < p.2 then crds xs else crds xs ++ [p.2] := by
  unfold crds
  rw [List.filter_append, List.map_append]
  split
  · rename_i h; simp [h]
  · rename_i h; simp [h]
/-- The trial of a list, by its sums. -/
def tri (d c : Int) : Int × Int × Int := if amtE d = 0 ∧ amtE c = 0 ∧ amt c ≠ -9223372036854775808 then (amt d, -(amt c), 0) else (0, 0, 6)
def KTri (m : ML) : CallK := fun v n h => ∃ xs, BL m xs ∧ v = .tup [.d (.int .i64 (tri (debs xs).sum (crds xs).sum).1), .d (.int .i64 (tri (debs xs).sum (crds xs).sum).2.1), .d (.int .i64 (tri (debs xs).sum (crds xs).sum).2.2)] ∧ n = 2 ∧ h = [(0, .mp .i64 m), (1, .cells [.map 0])]
theorem addLL {j : Int} {i : Nat} (hj : j = i) (hi : i < 1000000) : real.bin .add .i64 j 1 = ((i + 1 : Nat) : Int) := by
  simp only [real, rBin]; rw [wrap_i64 _ (by omega) (by omega)]; omega
theorem debs_len (xs : List (Int × Int)) : (debs xs).length ≤ xs.length := by
  unfold debs; rw [List.length_map]; exact List.length_filter_le _ _
theorem crds_len (xs : List (Int × Int)) : (crds xs).length ≤ xs.length := by
  unfold crds; rw [List.length_map]; exact List.length_filter_le _ _
theorem ap_tr {rd : List (List D)} {l : List Int} {z : Int} (h : rd = iR l) (hl : l.length ≤ 70000) : real.apok rd [[.int .i64 z]] 1 8 = true := by
  subst h
  simp [real, flatD, maxLen, iR_len]
  omega
theorem tr_len {f : List (Int × Int) → List Int} (hf : ∀ xs, (f xs).length ≤ xs.length) {xs : List (Int × Int)} (h : xs.length ≤ 65536) (i : Nat) : (f (xs.take i)).length ≤ 70000 := by
  have h1 := hf (xs.take i)
  have h2 : (xs.take i).length ≤ xs.length := by simp; omega
  omega
theorem BL.I {m : ML} (hm : gB m) {xs : List (Int × Int)} (h : BL m xs) : ∀ p ∈ xs, I64 p.2 := by
  intro p hp
  obtain ⟨z, hz, -, hi⟩ := hm.h (Bl.prE p) (h.p.mem_iff.1 (List.mem_map.2 ⟨p, hp, rfl⟩))
  have hz : Value.int .i64 p.2 = .int .i64 z := hz
  injection hz with _ e
  rw [e]; exact hi
theorem debs_I {xs : List (Int × Int)} (h : ∀ p ∈ xs, I64 p.2) (i : Nat) : ∀ x ∈ debs (xs.take i), I64 x := by
  intro x hx
  obtain ⟨p, hp, rfl⟩ := List.mem_map.1 hx
  exact h p (List.mem_of_mem_take (List.mem_filter.1 hp).1)
theorem crds_I {xs : List (Int × Int)} (h : ∀ p ∈ xs, I64 p.2) (i : Nat) : ∀ x ∈ crds (xs.take i), I64 x := by
  intro x hx
  obtain ⟨p, hp, rfl⟩ := List.mem_map.1 hx
  exact h p (List.mem_of_mem_take (List.mem_filter.1 hp).1)
theorem rw_ok {rd : List (List D)} {l : List Int} (h : rd = iR l) (hl : l.length ≤ 70000) (hI : ∀ x ∈ l, I64 x) : ∃ xs, rd = iR xs ∧ xs.length ≤ 100000 ∧ ∀ x ∈ xs, I64 x := ⟨l, h, by omega, hI⟩
theorem q_of {rd : List (List D)} {l : List Int} {q : Int × Int} (h : rd = iR l) (hx : ∃ xs, rd = iR xs ∧ q = (amt xs.sum, amtE xs.sum)) : q = (amt l.sum, amtE l.sum) := by
  obtain ⟨xs, h1, h2⟩ := hx
  rw [h] at h1
  rw [h2, iR_inj h1]
theorem step_y {R rd rc : List (List D)} {xs : List (Int × Int)} {j : Int} {i : Nat} (hR : R = lnR xs) (hj : j = i) (hb : real.cmp .lss j (real.len R) = true) (hg : real.cmp .gtr (real.cI R j 1) 0 = true) (hd : rd = iR (debs (xs.take i))) (hc : rc = iR (crds (xs.take i))) :
    real.app rd [[.int .i64 (real.cI R j 1)]] = iR (debs (xs.take (i + 1))) ∧ rc = iR (crds (xs.take (i + 1))) := by
  have hi := ln_lt hR hj hb
  subst hR
  rw [(ln_cI hj hi).2] at hg ⊢
  simp only [real, rCmp, decide_eq_true_eq] at hg
  rw [take_snoc hi, debs_snoc, crds_snoc, if_pos (by omega), if_pos (by omega)]
  exact ⟨iR_snoc hd, hc⟩
theorem step_n {R rd rc : List (List D)} {xs : List (Int × Int)} {j : Int} {i : Nat} (hR : R = lnR xs) (hj : j = i) (hb : real.cmp .lss j (real.len R) = true) (hg : real.cmp .gtr (real.cI R j 1) 0 = false) (hd : rd = iR (debs (xs.take i))) (hc : rc = iR (crds (xs.take i))) :
    rd = iR (debs (xs.take (i + 1))) ∧ real.app rc [[.int .i64 (real.cI R j 1)]] = iR (crds (xs.take (i + 1))) := by
  have hi := ln_lt hR hj hb
  subst hR
  rw [(ln_cI hj hi).2] at hg ⊢
  simp only [real, rCmp, decide_eq_false_iff_not] at hg
  rw [take_snoc hi, debs_snoc, crds_snoc, if_neg (by omega), if_neg (by omega)]
  exact ⟨hd, iR_snoc hc⟩
theorem mea {n i : Nat} {j : Int} (hj : j = i) (hi : i < n) (hn : n ≤ 65536) : ((n : Int) - real.bin .add .i64 j 1).toNat < ((n : Int) - j).toNat := by
  rw [addLL hj (by omega)]; omega
theorem fin_tri {m : ML} {xs : List (Int × Int)} {a b c : Int} {n : Nat} {r : Hp} (h : BL m xs) (e : (a, b, c) = tri (debs xs).sum (crds xs).sum) : Fin 2 (KTri m) (.tup [.d (.int .i64 a), .d (.int .i64 b), .d (.int .i64 c)]) n ((0, .mp .i64 m) :: (1, .cells [.map 0]) :: r) := by
  refine ⟨⟨[], [], [0], [0, 1], 2⟩, _, 2, _, rfl, rfl, xs, h, ?_, rfl, rfl⟩
  rw [← e]
  rfl
theorem tri_1 {d c : Int} {q : Int × Int} (h : q = (amt d, amtE d)) (hb : real.cmp .neq q.2 0 = true) : (0, 0, 6) = tri d c := by
  subst h
  simp only [real, rCmp, bne_iff_ne] at hb
  rw [tri, if_neg (fun h => hb h.1)]
theorem tri_2 {d c : Int} {q : Int × Int} (h : q = (amt c, amtE c)) (hb : real.pickB false true (real.cmp .neq q.2 0) = true) : (0, 0, 6) = tri d c := by
  subst h
  simp only [real, rCmp, cond_false, bne_iff_ne] at hb
  rw [tri, if_neg (fun h => hb h.2.1)]
theorem tri_3 {d c : Int} {q : Int × Int} (h : q = (amt c, amtE c)) (hb : real.pickB false true (real.cmp .eql q.1 (-9223372036854775808)) = true) : (0, 0, 6) = tri d c := by
  subst h
  simp only [real, rCmp, cond_false, beq_iff_eq] at hb
  rw [tri, if_neg (fun h => h.2.2 hb)]
theorem tri_4 {d c : Int} {p q : Int × Int} (hp : p = (amt d, amtE d)) (h : q = (amt c, amtE c)) (h1 : real.cmp .neq p.2 0 = false) (h2 : real.pickB false true (real.cmp .neq q.2 0) = false) (h3 : real.pickB false true (real.cmp .eql q.1 (-9223372036854775808)) = false) : (p.1, real.neg .i64 q.1, 0) = tri d c := by
  subst h hp
  simp only [real, rCmp, cond_false, bne_eq_false_iff_eq, beq_eq_false_iff_ne] at h1 h2 h3
  rw [tri, if_pos ⟨h1, h2, h3⟩]
  have := amt_in c
  unfold Go.Proofs.Yteakfibolfapiaa.I64 at this
  simp only [real]
  rw [wrap_i64 _ (by omega) (by omega)]
  simp
def B2 : CallS := fun f args n h K => match f with
  | 46 => (match args with | [.ptr i 0] => S_BList i K n h | _ => False)
  | 49 => (match args with | [.d (.imm l)] => S_Total l K n h | _ => False)
  | _ => False
theorem B2_ok : ∀ f args n h K, B2 f args n h K → CallE Try.prog f args n h K := by
  intro f args n h K hc
  unfold B2 at hc
  split at hc
  · split at hc
    · exact L_BList hc
    · exact hc.elim
  · split at hc
    · exact L_Total hc
    · exact hc.elim
  · exact hc.elim
theorem K_Trial0 (m : ML) (hm : gB m) : CallE Try.prog 18 [.ptr 1 0] 2 [(0, .mp .i64 m), (1, .cells [.map 0])]
    (fun v n h => Nd (fun _ => Fin 2 (KTri m) v n h)) := by
  refine call_fn tysOK orders (C := B2) B2_ok ⟨[((2, 2), [2]), ((9, 1), [2, 1000035]), ((10, 1), [3, 1000040])], [], 0⟩ Try.func18 (by kernel_rfl) (by kernel_rfl) ?_
  intro oBin oCmp oWrap oNeg oCom oBnot oBeq oPickB oPickI oPickS oInb oSub2 oMinI oMaxI oSlen oSidx oScat oSsub oScmp oScok oLen oCI oCB oCS oCL oOkR oApp oApok oSub oSetc oRep oMkok oNthI oNthB oNthS oIteI oIteB oIteS oB2s oS2b oAllB oWf oDeq oMlen oMhas oMI oMB oMS oMok oMput oMdel oSgo oSru oSnx ho; cbv
  (repeat (any_goals (first
    | with_reducible refine And.intro ?_ ?_
    | exact True.intro
    | with_reducible exact rfl
    | (with_reducible refine Nd.mk ?_; try dsimp only)
    | (with_reducible refine Nd0.mk ?_; try dsimp only)
    | (with_reducible refine Pz.mk ?_; cbv)
    | (with_reducible refine RgOK.mk ?_; kernel_rfl)
    | (with_reducible refine OrOK.mk ?_; kernel_rfl)
    | (with_reducible refine Al.mk (fun x hx => ?_); cbv)
    | (with_reducible refine hK' _ ?_; clear hK' K'; cbv)
    | (with_reducible refine brA.yes (by first | assumption | exact rfl | (simp only [show oCmp = real.cmp from congrArg Ar.cmp ho, show oBin = real.bin from congrArg Ar.bin ho, show oScmp = real.scmp from congrArg Ar.scmp ho, show oPickB = real.pickB from congrArg Ar.pickB ho]; decide)) ?_; cbv)
    | (with_reducible refine brA.no (by first | assumption | exact rfl | (simp only [show oCmp = real.cmp from congrArg Ar.cmp ho, show oBin = real.bin from congrArg Ar.bin ho, show oScmp = real.scmp from congrArg Ar.scmp ho, show oPickB = real.pickB from congrArg Ar.pickB ho]; decide)) ?_; cbv)
    | (with_reducible refine bcase (fun hb => ?_) (fun hb => ?_) <;> cbv)
    | (intro K' hK'; cbv))))
  · exact hm
  obtain ⟨xs, hR, hL⟩ := hx
  have hlen : xs.length ≤ 65536 := by have h1 := hL.p.length_eq; have h2 := hm.len; simp at h1; omega
  refine ⟨fun st => ∃ (i : Nat) (j : Int) (rd rc : List (List D)), j = i ∧ i ≤ xs.length ∧ rd = iR (debs (xs.take i)) ∧ rc = iR (crds (xs.take i)) ∧
      ((rd = [] ∧ rc = [] ∧ st = ⟨mkF 57 0 [(5, .d .nilsl), (6, .d .nilsl), (14, .d (.imm x)), (15, .d (.int .i64 (oLen x))), (16, .d (.int .i64 j))], 4, [(0, .mp .i64 m), (1, .cells [.map 0])]⟩) ∨
       (rc = [] ∧ st = ⟨mkF 57 0 [(5, .sl 2), (6, .d .nilsl), (14, .d (.imm x)), (15, .d (.int .i64 (oLen x))), (16, .d (.int .i64 j))], 4, [(0, .mp .i64 m), (1, .cells [.map 0]), (2, .row 1 rd)]⟩) ∨
       (rd = [] ∧ st = ⟨mkF 57 0 [(5, .d .nilsl), (6, .sl 3), (14, .d (.imm x)), (15, .d (.int .i64 (oLen x))), (16, .d (.int .i64 j))], 4, [(0, .mp .i64 m), (1, .cells [.map 0]), (3, .row 1 rc)]⟩) ∨
       (st = ⟨mkF 57 0 [(5, .sl 2), (6, .sl 3), (14, .d (.imm x)), (15, .d (.int .i64 (oLen x))), (16, .d (.int .i64 j))], 4, [(0, .mp .i64 m), (1, .cells [.map 0]), (2, .row 1 rd), (3, .row 1 rc)]⟩)),
    fun st => ((xs.length : Int) - ctr 16 st).toNat, ⟨[], [], [5, 6, 14, 15, 16], [0, 1], 4⟩, ?_, ?_, ?_⟩
  · cbv
  · exact ⟨0, 0, [], [], rfl, Nat.zero_le _, rfl, rfl, .inl ⟨rfl, rfl, rfl⟩⟩
  rintro st1 ⟨i, j, rd, rc, hj, hi, hrd, hrc, ⟨hd0, hc0, rfl⟩ | ⟨hc0, rfl⟩ | ⟨hd0, rfl⟩ | rfl⟩
  all_goals (try subst hd0)
  all_goals (try subst hc0)
  all_goals cbv
  (repeat (any_goals (first
    | with_reducible refine And.intro ?_ ?_
    | exact True.intro
    | with_reducible exact rfl
    | (with_reducible refine Nd.mk ?_; try dsimp only)
    | (with_reducible refine Nd0.mk ?_; try dsimp only)
    | (with_reducible refine Pz.mk ?_; cbv)
    | (with_reducible refine RgOK.mk ?_; kernel_rfl)
    | (with_reducible refine OrOK.mk ?_; kernel_rfl)
    | (with_reducible refine Al.mk (fun x hx => ?_); cbv)
    | (with_reducible refine hK' _ ?_; clear hK' K'; cbv)
    | (with_reducible refine brA.yes (by first | assumption | exact rfl | (simp only [show oCmp = real.cmp from congrArg Ar.cmp ho, show oBin = real.bin from congrArg Ar.bin ho, show oScmp = real.scmp from congrArg Ar.scmp ho, show oPickB = real.pickB from congrArg Ar.pickB ho]; decide)) ?_; cbv)
    | (with_reducible refine brA.no (by first | assumption | exact rfl | (simp only [show oCmp = real.cmp from congrArg Ar.cmp ho, show oBin = real.bin from congrArg Ar.bin ho, show oScmp = real.scmp from congrArg Ar.scmp ho, show oPickB = real.pickB from congrArg Ar.pickB ho]; decide)) ?_; cbv)
    | (with_reducible refine bcase (fun hb => ?_) (fun hb => ?_) <;> cbv)
    | (intro K' hK'; cbv))))
  all_goals (((try clear hK' K'); cases ho; (try simp only [nc1] at *); (try simp only [Int.ofNat_eq_natCast] at *)))
  all_goals have hdl := tr_len debs_len hlen i
  all_goals have hcl := tr_len crds_len hlen i
  all_goals have hdI := debs_I (hL.I hm) i
  all_goals have hcI := crds_I (hL.I hm) i
  all_goals first
    | with_reducible exact inb_lt hj (by assumption)
    | with_reducible exact ln_wf hR
    | with_reducible exact ln_ok hR hj (by assumption)
    | with_reducible exact ap_tr hrd hdl
    | with_reducible exact ap_tr hrc hcl
    | with_reducible exact rw_ok hrd hdl hdI
    | with_reducible exact rw_ok hrc hcl hcI
    | (obtain ⟨h1, h2⟩ := step_y hR hj (by assumption) (by assumption) hrd hrc
       have hi' := ln_lt hR hj (by assumption)
       first
       | exact ⟨⟨[], [(5, 2)], [5, 6, 14, 15, 16], [0, 1, 5], 4⟩, rfl, ⟨i + 1, real.bin .add .i64 j 1, _, _, addLL hj (by omega), by omega, h1, h2, .inr (.inl ⟨rfl, rfl⟩)⟩, mea hj hi' hlen⟩
       | exact ⟨⟨[], [(5, 2)], [5, 6, 14, 15, 16], [0, 1, 5, 3], 4⟩, rfl, ⟨i + 1, real.bin .add .i64 j 1, _, _, addLL hj (by omega), by omega, h1, h2, .inr (.inr (.inr rfl))⟩, mea hj hi' hlen⟩)
    | (obtain ⟨h1, h2⟩ := step_n hR hj (by assumption) (by assumption) hrd hrc
       have hi' := ln_lt hR hj (by assumption)
       first
       | exact ⟨⟨[], [(5, 3)], [5, 6, 14, 15, 16], [0, 1, 5], 4⟩, rfl, ⟨i + 1, real.bin .add .i64 j 1, _, _, addLL hj (by omega), by omega, h1, h2, .inr (.inr (.inl ⟨rfl, rfl⟩))⟩, mea hj hi' hlen⟩
       | exact ⟨⟨[], [(5, 3)], [5, 6, 14, 15, 16], [0, 1, 2, 5], 4⟩, rfl, ⟨i + 1, real.bin .add .i64 j 1, _, _, addLL hj (by omega), by omega, h1, h2, .inr (.inr (.inr rfl))⟩, mea hj hi' hlen⟩)
    | (have he := ln_end hR hj hi (by assumption)
       subst he
       rw [List.take_length] at hrd hrc
       have e2 := q_of hrc hx
       first
       | (rename_i y hy _
          have e1 := q_of hrd hy
          exact fin_tri hL (tri_1 e1 (by assumption)))
       | exact fin_tri hL (tri_2 e2 (by assumption))
       | exact fin_tri hL (tri_3 e2 (by assumption))
       | (rename_i y hy _ _ _
          have e1 := q_of hrd hy
          exact fin_tri hL (tri_4 e1 e2 (by assumption) (by assumption) (by assumption))))
    | trace_state
def S_Trial (i : Nat) (K : CallK) (n : Nat) (h : Hp) : Prop := pat2 h i fun j m => Nd (fun _ => i < n ∧ j < n ∧ i ≠ j ∧ gB m) ∧
  Al (fun q : Int × Int × Int => ∃ xs, BL m xs ∧ q = tri (debs xs).sum (crds xs).sum) fun q => K (.tup [.d (.int .i64 q.1), .d (.int .i64 q.2.1), .d (.int .i64 q.2.2)]) n (out2 i j h m)
theorem L_Trial {i n : Nat} {h : Hp} {K : CallK} (hK : S_Trial i K n h) : CallE Try.prog 18 [.ptr i 0] n h K := by
  obtain ⟨j, m, hg, hg2, ⟨⟨hi, hj, hij, hm⟩⟩, hk⟩ := pat2_elim hK
  refine call_recv2 (CallE.fin (K_Trial0 m hm)) rfl hi hj hij hg hg2 ?_
  rintro v n1 h1 ⟨xs, hL, rfl, rfl, rfl⟩ -
  exact hk.h _ ⟨xs, hL, rfl⟩
end Go.Proofs.Yteakfibolfapiaa.Ab
