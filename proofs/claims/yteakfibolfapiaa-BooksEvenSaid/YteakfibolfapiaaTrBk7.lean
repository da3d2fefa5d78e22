/- Postings: the contra one. -/
import Derived.Test.YteakfibolfapiaaTrBk6
namespace Go.Proofs.Yteakfibolfapiaa.Ab
open Go Go.RowKit Go.Sort
set_option linter.unusedVariables false
set_option linter.unusedSimpArgs false
set_option maxRecDepth 100000
set_option maxHeartbeats 8000000
def negs (qs : List (Int × Int)) : List (Int × Int) := qs.map fun q => (q.1, -q.2)
/-- Amounts that have opposite ones. -/
def opp (qs : List (Int × Int)) : Prop := ∀ q ∈ qs, -9223372036854775807 ≤ q.2 ∧ q.2 ≤ 9223372036854775807
theorem lnR_snoc (qs : List (Int × Int)) (q : Int × Int) : lnR (qs ++ [q]) = lnR qs ++ [[.int .i64 q.1, .int .i64 q.2]] := by simp [lnR]
theorem lnR_len (qs : List (Int × Int)) : (lnR qs).length = qs.length := by simp [lnR]
theorem ap_ln {rd : List (List D)} {l : List (Int × Int)} {y z : Int} (h : rd = lnR l) (hl : l.length ≤ 70000) : real.apok rd [[.int .i64 y, .int .i64 z]] 2 16 = true := by
  subst h
  simp [real, flatD, maxLen, lnR_len]
  omega
theorem neg_step {r rd : List (List D)} {qs : List (Int × Int)} {j : Int} {i : Nat} (hr : r = lnR qs) (hj : j = i) (hb : real.cmp .lss j (real.len r) = true) (ho : opp qs) (hd : rd = lnR (negs (qs.take i))) :
    real.app rd [[.int .i64 (real.cI r j 0), .int .i64 (real.neg .i64 (real.cI r j 1))]] = lnR (negs (qs.take (i + 1))) := by
  have hi := ln_lt hr hj hb
  subst hr
  rw [(ln_cI hj hi).1, (ln_cI hj hi).2]
  have := ho _ (List.getElem_mem hi)
  have e : real.neg .i64 qs[i].2 = -qs[i].2 := by
    simp only [real]
    rw [wrap_i64 _ (by omega) (by omega)]
    omega
  rw [e, take_snoc hi]
  unfold negs at hd ⊢
  rw [List.map_append, List.map_cons, List.map_nil, lnR_snoc, ← hd]
  rfl
theorem no_min {r : List (List D)} {qs : List (Int × Int)} {j : Int} {i : Nat} (hr : r = lnR qs) (hj : j = i) (hb : real.cmp .lss j (real.len r) = true) (ho : opp qs) (h : real.cmp .eql (real.cI r j 1) (-9223372036854775808) = true) : False := by
  have hi := ln_lt hr hj hb
  subst hr
  rw [(ln_cI hj hi).2] at h
  have := ho _ (List.getElem_mem hi)
  simp only [real, rCmp, beq_iff_eq] at h
  omega
def KCon (qs : List (Int × Int)) : CallK := fun v n h => ∃ rows, rows = lnR (negs qs) ∧ v = .tup [.sl 0, .d (.int .i64 0)] ∧ n = 1 ∧ h = [(0, .row 2 rows)]
theorem K_Contra0 (r : List (List D)) (qs : List (Int × Int)) (hr : r = lnR qs) (hl : qs.length ≤ 1000) (h0 : qs ≠ []) (hop : opp qs) : CallE Try.prog 15 [.d (.imm r)] 0 []
    (fun v n h => Nd (fun _ => Fin 0 (KCon qs) v n h)) := by
  refine call_fn tysOK orders (C := C0) C0_ok H0 Try.func15 (by kernel_rfl) (by kernel_rfl) ?_
  intro oBin oCmp oWrap oNeg oCom oBnot oBeq oPickB oPickI oPickS oInb oSub2 oMinI oMaxI oSlen oSidx oScat oSsub oScmp oScok oLen oCI oCB oCS oCL oOkR oApp oApok oSub oSetc oRep oMkok oNthI oNthB oNthS oIteI oIteB oIteS oB2s oS2b oAllB oWf oDeq oMlen oMhas oMI oMB oMS oMok oMput oMdel oSgo oSru oSnx ho; cbv
  refine ⟨fun st => ∃ (i : Nat) (j : Int) (rd : List (List D)), j = i ∧ i ≤ qs.length ∧ rd = lnR (negs (qs.take i)) ∧ ((i = 0 ∧ rd = [] ∧ st = ⟨mkF 27 0 [(4, .d .nilsl), (7, .d (.imm r)), (8, .d (.int .i64 (oLen r))), (9, .d (.int .i64 j))], 1, []⟩) ∨
    (st = ⟨mkF 27 0 [(4, .sl 0), (7, .d (.imm r)), (8, .d (.int .i64 (oLen r))), (9, .d (.int .i64 j))], 1, [(0, .row 2 rd)]⟩)), fun st => ((qs.length : Int) - ctr 9 st).toNat, ⟨[], [], [4, 7, 8, 9], [], 1⟩, ?_, ?_, ?_⟩
  · cbv
  · exact ⟨0, 0, [], rfl, Nat.zero_le _, rfl, .inl ⟨rfl, rfl, rfl⟩⟩
  rintro st1 ⟨i, j, rd, hj, hi, hrd, ⟨hi0, hd0, rfl⟩ | rfl⟩
  all_goals (try subst hd0)
  all_goals cbv
  (repeat (any_goals (first
    | with_reducible refine And.intro ?_ ?_
    | exact True.intro
    | with_reducible exact rfl
    | (with_reducible refine Nd.mk ?_; try dsimp only)
    | (with_reducible refine Nd0.mk ?_; try dsimp only)
    | (with_reducible refine Pz.mk ?_; cbv)
    | (with_reducible refine RgOK.mk ?_; kernel_rfl)
    | (with_reducible refine OrOK.mk ?_; kernel_rfl)
    | (with_reducible refine Al.mk (fun x hx => ?_); cbv)
    | (with_reducible refine hK' _ ?_; clear hK' K'; cbv)
    | (with_reducible refine brA.yes (by first | assumption | exact rfl | (simp only [show oCmp = real.cmp from congrArg Ar.cmp ho, show oBin = real.bin from congrArg Ar.bin ho, show oScmp = real.scmp from congrArg Ar.scmp ho, show oPickB = real.pickB from congrArg Ar.pickB ho]; decide)) ?_; cbv)
    | (with_reducible refine brA.no (by first | assumption | exact rfl | (simp only [show oCmp = real.cmp from congrArg Ar.cmp ho, show oBin = real.bin from congrArg Ar.bin ho, show oScmp = real.scmp from congrArg Ar.scmp ho, show oPickB = real.pickB from congrArg Ar.pickB ho]; decide)) ?_; cbv)
    | (with_reducible refine bcase (fun hb => ?_) (fun hb => ?_) <;> cbv)
    | (intro K' hK'; cbv))))
  all_goals ((try clear hK' K'); cases ho; (try simp only [nc1] at *); (try simp only [Int.ofNat_eq_natCast] at *))
  all_goals first
    | with_reducible exact inb_lt hj (by assumption)
    | with_reducible exact ln_wf hr
    | with_reducible exact ln_ok hr hj (by assumption)
    | exact ap_ln hrd (by simp [negs]; omega)
    | exact (no_min hr hj (by assumption) hop (by assumption)).elim
    | (have hst := neg_step hr hj (by assumption) hop hrd
       have hi' := ln_lt hr hj (by assumption)
       exact ⟨⟨[], [(2, 0)], [4, 7, 8, 9], [2], 1⟩, rfl, ⟨i + 1, real.bin .add .i64 j 1, _, addL hj (by omega), by omega, hst, .inr rfl⟩, mea hj hi' (by omega)⟩)
    | (have he := ln_end hr hj hi (by assumption)
       first
       | exact absurd (List.length_eq_zero_iff.1 (he.symm.trans hi0)) h0
       | (rw [he, List.take_length] at hrd
          exact ⟨⟨[], [], [0], [0], 1⟩, _, 1, _, rfl, rfl, _, hrd, rfl, rfl, rfl⟩))
    | trace_state
def S_Contra (r : List (List D)) (K : CallK) (n : Nat) (h : Hp) : Prop := Nd (fun _ => ∃ qs, r = lnR qs ∧ qs.length ≤ 1000 ∧ qs ≠ [] ∧ opp qs) ∧
  Al (fun rows => ∃ qs, r = lnR qs ∧ rows = lnR (negs qs)) fun rows => K (.tup [.sl n, .d (.int .i64 0)]) (n + 1) (h ++ [(n, .row 2 rows)])
theorem L_Contra {r : List (List D)} {n : Nat} {h : Hp} {K : CallK} (hK : S_Contra r K n h) : CallE Try.prog 15 [.d (.imm r)] n h K := by
  obtain ⟨⟨qs, hr, hl, h0, hop⟩, hk⟩ := hK
  refine call_frame (g := fun i => i) (CallE.fin (K_Contra0 r qs hr hl h0 hop)) rfl rfl (fun i j hi => absurd hi (Nat.not_lt_zero _)) (fun i hi => absurd hi (Nat.not_lt_zero _)) (fun i o hm => by cases hm) (by intro j hj; cases hj) ?_
  rintro v n1 h1 - ⟨rows, hrw, rfl, rfl, rfl⟩
  rw [outs_zero]
  have e : n + (1 - 0) = n + 1 := rfl
  have e0 : lift (fun i => i) 0 n 0 = n := by simp [lift]; rfl
  simp only [renH, renV, renO, renVs, e0, e]
  exact hk.h _ ⟨qs, hr, hrw⟩
end Go.Proofs.Yteakfibolfapiaa.Ab
