/- BooksEven, by the executor. -/
import Derived.Test.YteakfibolfapiaaTrEvP
namespace Go.Proofs.Yteakfibolfapiaa.Ab
open Go Go.RowKit Go.Sort
set_option linter.unusedVariables false
set_option linter.unusedSimpArgs false
set_option maxRecDepth 100000
set_option maxHeartbeats 8000000
def B5 : CallS := fun f args n h K => match f with
  | 12 => (match args with | [] => S_BNew K n h | _ => False)
  | 13 => (match args with | [] => S_Bwakes K n h | _ => False)
  | 14 => (match args with | [.ptr i 0] => S_BCopy i K n h | _ => False)
  | 15 => (match args with | [.d (.imm r)] => S_Contra r K n h | _ => False)
  | 16 => (match args with | [.ptr i 0, .d (.imm r)] => S_Apply i r K n h | _ => False)
  | 17 => (match args with | [.ptr i 0, .d (.int .i64 k)] => S_Bal i k K n h | _ => False)
  | 18 => (match args with | [.ptr i 0] => S_Trial i K n h | _ => False)
  | _ => False
theorem B5_ok : ∀ f args n h K, B5 f args n h K → CallE Try.prog f args n h K := by
  intro f args n h K hc
  unfold B5 at hc
  split at hc
  · split at hc
    · exact L_BNew hc
    · exact hc.elim
  · split at hc
    · exact L_Bwakes hc
    · exact hc.elim
  · split at hc
    · exact L_BCopy hc
    · exact hc.elim
  · split at hc
    · exact L_Contra hc
    · exact hc.elim
  · split at hc
    · exact L_Apply hc
    · exact hc.elim
  · split at hc
    · exact L_Bal hc
    · exact hc.elim
  · split at hc
    · exact L_Trial hc
    · exact hc.elim
  · exact hc.elim
/-- Lists of lines as they came in. -/
def gL (r : List D) : Prop := ∃ zs, r = [.imm (lnR zs)] ∧ ∀ q ∈ zs, I64 q.1 ∧ I64 q.2
theorem l_wf {l : List (List D)} (h : ∀ r ∈ l, gL r) : real.wf l 1 = true := by
  simp only [real, rWf, List.all_eq_true]
  intro r hr
  obtain ⟨z, rfl, -⟩ := h r hr
  rfl
theorem l_cut {l : List (List D)} (N : Nat) (h : ∀ r ∈ l, gL r) : real.sub2 0 (real.minI (real.len l) N) (real.len l) = true ∧ (real.sub l 0 (real.minI (real.len l) N)).length ≤ N ∧ ∀ r ∈ real.sub l 0 (real.minI (real.len l) N), gL r := by
  simp only [real]
  refine ⟨decide_eq_true (by omega), by simp; omega, fun r hr => h r (List.mem_of_mem_take (List.mem_of_mem_drop hr))⟩
theorem l_get {l : List (List D)} (h : ∀ r ∈ l, gL r) {j : Int} {i : Nat} (hj : j = i) (hi : i < l.length) : ∃ zs, l.getD i [] = [.imm (lnR zs)] ∧ ∀ q ∈ zs, I64 q.1 ∧ I64 q.2 := by
  rw [List.getD, List.getElem?_eq_getElem hi]
  exact h _ (List.getElem_mem _)
theorem l_lt {l : List (List D)} {j : Int} {i : Nat} (hj : j = i) (h : real.cmp .lss j (real.len l) = true) : i < l.length := by
  simp only [real, rCmp, decide_eq_true_eq] at h; omega
theorem l_ok {l : List (List D)} (h : ∀ r ∈ l, gL r) {j : Int} {i : Nat} (hj : j = i) (hb : real.cmp .lss j (real.len l) = true) : real.okR l j 0 [.sl] = true := by
  have hi := l_lt hj hb
  obtain ⟨zs, e, -⟩ := l_get h hj hi
  subst hj
  simp only [real, Int.toNat_natCast, e]
  simp [rowOk, kdOk, hi]
theorem l_cL {l : List (List D)} (h : ∀ r ∈ l, gL r) {j : Int} {i : Nat} (hj : j = i) (hb : real.cmp .lss j (real.len l) = true) : ∃ zs, real.cL l j 0 = lnR zs ∧ ∀ q ∈ zs, I64 q.1 ∧ I64 q.2 := by
  have hi := l_lt hj hb
  obtain ⟨zs, e, hz⟩ := l_get h hj hi
  subst hj
  refine ⟨zs, ?_, hz⟩
  simp only [real, rCell, Int.toNat_natCast, e]
  rfl
theorem lnR_take (zs : List (Int × Int)) (n : Nat) : (lnR zs).take n = lnR (zs.take n) := by simp [lnR]
theorem l_in {A : Ar} (ho : A = real) {l : List (List D)} (h : ∀ r ∈ l, gL r) {j : Int} {i : Nat} (hj : j = i) (hb : A.cmp .lss j (A.len l) = true) (N : Nat) :
    ∃ zs, A.sub (A.cL l j 0) 0 (A.minI (A.len (A.cL l j 0)) N) = lnR zs ∧ zs.length ≤ N ∧ ∀ q ∈ zs, I64 q.1 ∧ I64 q.2 := by
  subst ho
  obtain ⟨zs, e, hz⟩ := l_cL h hj hb
  rw [e]
  refine ⟨zs.take N, ?_, by simp; omega, fun q hq => hz q (List.mem_of_mem_take hq)⟩
  have e2 : real.len (lnR zs) = zs.length := by simp [real, lnR_len]
  rw [e2]
  show ((lnR zs).take (min (zs.length : Int) N).toNat).drop 0 = _
  rw [List.drop_zero, lnR_take]
  by_cases h : zs.length ≤ N
  · have : (min (zs.length : Int) N).toNat = zs.length := by omega
    rw [this, List.take_length, List.take_of_length_le h]
  · have : (min (zs.length : Int) N).toNat = N := by omega
    rw [this]
theorem l_sub2 {l : List (List D)} (h : ∀ r ∈ l, gL r) {j : Int} {i : Nat} (hj : j = i) (hb : real.cmp .lss j (real.len l) = true) (N : Nat) : real.sub2 0 (real.minI (real.len (real.cL l j 0)) N) (real.len (real.cL l j 0)) = true := by
  simp only [real]
  exact decide_eq_true (by omega)
theorem l_wf2 {l : List (List D)} (h : ∀ r ∈ l, gL r) {j : Int} {i : Nat} (hj : j = i) (hb : real.cmp .lss j (real.len l) = true) : real.wf (real.cL l j 0) 2 = true := by
  obtain ⟨zs, e, -⟩ := l_cL h hj hb
  exact ln_wf e
theorem es_snoc (a : List (Int × Int)) (q : Int × Int) : es (a ++ [q]) = es a ++ [e1 q] := by simp [es]
theorem isum_snoc (a : List (Int × Int)) (q : Int × Int) : isum (a ++ [q]) = isum a + (e1 q).2 := by simp [isum, es]
theorem in_step {R rd : List (List D)} {zs : List (Int × Int)} {u s : Int} {t : Nat} (hR : R = lnR zs) (hu : u = t) (hb : real.cmp .lss u (real.len R) = true) (hzl : zs.length ≤ 7) (hrd : rd = lnR (es (zs.take t))) (hs : s = isum (zs.take t)) :
    real.app rd [[.int .i64 (real.bin .rem .i64 (real.maxI 0 (real.cI R u 0)) 9), .int .i64 (real.bin .rem .i64 (real.cI R u 1) 1099511627776)]] = lnR (es (zs.take (t + 1))) ∧ real.bin .add .i64 s (real.bin .rem .i64 (real.cI R u 1) 1099511627776) = isum (zs.take (t + 1)) := by
  have hi := ln_lt hR hu hb
  subst hR
  rw [(ln_cI hu hi).1, (ln_cI hu hi).2]
  have hbd := isum_bd (zs := zs.take (t + 1)) (by simp; omega)
  rw [take_snoc hi] at hbd ⊢
  rw [isum_snoc] at hbd ⊢
  rw [es_snoc, lnR_snoc, ← hrd]
  refine ⟨rfl, ?_⟩
  show IntKind.i64.wrap (s + (e1 zs[t]).2) = _
  rw [hs, wrap_i64 _ (by omega) (by omega)]
theorem pend {R rd : List (List D)} {zs : List (Int × Int)} {u s : Int} {t : Nat} (hR : R = lnR zs) (hu : u = t) (ht : t ≤ zs.length) (hzl : zs.length ≤ 7) (hrd : rd = lnR (es (zs.take t))) (hs : s = isum (zs.take t)) (hb : real.cmp .lss u (real.len R) = false) :
    real.app rd [[.int .i64 9, .int .i64 (real.neg .i64 s)]] = lnR (es zs ++ [(9, -(isum zs))]) := by
  have he := ln_end hR hu ht hb
  rw [he, List.take_length] at hrd hs
  have hbd := isum_bd hzl
  have e : real.neg .i64 s = -(isum zs) := by
    subst hs
    simp only [real]
    rw [wrap_i64 _ (by omega) (by omega)]
    omega
  rw [e, lnR_snoc, ← hrd]
  rfl
theorem con_args {r r2 : List (List D)} {ps : List (Int × Int)} (hp : PostOk ps) (hr : r = lnR ps) (h : ∃ qs, r = lnR qs ∧ r2 = lnR (negs qs)) : ∃ qs, r2 = lnR qs ∧ qs.length ≤ 1000 ∧ ∀ q ∈ qs, I64 q.2 := by
  obtain ⟨qs, h1, h2⟩ := h
  obtain rfl := lnR_inj (hr.symm.trans h1)
  exact hp.negs.args h2
theorem no_err {e : Int} (h : e = 0) (hb : real.pickB false true (real.cmp .neq e 0) = true) : False := by
  subst h; cases hb
theorem no_err2 {e : Int} (h : e = 0) (hb : real.cmp .neq e 0 = true) : False := by
  subst h; cases hb
theorem lt10 {v : Int} {k : Nat} (hv : v = k) (hb : real.cmp .lss v 10 = true) : k < 10 := by
  simp only [real, rCmp, decide_eq_true_eq] at hb; omega
theorem no_bal {x y : Int} (h : x = y) (hb : real.cmp .neq x y = true) : False := by
  subst h
  simp [real, rCmp] at hb
theorem no_bal2 {m m2 : ML} {x y v : Int} (h7 : ∀ k, bal m2 k = bal m k) (hx : y = bal m v) (hz : x = bal m2 v) (hb : real.cmp .neq x y = true) : False :=
  no_bal (hz.trans ((h7 v).trans hx.symm)) hb
theorem no_bal3 {x y : Int} (h : x = y) (hb : real.pickB false true (real.cmp .neq x y) = true) : False := no_bal h hb
theorem K_Even0 (l : List (List D)) (hl : ∀ r ∈ l, gL r) : CallE Try.prog 4 [.d (.imm l)] 0 [] (fun v n h => Nd (fun _ => Fin 0 (Gets fun v => v = .d (.bool true)) v n h)) := by
  refine call_fn tysOK orders (C := B5) B5_ok ⟨[((18, 1), [3]), ((19, 0), [6])], [], 0⟩ Try.func4 (by kernel_rfl) (by kernel_rfl) ?_
  intro oBin oCmp oWrap oNeg oCom oBnot oBeq oPickB oPickI oPickS oInb oSub2 oMinI oMaxI oSlen oSidx oScat oSsub oScmp oScok oLen oCI oCB oCS oCL oOkR oApp oApok oSub oSetc oRep oMkok oNthI oNthB oNthS oIteI oIteB oIteS oB2s oS2b oAllB oWf oDeq oMlen oMhas oMI oMB oMS oMok oMput oMdel oSgo oSru oSnx ho; cbv
  (repeat (any_goals (first
    | with_reducible refine And.intro ?_ ?_
    | exact True.intro
    | with_reducible exact rfl
    | (with_reducible refine Nd.mk ?_; try dsimp only)
    | (with_reducible refine Nd0.mk ?_; try dsimp only)
    | (with_reducible refine Pz.mk ?_; cbv)
    | (with_reducible refine RgOK.mk ?_; kernel_rfl)
    | (with_reducible refine OrOK.mk ?_; kernel_rfl)
    | (with_reducible refine Al.mk (fun x hx => ?_); cbv)
    | (with_reducible refine hK' _ ?_; clear hK' K'; cbv)
    | (with_reducible refine brA.yes (by first | assumption | exact rfl | (simp only [show oCmp = real.cmp from congrArg Ar.cmp ho, show oBin = real.bin from congrArg Ar.bin ho, show oScmp = real.scmp from congrArg Ar.scmp ho, show oPickB = real.pickB from congrArg Ar.pickB ho, show oBnot = real.bnot from congrArg Ar.bnot ho]; decide)) ?_; cbv)
    | (with_reducible refine brA.no (by first | assumption | exact rfl | (simp only [show oCmp = real.cmp from congrArg Ar.cmp ho, show oBin = real.bin from congrArg Ar.bin ho, show oScmp = real.scmp from congrArg Ar.scmp ho, show oPickB = real.pickB from congrArg Ar.pickB ho, show oBnot = real.bnot from congrArg Ar.bnot ho]; decide)) ?_; cbv)
    | (with_reducible refine bcase (fun hb => ?_) (fun hb => ?_) <;> cbv)
    | (intro K' hK'; cbv))))
  · cases ho; exact (l_cut 20 hl).1
  · cases ho; exact l_wf hl
  obtain ⟨L, hLe⟩ : ∃ L, L = oSub l 0 (oMinI (oLen l) 20) := ⟨_, rfl⟩
  have hLL : L.length ≤ 20 ∧ ∀ r ∈ L, gL r := by
    cases ho
    subst hLe
    exact (l_cut 20 hl).2
  rw [← hLe]
  clear hLe
  refine ⟨fun st => ∃ (i : Nat) (j : Int) (m : ML), j = i ∧ i ≤ L.length ∧ EvI m i ∧ st = ⟨mkF 117 0 [(3, .ptr 1 0), (29, .d (.imm L)), (30, .d (.int .i64 (oLen L))), (31, .d (.int .i64 j))], 2, [(0, .mp .i64 m), (1, .cells [.map 0])]⟩, fun st => ((L.length : Int) - ctr 31 st).toNat, ⟨[], [], [3, 29, 30, 31], [0, 1], 2⟩, ?_, ?_, ?_⟩
  · cbv
  · exact ⟨0, 0, [], rfl, Nat.zero_le _, EvI.nil, rfl⟩
  rintro st1 ⟨i, j, m, hj, hi, hE, rfl⟩
  cbv
  (repeat (any_goals (first
    | with_reducible refine And.intro ?_ ?_
    | exact True.intro
    | with_reducible exact rfl
    | (with_reducible refine Nd.mk ?_; try dsimp only)
    | (with_reducible refine Nd0.mk ?_; try dsimp only)
    | (with_reducible refine Pz.mk ?_; cbv)
    | (with_reducible refine RgOK.mk ?_; kernel_rfl)
    | (with_reducible refine OrOK.mk ?_; kernel_rfl)
    | (with_reducible refine Al.mk (fun x hx => ?_); cbv)
    | (with_reducible refine hK' _ ?_; clear hK' K'; cbv)
    | (with_reducible refine brA.yes (by first | assumption | exact rfl | (simp only [show oCmp = real.cmp from congrArg Ar.cmp ho, show oBin = real.bin from congrArg Ar.bin ho, show oScmp = real.scmp from congrArg Ar.scmp ho, show oPickB = real.pickB from congrArg Ar.pickB ho, show oBnot = real.bnot from congrArg Ar.bnot ho]; decide)) ?_; cbv)
    | (with_reducible refine brA.no (by first | assumption | exact rfl | (simp only [show oCmp = real.cmp from congrArg Ar.cmp ho, show oBin = real.bin from congrArg Ar.bin ho, show oScmp = real.scmp from congrArg Ar.scmp ho, show oPickB = real.pickB from congrArg Ar.pickB ho, show oBnot = real.bnot from congrArg Ar.bnot ho]; decide)) ?_; cbv)
    | (with_reducible refine bcase (fun hb => ?_) (fun hb => ?_) <;> cbv)
    | (intro K' hK'; cbv))))
  all_goals first
    | (((try clear hK' K'); cases ho; (try simp only [nc1] at *); (try simp only [Int.ofNat_eq_natCast] at *))
       first
       | with_reducible exact inb_lt hj (by assumption)
       | with_reducible exact l_wf hLL.2
       | with_reducible exact l_ok hLL.2 hj (by assumption)
       | exact l_sub2 hLL.2 hj (by assumption) 7
       | with_reducible exact l_wf2 hLL.2 hj (by assumption)
       | exact fin_b rfl)
    | skip
  obtain ⟨zs, hz, hzl, hzI⟩ := l_in ho hLL.2 hj hb 7
  have hz : oSub (oCL L j 0) 0 (oMinI (oLen (oCL L j 0)) 7) = lnR zs := hz
  obtain ⟨R, hR⟩ : ∃ R, R = lnR zs := ⟨_, rfl⟩
  rw [← hR] at hz
  rw [hz]
  refine ⟨fun st => ∃ (t : Nat) (u : Int) (rd : List (List D)) (s : Int), u = t ∧ t ≤ zs.length ∧ rd = lnR (es (zs.take t)) ∧ s = isum (zs.take t) ∧
      ((rd = [] ∧ st = ⟨mkF 117 0 [(3, .ptr 1 0), (6, .d .nilsl), (7, .d (.int .i64 s)), (29, .d (.imm L)), (30, .d (.int .i64 (oLen L))), (31, .d (.int .i64 j)), (39, .d (.imm R)), (40, .d (.int .i64 (oLen R))), (41, .d (.int .i64 u))], 3, [(0, .mp .i64 m), (1, .cells [.map 0])]⟩) ∨
       (st = ⟨mkF 117 0 [(3, .ptr 1 0), (6, .sl 2), (7, .d (.int .i64 s)), (29, .d (.imm L)), (30, .d (.int .i64 (oLen L))), (31, .d (.int .i64 j)), (39, .d (.imm R)), (40, .d (.int .i64 (oLen R))), (41, .d (.int .i64 u))], 3, [(0, .mp .i64 m), (1, .cells [.map 0]), (2, .row 2 rd)]⟩)),
    fun st => ((zs.length : Int) - ctr 41 st).toNat, ⟨[], [], [3, 6, 7, 29, 30, 31, 39, 40, 41], [0, 1], 3⟩, ?_, ?_, ?_⟩
  · cbv
  · exact ⟨0, 0, [], 0, rfl, Nat.zero_le _, rfl, rfl, .inl ⟨rfl, rfl⟩⟩
  have hb1 := hb
  clear hb
  rintro st1 ⟨t, u, rd, s, hu, ht, hrd, hs, ⟨hd0, rfl⟩ | rfl⟩
  all_goals (try subst hd0)
  · cbv
    (repeat (any_goals (first
    | with_reducible refine And.intro ?_ ?_
    | exact True.intro
    | with_reducible exact rfl
    | (with_reducible refine Nd.mk ?_; try dsimp only)
    | (with_reducible refine Nd0.mk ?_; try dsimp only)
    | (with_reducible refine Pz.mk ?_; cbv)
    | (with_reducible refine RgOK.mk ?_; kernel_rfl)
    | (with_reducible refine OrOK.mk ?_; kernel_rfl)
    | (with_reducible refine Al.mk (fun x hx => ?_); cbv)
    | (with_reducible refine hK' _ ?_; clear hK' K'; cbv)
    | (with_reducible refine brA.yes (by first | assumption | exact rfl | (simp only [show oCmp = real.cmp from congrArg Ar.cmp ho, show oBin = real.bin from congrArg Ar.bin ho, show oScmp = real.scmp from congrArg Ar.scmp ho, show oPickB = real.pickB from congrArg Ar.pickB ho, show oBnot = real.bnot from congrArg Ar.bnot ho]; decide)) ?_; cbv)
    | (with_reducible refine brA.no (by first | assumption | exact rfl | (simp only [show oCmp = real.cmp from congrArg Ar.cmp ho, show oBin = real.bin from congrArg Ar.bin ho, show oScmp = real.scmp from congrArg Ar.scmp ho, show oPickB = real.pickB from congrArg Ar.pickB ho, show oBnot = real.bnot from congrArg Ar.bnot ho]; decide)) ?_; cbv)
    | (with_reducible refine bcase (fun hb => ?_) (fun hb => ?_) <;> cbv)
    | (intro K' hK'; cbv))))
    all_goals first
      | (((try clear hK' K'); cases ho; (try simp only [nc1] at *); (try simp only [Int.ofNat_eq_natCast] at *))
         have h20 : i < 20 := by have := l_lt hj hb1; have := hLL.1; omega
         first
         | omega
         | rfl
         | exact hE.g
         | with_reducible exact inb_lt hu (by assumption)
         | with_reducible exact ln_wf hR
         | with_reducible exact ln_ok hR hu (by assumption)
         | exact ap_ln hrd (by simp [es]; omega)
         | (obtain ⟨h1, h2⟩ := in_step hR hu (by assumption) hzl hrd hs
            have hi' := ln_lt hR hu (by assumption)
            exact ⟨⟨[], [(4, 2)], [3, 6, 7, 29, 30, 31, 39, 40, 41], [0, 1, 4], 3⟩, rfl, ⟨t + 1, real.bin .add .i64 u 1, _, _, addL hu (by omega), by omega, h1, h2, .inr rfl⟩, mea hu hi' (by omega)⟩)
         | exact (post_ok hzl).cargs (pend hR hu ht hzl hrd hs (by assumption))
         | exact (post_ok hzl).args (pend hR hu ht hzl hrd hs (by assumption))
         | exact con_args (post_ok hzl) (pend hR hu ht hzl hrd hs (by assumption)) (by assumption)
         | exact (ev1 hE h20 (post_ok hzl) (pend hR hu ht hzl hrd hs (by assumption)) (by assumption)).2.1
         | exact (no_err (ev1 hE h20 (post_ok hzl) (pend hR hu ht hzl hrd hs (by assumption)) hx).1 (by assumption)).elim
         | fail "")
      | (rename_i r2 hr2 q hq _
         ((try clear hK' K'); cases ho; (try simp only [nc1] at *); (try simp only [Int.ofNat_eq_natCast] at *))
         have h20 : i < 20 := by have := l_lt hj hb1; have := hLL.1; omega
         exact (no_err (ev2 hE h20 (post_ok hzl) (pend hR hu ht hzl hrd hs (by assumption)) hq hr2 hx).1 (by assumption)).elim)
      | skip
    rename_i hbi r2 hr2 q hq _
    obtain ⟨P, hP⟩ : ∃ P, P = oApp [] [[.int .i64 9, .int .i64 (oNeg .i64 s)]] := ⟨_, rfl⟩
    rw [← hP] at hr2 hq ⊢
    have hf : i < 20 ∧ P = lnR (es zs ++ [(9, -(isum zs))]) ∧ gB x.2 ∧ ∀ k, bal x.2 k = bal m k := by
      ((try clear hK' K'); cases ho; (try simp only [nc1] at *); (try simp only [Int.ofNat_eq_natCast] at *))
      have h20 : i < 20 := by have := l_lt hj hb1; have := hLL.1; omega
      have h5 : P = _ := hP.trans (pend hR hu ht hzl hrd hs (by assumption))
      exact ⟨h20, h5, (ev2 hE h20 (post_ok hzl) h5 hq hr2 hx).2⟩
    obtain ⟨h20, h5, h6, h7⟩ := hf
    have hL20 := hLL.1
    clear hr2 hq hP hs hrd ht hu hbi hR hx hb
    refine ⟨fun st => ∃ (k : Nat) (v : Int) (m2 : ML), v = k ∧ k ≤ 10 ∧ gB m2 ∧ (∀ k, bal m2 k = bal m k) ∧ st = ⟨mkF 117 0 [(3, .ptr 1 0), (6, .d (.imm P)), (11, .ptr 5 0), (29, .d (.imm L)), (30, .d (.int .i64 (oLen L))), (31, .d (.int .i64 j)), (88, .d (.int .i64 v))], 6, [(0, .mp .i64 m2), (1, .cells [.map 0]), (4, .mp .i64 m), (5, .cells [.map 4])]⟩, fun st => (10 - ctr 88 st).toNat, ⟨[], [], [3, 6, 11, 29, 30, 31, 88], [0, 1, 4, 5], 6⟩, ?_, ?_, ?_⟩
    · cbv
    · exact ⟨0, 0, x.2, rfl, Nat.zero_le _, h6, h7, rfl⟩
    clear h6 h7
    rintro st1 ⟨k, v, m2, hv, hk, h6, h7, rfl⟩
    cbv
    (repeat (any_goals (first
    | with_reducible refine And.intro ?_ ?_
    | exact True.intro
    | with_reducible exact rfl
    | (with_reducible refine Nd.mk ?_; try dsimp only)
    | (with_reducible refine Nd0.mk ?_; try dsimp only)
    | (with_reducible refine Pz.mk ?_; cbv)
    | (with_reducible refine RgOK.mk ?_; kernel_rfl)
    | (with_reducible refine OrOK.mk ?_; kernel_rfl)
    | (with_reducible refine Al.mk (fun x hx => ?_); cbv)
    | (with_reducible refine hK' _ ?_; clear hK' K'; cbv)
    | (with_reducible refine brA.yes (by first | assumption | exact rfl | (simp only [show oCmp = real.cmp from congrArg Ar.cmp ho, show oBin = real.bin from congrArg Ar.bin ho, show oScmp = real.scmp from congrArg Ar.scmp ho, show oPickB = real.pickB from congrArg Ar.pickB ho, show oBnot = real.bnot from congrArg Ar.bnot ho]; decide)) ?_; cbv)
    | (with_reducible refine brA.no (by first | assumption | exact rfl | (simp only [show oCmp = real.cmp from congrArg Ar.cmp ho, show oBin = real.bin from congrArg Ar.bin ho, show oScmp = real.scmp from congrArg Ar.scmp ho, show oPickB = real.pickB from congrArg Ar.pickB ho, show oBnot = real.bnot from congrArg Ar.bnot ho]; decide)) ?_; cbv)
    | (with_reducible refine bcase (fun hb => ?_) (fun hb => ?_) <;> cbv)
    | (intro K' hK'; cbv))))
    all_goals ((try clear hK' K'); cases ho; (try simp only [nc1] at *); (try simp only [Int.ofNat_eq_natCast] at *))
    all_goals first
      | omega
      | exact h6
      | exact hE.g
      | exact (post_ok hzl).args h5
      | exact (no_bal2 h7 hx (by assumption) (by assumption)).elim
      | exact (no_err2 (ev3 hE h20 (post_ok hzl) h5 ⟨h6, h7⟩ hx).1 (by assumption)).elim
      | exact (ev3 hE h20 (post_ok hzl) h5 ⟨h6, h7⟩ hx).2.g
      | (have hi' := lt10 hv (by assumption)
         refine ⟨⟨[], [], [3, 6, 11, 29, 30, 31, 88], [0, 1, 4, 5], 6⟩, rfl, ⟨k + 1, real.bin .add .i64 v 1, m2, addL hv (by omega), by omega, h6, h7, rfl⟩, ?_⟩
         show (10 - real.bin .add .i64 v 1).toNat < (10 - v).toNat
         rw [addL hv (by omega)]; omega)
      | (have h8 := (ev3 (q3 := _) hE h20 (post_ok hzl) h5 ⟨h6, h7⟩ (by assumption)).2
         have h9 := ev4 h8 (by omega) hx
         first
         | exact (no_err2 h9.1 (by assumption)).elim
         | exact (no_bal3 h9.2 (by assumption)).elim
         | exact ⟨⟨[], [], [3, 29, 30, 31], [0, 1], 2⟩, rfl, ⟨i + 1, real.bin .add .i64 j 1, _, addL hj (by omega), (have := l_lt hj hb1; by omega), h8, rfl⟩, mea hj (l_lt hj hb1) (by omega)⟩)
      | trace_state
  · cbv
    (repeat (any_goals (first
    | with_reducible refine And.intro ?_ ?_
    | exact True.intro
    | with_reducible exact rfl
    | (with_reducible refine Nd.mk ?_; try dsimp only)
    | (with_reducible refine Nd0.mk ?_; try dsimp only)
    | (with_reducible refine Pz.mk ?_; cbv)
    | (with_reducible refine RgOK.mk ?_; kernel_rfl)
    | (with_reducible refine OrOK.mk ?_; kernel_rfl)
    | (with_reducible refine Al.mk (fun x hx => ?_); cbv)
    | (with_reducible refine hK' _ ?_; clear hK' K'; cbv)
    | (with_reducible refine brA.yes (by first | assumption | exact rfl | (simp only [show oCmp = real.cmp from congrArg Ar.cmp ho, show oBin = real.bin from congrArg Ar.bin ho, show oScmp = real.scmp from congrArg Ar.scmp ho, show oPickB = real.pickB from congrArg Ar.pickB ho, show oBnot = real.bnot from congrArg Ar.bnot ho]; decide)) ?_; cbv)
    | (with_reducible refine brA.no (by first | assumption | exact rfl | (simp only [show oCmp = real.cmp from congrArg Ar.cmp ho, show oBin = real.bin from congrArg Ar.bin ho, show oScmp = real.scmp from congrArg Ar.scmp ho, show oPickB = real.pickB from congrArg Ar.pickB ho, show oBnot = real.bnot from congrArg Ar.bnot ho]; decide)) ?_; cbv)
    | (with_reducible refine bcase (fun hb => ?_) (fun hb => ?_) <;> cbv)
    | (intro K' hK'; cbv))))
    all_goals first
      | (((try clear hK' K'); cases ho; (try simp only [nc1] at *); (try simp only [Int.ofNat_eq_natCast] at *))
         have h20 : i < 20 := by have := l_lt hj hb1; have := hLL.1; omega
         first
         | omega
         | rfl
         | exact hE.g
         | with_reducible exact inb_lt hu (by assumption)
         | with_reducible exact ln_wf hR
         | with_reducible exact ln_ok hR hu (by assumption)
         | exact ap_ln hrd (by simp [es]; omega)
         | (obtain ⟨h1, h2⟩ := in_step hR hu (by assumption) hzl hrd hs
            have hi' := ln_lt hR hu (by assumption)
            exact ⟨⟨[], [(4, 2)], [3, 6, 7, 29, 30, 31, 39, 40, 41], [0, 1, 4], 3⟩, rfl, ⟨t + 1, real.bin .add .i64 u 1, _, _, addL hu (by omega), by omega, h1, h2, .inr rfl⟩, mea hu hi' (by omega)⟩)
         | exact (post_ok hzl).cargs (pend hR hu ht hzl hrd hs (by assumption))
         | exact (post_ok hzl).args (pend hR hu ht hzl hrd hs (by assumption))
         | exact con_args (post_ok hzl) (pend hR hu ht hzl hrd hs (by assumption)) (by assumption)
         | exact (ev1 hE h20 (post_ok hzl) (pend hR hu ht hzl hrd hs (by assumption)) (by assumption)).2.1
         | exact (no_err (ev1 hE h20 (post_ok hzl) (pend hR hu ht hzl hrd hs (by assumption)) hx).1 (by assumption)).elim
         | fail "")
      | (rename_i r2 hr2 q hq _
         ((try clear hK' K'); cases ho; (try simp only [nc1] at *); (try simp only [Int.ofNat_eq_natCast] at *))
         have h20 : i < 20 := by have := l_lt hj hb1; have := hLL.1; omega
         exact (no_err (ev2 hE h20 (post_ok hzl) (pend hR hu ht hzl hrd hs (by assumption)) hq hr2 hx).1 (by assumption)).elim)
      | skip
    rename_i hbi r2 hr2 q hq _
    obtain ⟨P, hP⟩ : ∃ P, P = oApp rd [[.int .i64 9, .int .i64 (oNeg .i64 s)]] := ⟨_, rfl⟩
    rw [← hP] at hr2 hq ⊢
    have hf : i < 20 ∧ P = lnR (es zs ++ [(9, -(isum zs))]) ∧ gB x.2 ∧ ∀ k, bal x.2 k = bal m k := by
      ((try clear hK' K'); cases ho; (try simp only [nc1] at *); (try simp only [Int.ofNat_eq_natCast] at *))
      have h20 : i < 20 := by have := l_lt hj hb1; have := hLL.1; omega
      have h5 : P = _ := hP.trans (pend hR hu ht hzl hrd hs (by assumption))
      exact ⟨h20, h5, (ev2 hE h20 (post_ok hzl) h5 hq hr2 hx).2⟩
    obtain ⟨h20, h5, h6, h7⟩ := hf
    have hL20 := hLL.1
    clear hr2 hq hP hs hrd ht hu hbi hR hx hb
    refine ⟨fun st => ∃ (k : Nat) (v : Int) (m2 : ML), v = k ∧ k ≤ 10 ∧ gB m2 ∧ (∀ k, bal m2 k = bal m k) ∧ st = ⟨mkF 117 0 [(3, .ptr 1 0), (6, .d (.imm P)), (11, .ptr 5 0), (29, .d (.imm L)), (30, .d (.int .i64 (oLen L))), (31, .d (.int .i64 j)), (88, .d (.int .i64 v))], 6, [(0, .mp .i64 m2), (1, .cells [.map 0]), (4, .mp .i64 m), (5, .cells [.map 4])]⟩, fun st => (10 - ctr 88 st).toNat, ⟨[], [], [3, 6, 11, 29, 30, 31, 88], [0, 1, 4, 5], 6⟩, ?_, ?_, ?_⟩
    · cbv
    · exact ⟨0, 0, x.2, rfl, Nat.zero_le _, h6, h7, rfl⟩
    clear h6 h7
    rintro st1 ⟨k, v, m2, hv, hk, h6, h7, rfl⟩
    cbv
    (repeat (any_goals (first
    | with_reducible refine And.intro ?_ ?_
    | exact True.intro
    | with_reducible exact rfl
    | (with_reducible refine Nd.mk ?_; try dsimp only)
    | (with_reducible refine Nd0.mk ?_; try dsimp only)
    | (with_reducible refine Pz.mk ?_; cbv)
    | (with_reducible refine RgOK.mk ?_; kernel_rfl)
    | (with_reducible refine OrOK.mk ?_; kernel_rfl)
    | (with_reducible refine Al.mk (fun x hx => ?_); cbv)
    | (with_reducible refine hK' _ ?_; clear hK' K'; cbv)
    | (with_reducible refine brA.yes (by first | assumption | exact rfl | (simp only [show oCmp = real.cmp from congrArg Ar.cmp ho, show oBin = real.bin from congrArg Ar.bin ho, show oScmp = real.scmp from congrArg Ar.scmp ho, show oPickB = real.pickB from congrArg Ar.pickB ho, show oBnot = real.bnot from congrArg Ar.bnot ho]; decide)) ?_; cbv)
    | (with_reducible refine brA.no (by first | assumption | exact rfl | (simp only [show oCmp = real.cmp from congrArg Ar.cmp ho, show oBin = real.bin from congrArg Ar.bin ho, show oScmp = real.scmp from congrArg Ar.scmp ho, show oPickB = real.pickB from congrArg Ar.pickB ho, show oBnot = real.bnot from congrArg Ar.bnot ho]; decide)) ?_; cbv)
    | (with_reducible refine bcase (fun hb => ?_) (fun hb => ?_) <;> cbv)
    | (intro K' hK'; cbv))))
    all_goals ((try clear hK' K'); cases ho; (try simp only [nc1] at *); (try simp only [Int.ofNat_eq_natCast] at *))
    all_goals first
      | omega
      | exact h6
      | exact hE.g
      | exact (post_ok hzl).args h5
      | exact (no_bal2 h7 hx (by assumption) (by assumption)).elim
      | exact (no_err2 (ev3 hE h20 (post_ok hzl) h5 ⟨h6, h7⟩ hx).1 (by assumption)).elim
      | exact (ev3 hE h20 (post_ok hzl) h5 ⟨h6, h7⟩ hx).2.g
      | (have hi' := lt10 hv (by assumption)
         refine ⟨⟨[], [], [3, 6, 11, 29, 30, 31, 88], [0, 1, 4, 5], 6⟩, rfl, ⟨k + 1, real.bin .add .i64 v 1, m2, addL hv (by omega), by omega, h6, h7, rfl⟩, ?_⟩
         show (10 - real.bin .add .i64 v 1).toNat < (10 - v).toNat
         rw [addL hv (by omega)]; omega)
      | (have h8 := (ev3 (q3 := _) hE h20 (post_ok hzl) h5 ⟨h6, h7⟩ (by assumption)).2
         have h9 := ev4 h8 (by omega) hx
         first
         | exact (no_err2 h9.1 (by assumption)).elim
         | exact (no_bal3 h9.2 (by assumption)).elim
         | exact ⟨⟨[], [], [3, 29, 30, 31], [0, 1], 2⟩, rfl, ⟨i + 1, real.bin .add .i64 j 1, _, addL hj (by omega), (have := l_lt hj hb1; by omega), h8, rfl⟩, mea hj (l_lt hj hb1) (by omega)⟩)
      | trace_state
end Go.Proofs.Yteakfibolfapiaa.Ab
