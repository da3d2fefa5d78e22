/- The reference's charts, by the executor: Right, Find, Add. The reference's reading of a chart, by the executor. -/
import Derived.Test.YteakfibolfapiaaTrRrA
namespace Go.Proofs.Yteakfibolfapiaa.Ab
open Go Go.RowKit Go.Sort
set_option linter.unusedVariables false
set_option linter.unusedSimpArgs false
set_option maxRecDepth 100000
set_option maxHeartbeats 8000000
/-! Right -/
theorem sx_lt {s : List UInt8} {j : Int} {q : Nat} (hj : j = q) (h : j < real.slen s) : q < s.length := by
  subst hj
  have h : (q : Int) < (s.length : Int) := h
  omega
theorem sx_end {s : List UInt8} {j : Int} {q : Nat} (hj : j = q) (h : ¬ j < real.slen s) : s.length ≤ q := by
  subst hj
  have h : ¬ (q : Int) < (s.length : Int) := h
  omega
theorem sx_bad {s : List UInt8} {j : Int} {q : Nat} (hj : j = q) (h : q < s.length) (hb : real.sidx s j < 32 ∨ real.sidx s j > 126) : rightN s = false := by
  subst hj
  refine bad_at h ?_
  simp only [real, Int.toNat_natCast] at hb
  simp only [okB, decide_eq_false_iff_not]
  omega
theorem sx_ok {s : List UInt8} {j : Int} {q : Nat} (hj : j = q) (h : q < s.length) (h0 : ¬ real.sidx s j < 32) (h2 : ¬ real.sidx s j > 126) (ha : (s.take q).all okB = true) : (s.take (q + 1)).all okB = true := by
  subst hj
  simp only [real, Int.toNat_natCast] at h0 h2
  rw [List.take_add_one, List.all_append, ha, List.getElem?_eq_getElem h]
  rw [List.getD_eq_getElem?_getD, List.getElem?_eq_getElem h] at h0 h2
  simp only [Option.getD_some] at h0 h2
  simp [okB]
  omega
theorem rb_yes2 {c k : Int} {s : List UInt8} {q : Nat} (h1 : ¬ c < 1) (h2 : ¬ c > 65535) (h3 : ¬ k < 1) (h4 : ¬ k > 5) (h5 : ¬ real.slen s < 1) (h6 : ¬ real.slen s > 24) (hl : s.length ≤ q) (ha : (s.take q).all okB = true) : true = rightB c k s := by
  rw [List.take_of_length_le hl] at ha
  have h6 : ¬ (s.length : Int) > 24 := h6
  have h5 : ¬ (s.length : Int) < 1 := h5
  have e1 : (1 ≤ c ∧ c ≤ 65535) := by omega
  have e2 : (1 ≤ k ∧ k ≤ 5) := by omega
  have e3 : (1 ≤ s.length ∧ s.length ≤ 24) := by omega
  simp only [rightB, rightN, e1, e2, e3, ha, decide_true, and_self, Bool.and_self]
theorem rn_short {s : List UInt8} (h : real.slen s < 1) : rightN s = false := by
  have h : (s.length : Int) < 1 := h
  have : ¬ (1 ≤ s.length ∧ s.length ≤ 24) := by omega
  simp only [rightN, this, decide_false, Bool.false_and]
theorem K_RRight0 (c k : Int) (s : List UInt8) (hs : s.length ≤ 1000000) : CallE Try.prog 28 [.d (.agg [.int .i64 c, .int .u8 k, .str s])] 0 [] (fun v n h => Nd (fun _ => Fin 0 (Gets fun v => v = .d (.bool (rightB c k s))) v n h)) := by
  refine call_fn tysOK orders (C := C0) C0_ok H0 Try.func28 (by kernel_rfl) (by kernel_rfl) ?_
  intro oBin oCmp oWrap oNeg oCom oBnot oBeq oPickB oPickI oPickS oInb oSub2 oMinI oMaxI oSlen oSidx oScat oSsub oScmp oScok oLen oCI oCB oCS oCL oOkR oApp oApok oSub oSetc oRep oMkok oNthI oNthB oNthS oIteI oIteB oIteS oB2s oS2b oAllB oWf oDeq oMlen oMhas oMI oMB oMS oMok oMput oMdel oSgo oSru oSnx ho; cbv
  (repeat (any_goals (first
    | with_reducible refine And.intro ?_ ?_
    | exact True.intro
    | with_reducible exact rfl
    | (with_reducible refine Nd.mk ?_; try dsimp only)
    | (with_reducible refine Pz.mk ?_; cbv)
    | (with_reducible refine RgOK.mk ?_; kernel_rfl)
    | (with_reducible refine OrOK.mk ?_; kernel_rfl)
    | (with_reducible refine Al.mk (fun x hx => ?_); cbv)
    | (with_reducible refine hK' _ ?_; clear hK' K'; cbv)
    | (with_reducible refine brA.yes (by first | assumption | exact rfl | (simp only [show oCmp = real.cmp from congrArg Ar.cmp ho, show oBin = real.bin from congrArg Ar.bin ho, show oScmp = real.scmp from congrArg Ar.scmp ho, show oPickB = real.pickB from congrArg Ar.pickB ho, show oBnot = real.bnot from congrArg Ar.bnot ho]; decide)) ?_; cbv)
    | (with_reducible refine brA.no (by first | assumption | exact rfl | (simp only [show oCmp = real.cmp from congrArg Ar.cmp ho, show oBin = real.bin from congrArg Ar.bin ho, show oScmp = real.scmp from congrArg Ar.scmp ho, show oPickB = real.pickB from congrArg Ar.pickB ho, show oBnot = real.bnot from congrArg Ar.bnot ho]; decide)) ?_; cbv)
    | (with_reducible refine bcase (fun hb => ?_) (fun hb => ?_) <;> cbv)
    | (intro K' hK'; cbv))))
  any_goals (refine ⟨fun st => ∃ (q : Nat) (j : Int), j = q ∧ q ≤ s.length ∧ (s.take q).all okB = true ∧ st = ⟨mkF 53 0 [(1, .ptr 0 0), (3, .d (.int .i64 j))], 1, [(0, .cells [.d (.int .i64 c), .d (.int .u8 k), .d (.str s)])]⟩, fun st => ((s.length : Int) - ctr 3 st).toNat, ⟨[], [], [1, 3], [0], 1⟩, ?_, ?_, ?_⟩
             · cbv
             · exact ⟨0, 0, rfl, Nat.zero_le _, rfl, rfl⟩
             rintro st1 ⟨q, j, hj, hq, ha, rfl⟩
             cbv
             (repeat (any_goals (first
    | with_reducible refine And.intro ?_ ?_
    | exact True.intro
    | with_reducible exact rfl
    | (with_reducible refine Nd.mk ?_; try dsimp only)
    | (with_reducible refine Pz.mk ?_; cbv)
    | (with_reducible refine RgOK.mk ?_; kernel_rfl)
    | (with_reducible refine OrOK.mk ?_; kernel_rfl)
    | (with_reducible refine Al.mk (fun x hx => ?_); cbv)
    | (with_reducible refine hK' _ ?_; clear hK' K'; cbv)
    | (with_reducible refine brA.yes (by first | assumption | exact rfl | (simp only [show oCmp = real.cmp from congrArg Ar.cmp ho, show oBin = real.bin from congrArg Ar.bin ho, show oScmp = real.scmp from congrArg Ar.scmp ho, show oPickB = real.pickB from congrArg Ar.pickB ho, show oBnot = real.bnot from congrArg Ar.bnot ho]; decide)) ?_; cbv)
    | (with_reducible refine brA.no (by first | assumption | exact rfl | (simp only [show oCmp = real.cmp from congrArg Ar.cmp ho, show oBin = real.bin from congrArg Ar.bin ho, show oScmp = real.scmp from congrArg Ar.scmp ho, show oPickB = real.pickB from congrArg Ar.pickB ho, show oBnot = real.bnot from congrArg Ar.bnot ho]; decide)) ?_; cbv)
    | (with_reducible refine bcase (fun hb => ?_) (fun hb => ?_) <;> cbv)
    | (intro K' hK'; cbv)))))
  all_goals ((try clear hK' K'); cases ho; (try simp only [nc1] at *); (try simp only [Int.ofNat_eq_natCast] at *))
  all_goals (try simp only [pkf, lssI, gtrI, decide_eq_true_eq, decide_eq_false_iff_not] at *)
  all_goals first
    | exact fin_b (rb_code (.inl (by assumption)))
    | exact fin_b (rb_code (.inr (by assumption)))
    | exact fin_b (rb_kind (.inl (by assumption)))
    | exact fin_b (rb_kind (.inr (by assumption)))
    | exact fin_b (rb_name (rn_short (by assumption)))
    | exact fin_b (rb_name (rn_long (by assumption)))
    | (have h5 := sx_lt hj (by assumption)
       first
       | exact fin_b (rb_name (sx_bad hj h5 (.inl (by assumption))))
       | exact fin_b (rb_name (sx_bad hj h5 (.inr (by assumption))))
       | (simp only [real, decide_eq_true_eq]; omega)
       | (have h6 := sx_ok hj h5 (by assumption) (by assumption) ha
          have h7 := add_1 hj (by omega)
          refine ⟨⟨[], [], [1, 3], [0], 1⟩, rfl, ⟨q + 1, real.bin .add .i64 j 1, h7, by omega, h6, rfl⟩, ?_⟩
          show ((s.length : Int) - real.bin .add .i64 j 1).toNat < ((s.length : Int) - j).toNat
          rw [h7]; omega))
    | (have h5 := sx_end hj (by assumption)
       exact fin_b (rb_yes2 (by assumption) (by assumption) (by assumption) (by assumption) (by assumption) (by assumption) h5 ha))
    | trace_state
def S_RRight (c k : Int) (s : List UInt8) (K : CallK) (n : Nat) (h : Hp) : Prop := Nd (fun _ => s.length ≤ 1000000) ∧ Al (fun b => b = rightB c k s) fun b => K (.d (.bool b)) n h
theorem L_RRight {c k : Int} {s : List UInt8} {n : Nat} {h : Hp} {K : CallK} (hK : S_RRight c k s K n h) : CallE Try.prog 28 [.d (.agg [.int .i64 c, .int .u8 k, .str s])] n h K :=
  call_data (CallE.fin (K_RRight0 c k s hK.1.h)) rfl (by rintro v rfl; exact hK.2.h _ rfl)
/-! Find -/
theorem fin_v {p : AV → Prop} {d : D} (h : p (.d d)) : Fin 0 (Gets p) (.d d) 0 [] := ⟨⟨[], [], [0], [], 0⟩, _, 0, _, rfl, rfl, ⟨h⟩, rfl, rfl, rfl⟩
theorem fd_no {l : List It.Acc} {x j : Int} {i : Nat} (hj : j = i) (hi : i < l.length) (h : real.cmp .eql (real.cI (aR l) j 0) x = false) (ha : ∀ a ∈ l.take i, a.c ≠ x) : ∀ a ∈ l.take (i + 1), a.c ≠ x := by
  intro a hm
  rw [List.take_succ_eq_append_getElem hi] at hm
  rcases List.mem_append.1 hm with hm | hm
  · exact ha a hm
  · simp only [List.mem_singleton] at hm
    subst hm
    rw [aR_c hj hi] at h
    intro e
    rw [e] at h
    simp [real, rCmp] at h
theorem fd_yes {l : List It.Acc} {x j : Int} {i : Nat} (hj : j = i) (hi : i < l.length) (h : real.cmp .eql (real.cI (aR l) j 0) x = true) : 0 ≤ j ↔ ∃ a ∈ l, a.c = x := by
  rw [aR_c hj hi] at h
  refine ⟨fun _ => ⟨l[i], List.getElem_mem _, by simpa [real, rCmp] using h⟩, fun _ => by omega⟩
theorem fd_none {l : List It.Acc} {x : Int} {i : Nat} (hi : l.length ≤ i) (ha : ∀ a ∈ l.take i, a.c ≠ x) : 0 ≤ (-1 : Int) ↔ ∃ a ∈ l, a.c = x := by
  rw [List.take_of_length_le hi] at ha
  refine ⟨fun h => by omega, ?_⟩
  rintro ⟨a, hm, e⟩
  exact absurd e (ha a hm)
theorem K_Find0 (r : List (List D)) (l : List It.Acc) (hr : r = aR l) (hl : l.length ≤ 1000) (x : Int) : CallE Try.prog 33 [.d (.imm r), .d (.int .i64 x)] 0 [] (fun v n h => Nd (fun _ => Fin 0 (Gets fun v => ∃ z, v = .d (.int .i64 z) ∧ (0 ≤ z ↔ ∃ a ∈ l, a.c = x)) v n h)) := by
  refine call_fn tysOK orders (C := C0) C0_ok H0 Try.func33 (by kernel_rfl) (by kernel_rfl) ?_
  intro oBin oCmp oWrap oNeg oCom oBnot oBeq oPickB oPickI oPickS oInb oSub2 oMinI oMaxI oSlen oSidx oScat oSsub oScmp oScok oLen oCI oCB oCS oCL oOkR oApp oApok oSub oSetc oRep oMkok oNthI oNthB oNthS oIteI oIteB oIteS oB2s oS2b oAllB oWf oDeq oMlen oMhas oMI oMB oMS oMok oMput oMdel oSgo oSru oSnx ho; cbv
  (repeat (any_goals (first
    | with_reducible refine And.intro ?_ ?_
    | exact True.intro
    | with_reducible exact rfl
    | (with_reducible refine Nd.mk ?_; try dsimp only)
    | (with_reducible refine Pz.mk ?_; cbv)
    | (with_reducible refine RgOK.mk ?_; kernel_rfl)
    | (with_reducible refine OrOK.mk ?_; kernel_rfl)
    | (with_reducible refine Al.mk (fun x hx => ?_); cbv)
    | (with_reducible refine hK' _ ?_; clear hK' K'; cbv)
    | (with_reducible refine brA.yes (by first | assumption | exact rfl | (simp only [show oCmp = real.cmp from congrArg Ar.cmp ho, show oBin = real.bin from congrArg Ar.bin ho, show oScmp = real.scmp from congrArg Ar.scmp ho, show oPickB = real.pickB from congrArg Ar.pickB ho, show oBnot = real.bnot from congrArg Ar.bnot ho]; decide)) ?_; cbv)
    | (with_reducible refine brA.no (by first | assumption | exact rfl | (simp only [show oCmp = real.cmp from congrArg Ar.cmp ho, show oBin = real.bin from congrArg Ar.bin ho, show oScmp = real.scmp from congrArg Ar.scmp ho, show oPickB = real.pickB from congrArg Ar.pickB ho, show oBnot = real.bnot from congrArg Ar.bnot ho]; decide)) ?_; cbv)
    | (with_reducible refine bcase (fun hb => ?_) (fun hb => ?_) <;> cbv)
    | (intro K' hK'; cbv))))
  refine ⟨fun st => ∃ (i : Nat) (j : Int), j = i ∧ i ≤ l.length ∧ (∀ a ∈ l.take i, a.c ≠ x) ∧ st = ⟨mkF 20 0 [(0, .d (.imm r)), (1, .d (.int .i64 x)), (5, .d (.int .i64 j))], 0, []⟩, fun st => ((l.length : Int) - ctr 5 st).toNat, ⟨[], [], [0, 1, 5], [], 0⟩, ?_, ?_, ?_⟩
  · cbv
  · exact ⟨0, 0, rfl, Nat.zero_le _, (fun a h => by cases h), rfl⟩
  rintro st1 ⟨i, j, hj, hi, ha, rfl⟩
  cbv
  (repeat (any_goals (first
    | with_reducible refine And.intro ?_ ?_
    | exact True.intro
    | with_reducible exact rfl
    | (with_reducible refine Nd.mk ?_; try dsimp only)
    | (with_reducible refine Pz.mk ?_; cbv)
    | (with_reducible refine RgOK.mk ?_; kernel_rfl)
    | (with_reducible refine OrOK.mk ?_; kernel_rfl)
    | (with_reducible refine Al.mk (fun x hx => ?_); cbv)
    | (with_reducible refine hK' _ ?_; clear hK' K'; cbv)
    | (with_reducible refine brA.yes (by first | assumption | exact rfl | (simp only [show oCmp = real.cmp from congrArg Ar.cmp ho, show oBin = real.bin from congrArg Ar.bin ho, show oScmp = real.scmp from congrArg Ar.scmp ho, show oPickB = real.pickB from congrArg Ar.pickB ho, show oBnot = real.bnot from congrArg Ar.bnot ho]; decide)) ?_; cbv)
    | (with_reducible refine brA.no (by first | assumption | exact rfl | (simp only [show oCmp = real.cmp from congrArg Ar.cmp ho, show oBin = real.bin from congrArg Ar.bin ho, show oScmp = real.scmp from congrArg Ar.scmp ho, show oPickB = real.pickB from congrArg Ar.pickB ho, show oBnot = real.bnot from congrArg Ar.bnot ho]; decide)) ?_; cbv)
    | (with_reducible refine bcase (fun hb => ?_) (fun hb => ?_) <;> cbv)
    | (intro K' hK'; cbv))))
  all_goals ((try clear hK' K'); cases ho; (try simp only [nc1] at *); (try simp only [Int.ofNat_eq_natCast] at *))
  all_goals subst hr
  all_goals first
    | (have h5 := lt_aR hj (by assumption)
       first
       | with_reducible exact in_aR hj h5
       | with_reducible exact aR_wf l
       | with_reducible exact aR_ok1 hj h5
       | exact fin_v ⟨j, rfl, fd_yes hj h5 (by assumption)⟩
       | (have h6 := fd_no hj h5 (by assumption) ha
          have h7 := add_1 hj (by omega)
          refine ⟨⟨[], [], [0, 1, 5], [], 0⟩, rfl, ⟨i + 1, real.bin .add .i64 j 1, h7, by omega, h6, rfl⟩, ?_⟩
          show ((l.length : Int) - real.bin .add .i64 j 1).toNat < ((l.length : Int) - j).toNat
          rw [h7]; omega))
    | (have h5 := ge_aR hj (by assumption)
       exact fin_v ⟨-1, rfl, fd_none h5 ha⟩)
    | trace_state
def S_Find (r : List (List D)) (x : Int) (K : CallK) (n : Nat) (h : Hp) : Prop := Nd (fun _ => isAR r ∧ r.length ≤ 1000) ∧ Al (fun z : Int => ∀ l, r = aR l → (0 ≤ z ↔ ∃ a ∈ l, a.c = x)) fun z => K (.d (.int .i64 z)) n h
theorem L_Find {r : List (List D)} {x : Int} {n : Nat} {h : Hp} {K : CallK} (hK : S_Find r x K n h) : CallE Try.prog 33 [.d (.imm r), .d (.int .i64 x)] n h K := by
  obtain ⟨⟨⟨l, hr⟩, hl⟩, hk⟩ := hK
  refine call_data (CallE.fin (K_Find0 r l hr (by rw [hr, aR_len] at hl; exact hl) x)) rfl ?_
  rintro v ⟨z, rfl, hz⟩
  exact hk.h z fun l' e => by rw [hr] at e; rw [← aR_inj e]; exact hz
/-! Add -/
def R5 : CallS := fun f args n h K => match f with
  | 28 => (match args with | [.d (.agg [.int .i64 c, .int .u8 k, .str s])] => S_RRight c k s K n h | _ => False)
  | 33 => (match args with | [.d (.imm r), .d (.int .i64 x)] => S_Find r x K n h | _ => False)
  | _ => False
theorem R5_ok : ∀ f args n h K, R5 f args n h K → CallE Try.prog f args n h K := by
  intro f args n h K hc
  unfold R5 at hc
  split at hc
  · split at hc
    · exact L_RRight hc
    · exact hc.elim
  · split at hc
    · exact L_Find hc
    · exact hc.elim
  · exact hc.elim
def kRA (l : List It.Acc) (a : It.Acc) (v : AV) : Prop := ∃ r', r' = aR (rAddL l a) ∧ v = .tup [.d (.imm r'), .d (.int .i64 (rAddE l a))]
section
variable {l o : List It.Acc} {a : It.Acc} {i : Nat} {j : Int} {d x : Bool} {z : Int} {r out : List (List D)}
theorem ra_2 (hx : x = rightB a.c a.k a.s) (hb : real.bnot x = true) : rAddE l a = 2 := by
  subst hx
  have h : rightB a.c a.k a.s = false := by simpa [real] using hb
  simp [rAddE, rgt, h]
theorem ra_rg (hx : x = rightB a.c a.k a.s) (hb : real.bnot x = false) : rgt a = true := by
  subst hx
  show rightB a.c a.k a.s = true
  simpa [real] using hb
theorem ra_16 (hr : r = aR l) (hx : x = rightB a.c a.k a.s) (hb : real.bnot x = false) (hz : ∀ l', r = aR l' → (0 ≤ z ↔ ∃ b, b ∈ l' ∧ b.c = a.c)) (hz2 : real.cmp .geq z 0 = true) : rAddE l a = 16 := by
  have h1 : ∃ b ∈ l, b.c = a.c := (hz l hr).1 (of_decide_eq_true hz2)
  rw [rAddE, if_pos (ra_rg hx hb), if_pos h1]
theorem ra_7 (hr : r = aR l) (hx : x = rightB a.c a.k a.s) (hb : real.bnot x = false) (hz : ∀ l', r = aR l' → (0 ≤ z ↔ ∃ b, b ∈ l' ∧ b.c = a.c)) (hz2 : real.cmp .geq z 0 = false) (hl : real.cmp .geq (real.len r) 64 = true) : rAddE l a = 7 := by
  have h1 : ¬ ∃ b ∈ l, b.c = a.c := fun h => of_decide_eq_false hz2 ((hz l hr).2 h)
  have h2 : 64 ≤ l.length := by
    have h3 : (r.length : Int) ≥ 64 := of_decide_eq_true hl
    rw [hr, aR_len] at h3
    omega
  rw [rAddE, if_pos (ra_rg hx hb), if_neg h1, if_pos h2]
theorem ra_0 (hr : r = aR l) (hx : x = rightB a.c a.k a.s) (hb : real.bnot x = false) (hz : ∀ l', r = aR l' → (0 ≤ z ↔ ∃ b, b ∈ l' ∧ b.c = a.c)) (hz2 : real.cmp .geq z 0 = false) (hl : real.cmp .geq (real.len r) 64 = false) : rAddE l a = 0 := by
  have h1 : ¬ ∃ b ∈ l, b.c = a.c := fun h => of_decide_eq_false hz2 ((hz l hr).2 h)
  have h2 : ¬ 64 ≤ l.length := by
    have h3 : ¬ (r.length : Int) ≥ 64 := of_decide_eq_false hl
    rw [hr, aR_len] at h3
    omega
  rw [rAddE, if_pos (ra_rg hx hb), if_neg h1, if_neg h2]
theorem ra_gt (hj : j = i) (h5 : i < l.length) (hq : insS a (l.take i) = (o, d)) (hd : real.bnot d = true) (hb : real.pickB true (real.cmp .gtr (real.cI (aR l) j 0) a.c) false = true) : insS a (l.take (i + 1)) = (o ++ [a, l[i]], true) := by
  rw [insS_take h5, hq]
  rw [aR_c hj h5] at hb
  have h1 : l[i].c > a.c := of_decide_eq_true hb
  have h2 : d = false := by simpa [real] using hd
  unfold insF
  rw [if_pos ⟨h2, h1⟩]
theorem ra_le (hj : j = i) (h5 : i < l.length) (hq : insS a (l.take i) = (o, d)) (hb : real.pickB true (real.cmp .gtr (real.cI (aR l) j 0) a.c) false = false) : insS a (l.take (i + 1)) = (o ++ [l[i]], d) := by
  rw [insS_take h5, hq]
  rw [aR_c hj h5] at hb
  have h1 : ¬ l[i].c > a.c := of_decide_eq_false hb
  unfold insF
  rw [if_neg (fun h => h1 h.2)]
theorem ra_dn (h5 : i < l.length) (hq : insS a (l.take i) = (o, d)) (hd : real.bnot d = false) : insS a (l.take (i + 1)) = (o ++ [l[i]], d) := by
  rw [insS_take h5, hq]
  have h2 : d = true := by simpa [real] using hd
  unfold insF
  rw [if_neg (fun h => by rw [h2] at h; cases h.1)]
theorem ra_ln (hi : i ≤ l.length) (hq : insS a (l.take i) = (o, d)) : o.length ≤ l.length + 1 := by
  have := (insS_len a (l.take i)).1
  rw [hq] at this
  simp at this
  omega
theorem ra_row (hj : j = i) (h5 : i < l.length) : real.app (aR o) [[.int .i64 (real.cI (aR l) j 0), .int .u8 (real.cI (aR l) j 1), .str (real.cS (aR l) j 2)]] = aR (o ++ [l[i]]) := by
  rw [aR_c hj h5, aR_k hj h5, aR_s hj h5]
  exact aR_app o l[i]
theorem ra_row0 (hj : j = i) (h5 : i < l.length) : real.app [] [[.int .i64 (real.cI (aR l) j 0), .int .u8 (real.cI (aR l) j 1), .str (real.cS (aR l) j 2)]] = aR [l[i]] := ra_row (o := []) hj h5
theorem ra_row2 (hj : j = i) (h5 : i < l.length) : real.app (real.app (aR o) [[.int .i64 a.c, .int .u8 a.k, .str a.s]]) [[.int .i64 (real.cI (aR l) j 0), .int .u8 (real.cI (aR l) j 1), .str (real.cS (aR l) j 2)]] = aR (o ++ [a, l[i]]) := by
  rw [aR_app, ra_row hj h5]
  simp
theorem ra_o0 (h0 : i = 0) (hq : insS a (l.take i) = (o, d)) : o = [] := by
  subst h0
  exact (congrArg Prod.fst hq).symm
theorem ra_end1 (hi : i ≤ l.length) (h5 : l.length ≤ i) (hq : insS a (l.take i) = (o, d)) (hd : real.bnot d = true) : ins l a = o ++ [a] := by
  rw [List.take_of_length_le h5] at hq
  have h2 : d = false := by simpa [real] using hd
  simp [ins, hq, h2]
theorem ra_end2 (hi : i ≤ l.length) (h5 : l.length ≤ i) (hq : insS a (l.take i) = (o, d)) (hd : real.bnot d = false) : ins l a = o := by
  rw [List.take_of_length_le h5] at hq
  have h2 : d = true := by simpa [real] using hd
  simp [ins, hq, h2]
theorem fin_ra1 {e : Int} (hr : r = aR l) (he : rAddE l a = e) (h0 : e ≠ 0) : Fin 0 (Gets (kRA l a)) (.tup [.d (.imm r), .d (.int .i64 e)]) 0 [] := by
  subst he
  exact ⟨⟨[], [], [0], [], 0⟩, _, 0, _, rfl, rfl, ⟨r, by rw [rAddL, if_neg h0]; exact hr, rfl⟩, rfl, rfl, rfl⟩
theorem fin_ra2 {ob : Ob} (he : rAddE l a = 0) (ho : out = aR (ins l a)) : Fin 0 (Gets (kRA l a)) (.tup [.sl 1, .d (.int .i64 0)]) 2 [(0, ob), (1, .row 3 out)] := by
  refine ⟨⟨[1], [], [0], [], 0⟩, .tup [.d (.imm out), .d (.int .i64 0)], 0, _, rfl, rfl, ⟨out, by rw [rAddL, if_pos he]; exact ho, by rw [he]⟩, rfl, rfl, rfl⟩
theorem fin_ra3 {ob : Ob} (he : rAddE l a = 0) (ho : out = aR (ins l a)) : Fin 0 (Gets (kRA l a)) (.tup [.sl 2, .d (.int .i64 0)]) 3 [(0, ob), (2, .row 3 out)] := by
  refine ⟨⟨[2], [], [0], [], 0⟩, .tup [.d (.imm out), .d (.int .i64 0)], 0, _, rfl, rfl, ⟨out, by rw [rAddL, if_pos he]; exact ho, by rw [he]⟩, rfl, rfl, rfl⟩
theorem bd_t (h : real.bnot d = true) : d = false := by simpa [real] using h
theorem bd_f (h : real.bnot d = false) : d = true := by simpa [real] using h
end
theorem K_RAdd0 (r : List (List D)) (l : List It.Acc) (hr : r = aR l) (hl : l.length ≤ 900) (c k : Int) (s : List UInt8) (hs : s.length ≤ 1000000) : CallE Try.prog 19 [.d (.imm r), .d (.agg [.int .i64 c, .int .u8 k, .str s])] 0 [] (fun v n h => Nd (fun _ => Fin 0 (Gets (kRA l ⟨c, k, s⟩)) v n h)) := by
  refine call_fn tysOK orders (C := R5) R5_ok ⟨[((14, 1000000), [0, 2, 4, 6, 8, 10, 12, 14, 16, 19, 20, 22])], [], 0⟩ Try.func19 (by kernel_rfl) (by kernel_rfl) ?_
  intro oBin oCmp oWrap oNeg oCom oBnot oBeq oPickB oPickI oPickS oInb oSub2 oMinI oMaxI oSlen oSidx oScat oSsub oScmp oScok oLen oCI oCB oCS oCL oOkR oApp oApok oSub oSetc oRep oMkok oNthI oNthB oNthS oIteI oIteB oIteS oB2s oS2b oAllB oWf oDeq oMlen oMhas oMI oMB oMS oMok oMput oMdel oSgo oSru oSnx ho; cbv
  (repeat (any_goals (first
    | with_reducible refine And.intro ?_ ?_
    | exact True.intro
    | with_reducible exact rfl
    | (with_reducible refine Nd.mk ?_; try dsimp only)
    | (with_reducible refine Pz.mk ?_; cbv)
    | (with_reducible refine RgOK.mk ?_; kernel_rfl)
    | (with_reducible refine OrOK.mk ?_; kernel_rfl)
    | (with_reducible refine Al.mk (fun x hx => ?_); cbv)
    | (with_reducible refine hK' _ ?_; clear hK' K'; cbv)
    | (with_reducible refine brA.yes (by first | assumption | exact rfl | (simp only [show oCmp = real.cmp from congrArg Ar.cmp ho, show oBin = real.bin from congrArg Ar.bin ho, show oScmp = real.scmp from congrArg Ar.scmp ho, show oPickB = real.pickB from congrArg Ar.pickB ho, show oBnot = real.bnot from congrArg Ar.bnot ho]; decide)) ?_; cbv)
    | (with_reducible refine brA.no (by first | assumption | exact rfl | (simp only [show oCmp = real.cmp from congrArg Ar.cmp ho, show oBin = real.bin from congrArg Ar.bin ho, show oScmp = real.scmp from congrArg Ar.scmp ho, show oPickB = real.pickB from congrArg Ar.pickB ho, show oBnot = real.bnot from congrArg Ar.bnot ho]; decide)) ?_; cbv)
    | (with_reducible refine bcase (fun hb => ?_) (fun hb => ?_) <;> cbv)
    | (intro K' hK'; cbv))))
  any_goals (refine ⟨fun st => ∃ (i : Nat) (j : Int) (o : List It.Acc) (d : Bool) (out : List (List D)), j = i ∧ i ≤ l.length ∧ insS ⟨c, k, s⟩ (l.take i) = (o, d) ∧ out = aR o ∧
      ((i = 0 ∧ st = ⟨mkF 63 0 [(0, .d (.imm r)), (3, .ptr 0 0), (8, .d .nilsl), (9, .d (.bool d)), (10, .d (.int .i64 j))], 1, [(0, .cells [.d (.int .i64 c), .d (.int .u8 k), .d (.str s)])]⟩) ∨
       st = ⟨mkF 63 0 [(0, .d (.imm r)), (3, .ptr 0 0), (8, .sl 1), (9, .d (.bool d)), (10, .d (.int .i64 j))], 2, [(0, .cells [.d (.int .i64 c), .d (.int .u8 k), .d (.str s)]), (1, .row 3 out)]⟩),
      fun st => ((l.length : Int) - ctr 10 st).toNat, ⟨[], [], [0, 3, 8, 9, 10], [0], 1⟩, ?_, ?_, ?_⟩
             · cbv
             · exact ⟨0, 0, [], false, [], rfl, Nat.zero_le _, rfl, rfl, .inl ⟨rfl, rfl⟩⟩
             rintro st1 ⟨i, j, o, d, out, hj, hi, hq, hout, ⟨h0, rfl⟩ | rfl⟩
             all_goals cbv
             (repeat (any_goals (first
    | with_reducible refine And.intro ?_ ?_
    | exact True.intro
    | with_reducible exact rfl
    | (with_reducible refine Nd.mk ?_; try dsimp only)
    | (with_reducible refine Pz.mk ?_; cbv)
    | (with_reducible refine RgOK.mk ?_; kernel_rfl)
    | (with_reducible refine OrOK.mk ?_; kernel_rfl)
    | (with_reducible refine Al.mk (fun x hx => ?_); cbv)
    | (with_reducible refine hK' _ ?_; clear hK' K'; cbv)
    | (with_reducible refine brA.yes (by first | assumption | exact rfl | (simp only [show oCmp = real.cmp from congrArg Ar.cmp ho, show oBin = real.bin from congrArg Ar.bin ho, show oScmp = real.scmp from congrArg Ar.scmp ho, show oPickB = real.pickB from congrArg Ar.pickB ho, show oBnot = real.bnot from congrArg Ar.bnot ho]; decide)) ?_; cbv)
    | (with_reducible refine brA.no (by first | assumption | exact rfl | (simp only [show oCmp = real.cmp from congrArg Ar.cmp ho, show oBin = real.bin from congrArg Ar.bin ho, show oScmp = real.scmp from congrArg Ar.scmp ho, show oPickB = real.pickB from congrArg Ar.pickB ho, show oBnot = real.bnot from congrArg Ar.bnot ho]; decide)) ?_; cbv)
    | (with_reducible refine bcase (fun hb => ?_) (fun hb => ?_) <;> cbv)
    | (intro K' hK'; cbv)))))
  all_goals ((try clear hK' K'); cases ho; (try simp only [nc1] at *); (try simp only [Int.ofNat_eq_natCast] at *))
  all_goals first
    | exact hs
    | exact ⟨l, hr⟩
    | (show r.length ≤ 1000; rw [hr, aR_len]; omega)
    | exact fin_ra1 hr (ra_2 ‹_ = rightB c k s› (by assumption)) (by decide)
    | exact fin_ra1 hr (ra_16 hr ‹_ = rightB c k s› (by assumption) hx (by assumption)) (by decide)
    | exact fin_ra1 hr (ra_7 hr ‹_ = rightB c k s› (by assumption) hx ‹real.cmp .geq x 0 = false› (by assumption)) (by decide)
    | (have h9 := ra_0 (a := ⟨c, k, s⟩) hr ‹_ = rightB c k s› (by assumption) hx ‹real.cmp .geq x 0 = false› (by assumption)
       have h8 := ra_ln hi hq
       subst hout
       subst hr
       first
       | (have h5 := lt_aR hj (by assumption)
          first
          | with_reducible exact in_aR hj h5
          | with_reducible exact aR_wf l
          | with_reducible exact aR_ok3 hj h5
          | with_reducible exact aR_ok1 hj h5
          | exact aR_apok (xs := o) (a := ⟨_, _, _⟩) (by omega)
          | exact aR_apok (xs := []) (a := ⟨_, _, _⟩) (by decide)
          | (have e := aR_app o ⟨c, k, s⟩
             rw [show real.app (aR o) [[.int .i64 c, .int .u8 k, .str s]] = aR (o ++ [⟨c, k, s⟩]) from e]
             exact aR_apok (a := ⟨_, _, _⟩) (by simp; omega))
          | (have e := aR_app [] ⟨c, k, s⟩
             rw [show real.app [] [[.int .i64 c, .int .u8 k, .str s]] = aR ([] ++ [⟨c, k, s⟩]) from e]
             exact aR_apok (a := ⟨_, _, _⟩) (by simp))
          | (have h7 := add_1 hj (by omega)
             first
             | (have h6 := ra_gt (a := ⟨c, k, s⟩) hj h5 hq (by assumption) (by assumption)
                first
                | (refine ⟨⟨[], [(3, 1)], [0, 3, 8, 9, 10], [0, 3], 2⟩, rfl, ⟨i + 1, real.bin .add .i64 j 1, _, true, _, h7, by omega, h6, ra_row2 (a := ⟨c, k, s⟩) hj h5, .inr rfl⟩, ?_⟩; show ((l.length : Int) - real.bin .add .i64 j 1).toNat < ((l.length : Int) - j).toNat; rw [h7]; omega)
                | (have e0 := ra_o0 h0 hq
                   subst e0
                   (refine ⟨⟨[], [(2, 1)], [0, 3, 8, 9, 10], [0, 2], 2⟩, rfl, ⟨i + 1, real.bin .add .i64 j 1, _, true, _, h7, by omega, h6, ra_row2 (o := []) (a := ⟨c, k, s⟩) hj h5, .inr rfl⟩, ?_⟩; show ((l.length : Int) - real.bin .add .i64 j 1).toNat < ((l.length : Int) - j).toNat; rw [h7]; omega)))
             | (have h6 := ra_le (a := ⟨c, k, s⟩) hj h5 hq (by assumption)
                first
                | (refine ⟨⟨[], [(2, 1)], [0, 3, 8, 9, 10], [0, 2], 2⟩, rfl, ⟨i + 1, real.bin .add .i64 j 1, _, d, _, h7, by omega, h6, ra_row hj h5, .inr rfl⟩, ?_⟩; show ((l.length : Int) - real.bin .add .i64 j 1).toNat < ((l.length : Int) - j).toNat; rw [h7]; omega)
                | (have e0 := ra_o0 h0 hq
                   subst e0
                   (refine ⟨⟨[], [(1, 1)], [0, 3, 8, 9, 10], [0, 1], 2⟩, rfl, ⟨i + 1, real.bin .add .i64 j 1, _, d, _, h7, by omega, h6, ra_row0 hj h5, .inr rfl⟩, ?_⟩; show ((l.length : Int) - real.bin .add .i64 j 1).toNat < ((l.length : Int) - j).toNat; rw [h7]; omega)))
             | (have h6 := ra_dn (a := ⟨c, k, s⟩) h5 hq (by assumption)
                first
                | (refine ⟨⟨[], [(2, 1)], [0, 3, 8, 9, 10], [0, 2], 2⟩, rfl, ⟨i + 1, real.bin .add .i64 j 1, _, d, _, h7, by omega, h6, ra_row hj h5, .inr rfl⟩, ?_⟩; show ((l.length : Int) - real.bin .add .i64 j 1).toNat < ((l.length : Int) - j).toNat; rw [h7]; omega)
                | (have e0 := ra_o0 h0 hq
                   subst e0
                   (refine ⟨⟨[], [(1, 1)], [0, 3, 8, 9, 10], [0, 1], 2⟩, rfl, ⟨i + 1, real.bin .add .i64 j 1, _, d, _, h7, by omega, h6, ra_row0 hj h5, .inr rfl⟩, ?_⟩; show ((l.length : Int) - real.bin .add .i64 j 1).toNat < ((l.length : Int) - j).toNat; rw [h7]; omega)))))
       | (have h5 := ge_aR hj (by assumption)
          first
          | exact aR_apok (xs := o) (a := ⟨_, _, _⟩) (by omega)
          | exact aR_apok (xs := []) (a := ⟨_, _, _⟩) (by decide)
          | exact fin_ra3 h9 (by rw [ra_end1 (a := ⟨c, k, s⟩) hi h5 hq (by assumption)]; exact aR_app o ⟨c, k, s⟩)
          | exact fin_ra2 h9 (by rw [ra_end2 (a := ⟨c, k, s⟩) hi h5 hq (by assumption)])
          | (have e0 := ra_o0 h0 hq
             subst e0
             exact fin_ra2 h9 (by rw [ra_end1 (a := ⟨c, k, s⟩) hi h5 hq (by assumption)]; exact aR_app [] ⟨c, k, s⟩))
          | (exfalso
             subst h0
             have e1 := congrArg Prod.snd hq
             have e2 := bd_f (by assumption)
             rw [e2] at e1
             cases e1)))
    | trace_state
def S_RAdd (r : List (List D)) (c k : Int) (s : List UInt8) (K : CallK) (n : Nat) (h : Hp) : Prop := Nd (fun _ => isAR r ∧ r.length ≤ 900 ∧ s.length ≤ 1000000) ∧
  Al (fun q : List (List D) × Int => ∀ l, r = aR l → q.1 = aR (rAddL l ⟨c, k, s⟩) ∧ q.2 = rAddE l ⟨c, k, s⟩) fun q => K (.tup [.d (.imm q.1), .d (.int .i64 q.2)]) n h
theorem L_RAdd {r : List (List D)} {c k : Int} {s : List UInt8} {n : Nat} {h : Hp} {K : CallK} (hK : S_RAdd r c k s K n h) : CallE Try.prog 19 [.d (.imm r), .d (.agg [.int .i64 c, .int .u8 k, .str s])] n h K := by
  obtain ⟨⟨⟨l, hr⟩, hl, hs⟩, hk⟩ := hK
  refine call_data (CallE.fin (K_RAdd0 r l hr (by rw [hr, aR_len] at hl; exact hl) c k s hs)) rfl ?_
  rintro v ⟨r', hr', rfl⟩
  exact hk.h (r', rAddE l ⟨c, k, s⟩) fun l' e => by rw [hr] at e; rw [← aR_inj e]; exact ⟨hr', rfl⟩
def R6 : CallS := fun f args n h K => match f with
  | 19 => (match args with | [.d (.imm r), .d (.agg [.int .i64 c, .int .u8 k, .str s])] => S_RAdd r c k s K n h | _ => False)
  | _ => False
theorem R6_ok : ∀ f args n h K, R6 f args n h K → CallE Try.prog f args n h K := by
  intro f args n h K hc
  unfold R6 at hc
  split at hc
  · split at hc
    · exact L_RAdd hc
    · exact hc.elim
  · exact hc.elim
def kRR (s : List UInt8) (v : AV) : Prop := (∃ l rest r z, rdC s = some (l, rest) ∧ r = aR l ∧ z = ((s.length - rest.length : Nat) : Int) ∧ v = .tup [.d (.imm r), .d (.int .i64 z), .d (.int .i64 0)]) ∨ (rdC s = none ∧ v = .tup [.d (.imm []), .d (.int .i64 0), .d (.int .i64 4)])
section
variable {s : List UInt8} {a i : Nat} {z j : Int} {l : List It.Acc} {r : List (List D)} {m : Nat}
theorem zadd {k : Int} (hz : z = a) (ha : a ≤ 1000000) (h0 : 0 ≤ k) (h1 : k ≤ 1000) : real.bin .add .i64 z k = (a : Int) + k := by
  subst hz
  simp only [real, rBin]
  rw [wrap_i64 _ (by omega) (by omega)]
theorem sx (s : List UInt8) (i : Nat) : real.sidx s (i : Int) = bt s i := rfl
theorem wr_bt (s : List UInt8) (i : Nat) : real.wrap .i64 (real.sidx s (i : Int)) = bt s i := by
  have := bt_lt s i
  rw [sx]
  exact wrap_i64 _ (by omega) (by omega)
theorem rr_in (hj : j = i) (hb : real.cmp .lss j (real.wrap .i64 (real.sidx s 0)) = true) {x : List UInt8} (hgo : rdGo (bt s 0 - i) x l = rdC s) : i < bt s 0 ∧ rdGo ((bt s 0 - (i + 1)) + 1) x l = rdC s := by
  have e : real.wrap .i64 (real.sidx s 0) = bt s 0 := wr_bt s 0
  rw [e] at hb
  have hb : j < bt s 0 := of_decide_eq_true hb
  have h1 : i < bt s 0 := by omega
  refine ⟨h1, ?_⟩
  rw [← hgo]
  congr 1
  omega
theorem rr_none {s0 : List UInt8} (h : rdGo (m + 1) s l = rdC s0) (hc : ¬ (rdOK s = true ∧ lastC l < (rdA s).c ∧ rgt (rdA s) = true ∧ l.length < 64)) : rdC s0 = none := by
  rw [← h, rdGo, if_neg hc]
theorem rr_1 (hz : z = a) (ha : a ≤ s.length) (hs : s.length ≤ 1000000) (hb : real.cmp .gtr (real.bin .add .i64 z 4) (real.slen s) = true) : rdOK (s.drop a) = false := by
  rw [zadd hz (by omega) (by decide) (by decide)] at hb
  have hb : (a : Int) + 4 > (s.length : Int) := of_decide_eq_true hb
  simp only [rdOK, List.length_drop, decide_eq_false_iff_not]
  omega
theorem rr_2 (hz : z = a) (ha : a ≤ s.length) (hs : s.length ≤ 1000000) (hb : real.cmp .gtr (real.bin .add .i64 z 4) (real.slen s) = false) : a + 4 ≤ s.length := by
  rw [zadd hz (by omega) (by decide) (by decide)] at hb
  have hb : ¬ (a : Int) + 4 > (s.length : Int) := of_decide_eq_false hb
  omega
theorem rr_k (hz : z = a) (ha : a + 4 ≤ s.length) (hs : s.length ≤ 1000000) : real.bin .add .i64 (real.bin .add .i64 z 4) (real.wrap .i64 (real.sidx s (real.bin .add .i64 z 3))) = ((a + 4 + bt s (a + 3) : Nat) : Int) := by
  have h3 : real.bin .add .i64 z 3 = ((a + 3 : Nat) : Int) := by rw [zadd hz (by omega) (by decide) (by decide)]; rfl
  have hb := bt_lt s (a + 3)
  rw [h3, wr_bt, zadd hz (by omega) (by decide) (by decide)]
  simp only [real, rBin]
  rw [wrap_i64 _ (by omega) (by omega)]
  omega
theorem rr_3 (hz : z = a) (ha : a + 4 ≤ s.length) (hs : s.length ≤ 1000000) (hb : real.cmp .gtr (real.bin .add .i64 (real.bin .add .i64 z 4) (real.wrap .i64 (real.sidx s (real.bin .add .i64 z 3)))) (real.slen s) = true) : rdOK (s.drop a) = false := by
  rw [rr_k hz ha hs] at hb
  have hb : ((a + 4 + bt s (a + 3) : Nat) : Int) > (s.length : Int) := of_decide_eq_true hb
  simp only [rdOK, List.length_drop, decide_eq_false_iff_not, bt_drop]
  omega
theorem rr_4 (hz : z = a) (ha : a + 4 ≤ s.length) (hs : s.length ≤ 1000000) (hb : real.cmp .gtr (real.bin .add .i64 (real.bin .add .i64 z 4) (real.wrap .i64 (real.sidx s (real.bin .add .i64 z 3)))) (real.slen s) = false) : a + 4 + bt s (a + 3) ≤ s.length := by
  rw [rr_k hz ha hs] at hb
  have hb : ¬ ((a + 4 + bt s (a + 3) : Nat) : Int) > (s.length : Int) := of_decide_eq_false hb
  omega
/-- The account that is built. -/
theorem rr_acc (hz : z = a) (ha : a + 4 ≤ s.length) (hs : s.length ≤ 1000000) (hk : a + 4 + bt s (a + 3) ≤ s.length) :
    (⟨real.bin .add .i64 (real.bin .mul .i64 256 (real.wrap .i64 (real.sidx s z))) (real.wrap .i64 (real.sidx s (real.bin .add .i64 z 1))), real.sidx s (real.bin .add .i64 z 2),
      real.ssub s (real.bin .add .i64 z 4) (real.bin .add .i64 (real.bin .add .i64 z 4) (real.wrap .i64 (real.sidx s (real.bin .add .i64 z 3))))⟩ : It.Acc) = rdA (s.drop a) := by
  have h1 : real.bin .add .i64 z 1 = ((a + 1 : Nat) : Int) := by rw [zadd hz (by omega) (by decide) (by decide)]; rfl
  have h2 : real.bin .add .i64 z 2 = ((a + 2 : Nat) : Int) := by rw [zadd hz (by omega) (by decide) (by decide)]; rfl
  have h4 : real.bin .add .i64 z 4 = ((a + 4 : Nat) : Int) := by rw [zadd hz (by omega) (by decide) (by decide)]; rfl
  have b0 := bt_lt s a
  have b1 := bt_lt s (a + 1)
  rw [rr_k hz ha hs, h1, h2, h4, hz, wr_bt, wr_bt, sx]
  simp only [rdA, bt_drop, Nat.add_zero]
  have e1 : real.bin .add .i64 (real.bin .mul .i64 256 (bt s a : Int)) (bt s (a + 1) : Int) = 256 * (bt s a : Int) + (bt s (a + 1) : Int) := by
    simp only [real, rBin]
    rw [wrap_i64 (256 * (bt s a : Int)) (by omega) (by omega), wrap_i64 _ (by omega) (by omega)]
  have e2 : real.ssub s ((a + 4 : Nat) : Int) ((a + 4 + bt s (a + 3) : Nat) : Int) = ((s.drop a).drop 4).take (bt s (a + 3)) := by
    show (s.take (a + 4 + bt s (a + 3))).drop (a + 4) = _
    rw [List.drop_drop, List.drop_take]
    congr 1
    omega
  rw [e1, e2]
theorem rr_c (hz : z = a) (ha : a + 4 ≤ s.length) (hs : s.length ≤ 1000000) (hk : a + 4 + bt s (a + 3) ≤ s.length) : real.bin .add .i64 (real.bin .mul .i64 256 (real.wrap .i64 (real.sidx s z))) (real.wrap .i64 (real.sidx s (real.bin .add .i64 z 1))) = (rdA (s.drop a)).c := congrArg It.Acc.c (rr_acc hz ha hs hk)
theorem rr_ok (hk : a + 4 + bt s (a + 3) ≤ s.length) : rdOK (s.drop a) = true := by
  simp only [rdOK, List.length_drop, decide_eq_true_eq, bt_drop]
  omega
theorem rr_add {x : It.Acc} (hL : gL l) (hlt : l ≠ [] → lastC l < x.c) : (rAddE l x ≠ 0 → ¬ (lastC l < x.c ∧ rgt x = true ∧ l.length < 64)) ∧ (rAddE l x = 0 → (lastC l < x.c ∧ rgt x = true ∧ l.length < 64) ∧ rAddL l x = l ++ [x]) := by
  have hne : lastC l < x.c → ¬ ∃ b ∈ l, b.c = x.c := fun h => by
    rintro ⟨b, hb, e⟩
    have := up_last hL.up b hb
    omega
  refine ⟨fun h => ?_, fun h => ?_⟩
  · rintro ⟨h1, h2, h3⟩
    exact h (by rw [rAddE, if_pos h2, if_neg (hne h1), if_neg (by omega)])
  · have h2 : rgt x = true := by
      cases h3 : rgt x with
      | true => rfl
      | false => simp [rAddE, h3] at h
    have h1 : lastC l < x.c := by
      by_cases h4 : l = []
      · subst h4
        have h5 : 1 ≤ x.c := by
          have : rightB x.c x.k x.s = true := h2
          simp only [rightB, Bool.and_eq_true, decide_eq_true_eq] at this
          omega
        show (0 : Int) < x.c
        omega
      · exact hlt h4
    have h3 : l.length < 64 := by
      rw [rAddE, if_pos h2, if_neg (hne h1)] at h
      split at h
      · cases h
      · omega
    exact ⟨⟨h1, h2, h3⟩, by rw [rAddL, if_pos h, ins_end hL.up h1]⟩
theorem rr_step (hg : rdGo (m + 1) (s.drop a) l = rdC s) (hk : a + 4 + bt s (a + 3) ≤ s.length) (h : lastC l < (rdA (s.drop a)).c ∧ rgt (rdA (s.drop a)) = true ∧ l.length < 64) : rdGo m (s.drop (a + 4 + bt s (a + 3))) (l ++ [rdA (s.drop a)]) = rdC s := by
  rw [← hg, rdGo, if_pos ⟨rr_ok hk, h⟩, List.drop_drop, bt_drop]
  congr 2
  omega
theorem last_at (h : real.cmp .gtr (real.len (aR l)) 0 = true) (hl : l.length ≤ 64) : l ≠ [] ∧ real.bin .sub .i64 (real.len (aR l)) 1 = ((l.length - 1 : Nat) : Int) ∧ l.length - 1 < l.length ∧ real.cI (aR l) (real.bin .sub .i64 (real.len (aR l)) 1) 0 = lastC l := by
  have h1 : (0 : Int) < ((aR l).length : Int) := of_decide_eq_true h
  rw [aR_len] at h1
  have h2 : real.bin .sub .i64 (real.len (aR l)) 1 = ((l.length - 1 : Nat) : Int) := sub_1 (by rw [show real.len (aR l) = ((aR l).length : Int) from rfl, aR_len]) (by omega) (by omega)
  have hne : l ≠ [] := fun e => by subst e; simp at h1
  refine ⟨hne, h2, by omega, ?_⟩
  rw [aR_c h2 (by omega)]
  simp [lastC, List.getLast?_eq_some_getLast hne, List.getLast_eq_getElem hne]
theorem nil_at (h : real.cmp .gtr (real.len (aR l)) 0 = false) : l = [] := by
  have h1 : ¬ (0 : Int) < ((aR l).length : Int) := of_decide_eq_false h
  rw [aR_len] at h1
  exact List.eq_nil_of_length_eq_zero (by omega)
theorem in_s {x : Int} (h0 : 0 ≤ x) (h1 : x < s.length) : real.inb x (real.slen s) = true := decide_eq_true ⟨h0, h1⟩
theorem ss_len (s : List UInt8) (x y : Int) : (real.ssub s x y).length ≤ s.length := by
  show ((s.take y.toNat).drop x.toNat).length ≤ s.length
  simp
  omega
theorem rr_leq {x c : Int} {b : Bool} (h : real.pickB true (real.cmp .leq c x) false = b) : (b = true → c ≤ x) ∧ (b = false → ¬ c ≤ x) := by
  subst h
  exact ⟨fun h => of_decide_eq_true h, fun h => of_decide_eq_false h⟩
theorem neq_t {x : Int} (h : real.cmp .neq x 0 = true) : x ≠ 0 := by simpa [real, rCmp] using h
theorem neq_f {x : Int} (h : real.cmp .neq x 0 = false) : x = 0 := by simpa [real, rCmp] using h
theorem fin_rr (h : rdC s = none) : Fin 0 (Gets (kRR s)) (.tup [.d .nilsl, .d (.int .i64 0), .d (.int .i64 4)]) 0 [] :=
  ⟨⟨[1000000], [], [0], [], 0⟩, .tup [.d (.imm []), .d (.int .i64 0), .d (.int .i64 4)], 0, _, rfl, rfl, ⟨.inr ⟨h, rfl⟩⟩, rfl, rfl, rfl⟩
theorem of_not_and {p : Prop} (h : rdOK s = false) : ¬ (rdOK s = true ∧ p) := fun g => by rw [h] at g; cases g.1
theorem rr_start (hb : real.cmp .lss (real.slen s) 1 = false) : 1 ≤ s.length ∧ rdGo (bt s 0 - 0) (s.drop 1) [] = rdC s := by
  have h : ¬ (s.length : Int) < 1 := of_decide_eq_false hb
  have h1 : 1 ≤ s.length := by omega
  exact ⟨h1, by rw [rdC, if_pos h1]; rfl⟩
theorem rr_short (hb : real.cmp .lss (real.slen s) 1 = true) : rdC s = none := by
  have h : (s.length : Int) < 1 := of_decide_eq_true hb
  rw [rdC, if_neg (by omega)]
theorem rr_exit (hj : j = i) (hi : i ≤ bt s 0) (hb : real.cmp .lss j (real.wrap .i64 (real.sidx s 0)) = false) {x : List UInt8} (hgo : rdGo (bt s 0 - i) x l = rdC s) : rdC s = some (l, x) := by
  have e : real.wrap .i64 (real.sidx s 0) = bt s 0 := wr_bt s 0
  rw [e] at hb
  have hb : ¬ j < bt s 0 := of_decide_eq_false hb
  rw [← hgo, show bt s 0 - i = 0 by omega]
  rfl
end
theorem K_RRead0 (s : List UInt8) (hs : s.length ≤ 1000000) : CallE Try.prog 23 [.d (.str s)] 0 [] (fun v n h => Nd (fun _ => Fin 0 (Gets (kRR s)) v n h)) := by
  refine call_fn tysOK orders (C := R6) R6_ok ⟨[((15, 1000000), [0, 2, 4, 6, 8, 12, 14, 16, 18, 20, 22, 24, 11, 26, 28])], [], 0⟩ Try.func23 (by kernel_rfl) (by kernel_rfl) ?_
  intro oBin oCmp oWrap oNeg oCom oBnot oBeq oPickB oPickI oPickS oInb oSub2 oMinI oMaxI oSlen oSidx oScat oSsub oScmp oScok oLen oCI oCB oCS oCL oOkR oApp oApok oSub oSetc oRep oMkok oNthI oNthB oNthS oIteI oIteB oIteS oB2s oS2b oAllB oWf oDeq oMlen oMhas oMI oMB oMS oMok oMput oMdel oSgo oSru oSnx ho; cbv
  (repeat (any_goals (first
    | with_reducible refine And.intro ?_ ?_
    | exact True.intro
    | with_reducible exact rfl
    | (with_reducible refine Nd.mk ?_; try dsimp only)
    | (with_reducible refine Pz.mk ?_; cbv)
    | (with_reducible refine RgOK.mk ?_; kernel_rfl)
    | (with_reducible refine OrOK.mk ?_; kernel_rfl)
    | (with_reducible refine Al.mk (fun x hx => ?_); cbv)
    | (with_reducible refine hK' _ ?_; clear hK' K'; cbv)
    | (with_reducible refine brA.yes (by first | assumption | exact rfl | (simp only [show oCmp = real.cmp from congrArg Ar.cmp ho, show oBin = real.bin from congrArg Ar.bin ho, show oScmp = real.scmp from congrArg Ar.scmp ho, show oPickB = real.pickB from congrArg Ar.pickB ho, show oBnot = real.bnot from congrArg Ar.bnot ho]; decide)) ?_; cbv)
    | (with_reducible refine brA.no (by first | assumption | exact rfl | (simp only [show oCmp = real.cmp from congrArg Ar.cmp ho, show oBin = real.bin from congrArg Ar.bin ho, show oScmp = real.scmp from congrArg Ar.scmp ho, show oPickB = real.pickB from congrArg Ar.pickB ho, show oBnot = real.bnot from congrArg Ar.bnot ho]; decide)) ?_; cbv)
    | (with_reducible refine bcase (fun hb => ?_) (fun hb => ?_) <;> cbv)
    | (intro K' hK'; cbv))))
  any_goals (refine ⟨fun st => ∃ (i a : Nat) (l : List It.Acc) (r : List (List D)) (j z : Int), j = i ∧ i ≤ bt s 0 ∧ z = a ∧ a ≤ s.length ∧ gL l ∧ r = aR l ∧ rdGo (bt s 0 - i) (s.drop a) l = rdC s ∧
      st = ⟨mkF 95 0 [(0, .d (.str s)), (5, .d (.int .i64 (oWrap .i64 (oSidx s 0)))), (6, .d (.int .i64 z)), (7, .d (.imm r)), (8, .d (.int .i64 j))], 0, []⟩,
      fun st => (256 - ctr 8 st).toNat, ⟨[1000007], [], [0, 5, 6, 7, 8], [], 0⟩, ?_, ?_, ?_⟩
             · cbv
             · cases ho
               obtain ⟨h1, h2⟩ := rr_start hb
               exact ⟨0, 1, [], [], 0, 1, rfl, Nat.zero_le _, rfl, h1, gL_nil, rfl, h2, rfl⟩
             rintro st1 ⟨i, a, l, r, j, z, hj, hi, hz, ha, hL, hr, hgo, rfl⟩
             cbv
             (repeat (any_goals (first
    | with_reducible refine And.intro ?_ ?_
    | exact True.intro
    | with_reducible exact rfl
    | (with_reducible refine Nd.mk ?_; try dsimp only)
    | (with_reducible refine Pz.mk ?_; cbv)
    | (with_reducible refine RgOK.mk ?_; kernel_rfl)
    | (with_reducible refine OrOK.mk ?_; kernel_rfl)
    | (with_reducible refine Al.mk (fun x hx => ?_); cbv)
    | (with_reducible refine hK' _ ?_; clear hK' K'; cbv)
    | (with_reducible refine brA.yes (by first | assumption | exact rfl | (simp only [show oCmp = real.cmp from congrArg Ar.cmp ho, show oBin = real.bin from congrArg Ar.bin ho, show oScmp = real.scmp from congrArg Ar.scmp ho, show oPickB = real.pickB from congrArg Ar.pickB ho, show oBnot = real.bnot from congrArg Ar.bnot ho]; decide)) ?_; cbv)
    | (with_reducible refine brA.no (by first | assumption | exact rfl | (simp only [show oCmp = real.cmp from congrArg Ar.cmp ho, show oBin = real.bin from congrArg Ar.bin ho, show oScmp = real.scmp from congrArg Ar.scmp ho, show oPickB = real.pickB from congrArg Ar.pickB ho, show oBnot = real.bnot from congrArg Ar.bnot ho]; decide)) ?_; cbv)
    | (with_reducible refine bcase (fun hb => ?_) (fun hb => ?_) <;> cbv)
    | (intro K' hK'; cbv)))))
  all_goals ((try clear hK' K'); cases ho; (try simp only [nc1] at *); (try simp only [Int.ofNat_eq_natCast] at *))
  all_goals (try subst hr)
  all_goals first
    | exact fin_rr (rr_short (by assumption))
    | exact in_s (Int.le_refl _) (by have := (rr_start (by assumption)).1; omega)
    | (obtain ⟨hin, hg⟩ := rr_in hj ‹real.cmp .lss j _ = true› hgo
       first
       | exact fin_rr (rr_none hg (of_not_and (rr_1 hz ha hs ‹real.cmp .gtr (real.bin .add .i64 z 4) (real.slen s) = true›)))
       | (have h4 := rr_2 hz ha hs ‹real.cmp .gtr (real.bin .add .i64 z 4) (real.slen s) = false›
          first
          | exact in_s (by omega) (by omega)
          | (rw [zadd hz (by omega) (by decide) (by decide)]; exact in_s (by omega) (by omega))
          | exact fin_rr (rr_none hg (of_not_and (rr_3 hz h4 hs ‹real.cmp .gtr (real.bin .add .i64 (real.bin .add .i64 z 4) _) (real.slen s) = true›)))
          | (have hk := rr_4 hz h4 hs ‹real.cmp .gtr (real.bin .add .i64 (real.bin .add .i64 z 4) _) (real.slen s) = false›
             have hac := rr_acc hz h4 hs hk
             have hrk := rr_k hz h4 hs
             have hlen := hL.ln
             first
             | exact ⟨l, rfl⟩
             | (show (aR l).length ≤ 900; rw [aR_len]; omega)
             | exact Nat.le_trans (ss_len s _ _) hs
             | (rw [hrk, zadd hz (by omega) (by decide) (by decide)]; exact decide_eq_true ⟨by omega, by omega, by show ((a + 4 + bt s (a + 3) : Nat) : Int) ≤ (s.length : Int); omega⟩)
             | (have hl9 := last_at ‹real.cmp .gtr (real.len (aR l)) 0 = true› hL.ln
                obtain ⟨hne, e1, e2, e3⟩ := hl9
                first
                | with_reducible exact in_aR e1 e2
                | with_reducible exact aR_wf l
                | with_reducible exact aR_ok1 e1 e2
                | (have h8 := (rr_leq ‹real.pickB true (real.cmp .leq _ (real.cI (aR l) _ 0)) false = true›).1 rfl
                   rw [e3, rr_c hz h4 hs hk] at h8
                   exact fin_rr (rr_none hg (fun h => by have := h.2.1; omega)))
                | (have h8 := (rr_leq ‹real.pickB true (real.cmp .leq _ (real.cI (aR l) _ 0)) false = false›).2 rfl
                   rw [e3, rr_c hz h4 hs hk] at h8
                   have hx2 := hx l rfl
                   rw [hac] at hx2
                   obtain ⟨g1, g2⟩ := rr_add (x := rdA (s.drop a)) hL (fun _ => by omega)
                   first
                   | exact fin_rr (rr_none hg (fun h => g1 (by rw [← hx2.2]; exact neq_t ‹real.cmp .neq x.2 0 = true›) h.2))
                   | (obtain ⟨q5, q4⟩ := g2 (by rw [← hx2.2]; exact neq_f ‹real.cmp .neq x.2 0 = false›)
                      have h7 := add_1 hj (by have := bt_lt s 0; omega)
                      refine ⟨⟨[], [], [0, 5, 6, 7, 8], [], 0⟩, rfl, ⟨i + 1, a + 4 + bt s (a + 3), l ++ [rdA (s.drop a)], _, real.bin .add .i64 j 1, _, h7, by omega, hrk, hk, hL.snoc q5.1 q5.2.1 q5.2.2, hx2.1.trans (congrArg aR q4), rr_step hg hk q5, rfl⟩, ?_⟩
                      show (256 - real.bin .add .i64 j 1).toNat < (256 - j).toNat
                      have := bt_lt s 0
                      rw [h7]; omega)))
             | (have hnil := nil_at ‹real.cmp .gtr (real.len (aR l)) 0 = false›
                have hx2 := hx l rfl
                rw [hac] at hx2
                obtain ⟨g1, g2⟩ := rr_add (x := rdA (s.drop a)) hL (fun h => absurd hnil h)
                first
                | exact fin_rr (rr_none hg (fun h => g1 (by rw [← hx2.2]; exact neq_t ‹real.cmp .neq x.2 0 = true›) h.2))
                | (obtain ⟨q5, q4⟩ := g2 (by rw [← hx2.2]; exact neq_f ‹real.cmp .neq x.2 0 = false›)
                   have h7 := add_1 hj (by have := bt_lt s 0; omega)
                   refine ⟨⟨[], [], [0, 5, 6, 7, 8], [], 0⟩, rfl, ⟨i + 1, a + 4 + bt s (a + 3), l ++ [rdA (s.drop a)], _, real.bin .add .i64 j 1, _, h7, by omega, hrk, hk, hL.snoc q5.1 q5.2.1 q5.2.2, hx2.1.trans (congrArg aR q4), rr_step hg hk q5, rfl⟩, ?_⟩
                   show (256 - real.bin .add .i64 j 1).toNat < (256 - j).toNat
                   have := bt_lt s 0
                   rw [h7]; omega)))))
    | (have he := rr_exit hj hi ‹real.cmp .lss j _ = false› hgo
       exact ⟨⟨[], [], [0], [], 0⟩, _, 0, _, rfl, rfl, ⟨.inl ⟨l, s.drop a, aR l, z, he, rfl, by rw [hz, List.length_drop]; omega, rfl⟩⟩, rfl, rfl, rfl⟩)
    | trace_state
def S_RRead (s : List UInt8) (K : CallK) (n : Nat) (h : Hp) : Prop := Nd (fun _ => s.length ≤ 1000000) ∧
  (Al (fun q : List (List D) × Int => ∃ l rest, rdC s = some (l, rest) ∧ q.1 = aR l ∧ q.2 = ((s.length - rest.length : Nat) : Int)) fun q => K (.tup [.d (.imm q.1), .d (.int .i64 q.2), .d (.int .i64 0)]) n h) ∧
  (Al (fun _ : Unit => rdC s = none) fun _ => K (.tup [.d (.imm []), .d (.int .i64 0), .d (.int .i64 4)]) n h)
theorem L_RRead {s : List UInt8} {n : Nat} {h : Hp} {K : CallK} (hK : S_RRead s K n h) : CallE Try.prog 23 [.d (.str s)] n h K := by
  obtain ⟨⟨hs⟩, h1, h2⟩ := hK
  refine call_data (CallE.fin (K_RRead0 s hs)) rfl ?_
  rintro v (⟨l, rest, r, z, e, hr, hz, rfl⟩ | ⟨e, rfl⟩)
  · exact h1.h (r, z) ⟨l, rest, e, hr, hz⟩
  · exact h2.h () e
end Go.Proofs.Yteakfibolfapiaa.Ab
