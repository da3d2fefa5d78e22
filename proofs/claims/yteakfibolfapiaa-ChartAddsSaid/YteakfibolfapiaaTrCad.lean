/- ChartAdds, by the executor. -/
import Derived.Test.YteakfibolfapiaaTrWt2
import Derived.Test.YteakfibolfapiaaTrRrB
namespace Go.Proofs.Yteakfibolfapiaa.Ab
open Go Go.RowKit Go.Sort
set_option linter.unusedVariables false
set_option linter.unusedSimpArgs false
set_option maxRecDepth 100000
set_option maxHeartbeats 8000000
theorem look_iff {m : ML} {xs : List It.Acc} (h : Same m xs) (x : Int) : (Mk.look m x).isSome = true ↔ ∃ a ∈ xs, a.c = x := by
  constructor
  · intro hs
    obtain ⟨v, hv⟩ := Option.isSome_iff_exists.1 hs
    have hm := (Mk.look_mem h.codes).1 hv
    obtain ⟨a, ha, e⟩ := List.mem_map.1 (h.pm.mem_iff.2 hm)
    exact ⟨a, ha, congrArg Prod.fst e⟩
  · rintro ⟨a, ha, rfl⟩
    rw [h.look ha]
    rfl
theorem rAdd_0' {l : List It.Acc} {a : It.Acc} (h : rAddE l a = 0) : rgt a = true ∧ (∀ b ∈ l, b.c ≠ a.c) ∧ l.length < 64 := by
  unfold rAddE at h
  split at h
  · rename_i h1
    split at h
    · cases h
    · rename_i h2
      split at h
      · cases h
      · exact ⟨h1, fun b hb e => h2 ⟨b, hb, e⟩, by omega⟩
  · cases h
theorem add_e {m : ML} {xs : List It.Acc} (h : Same m xs) (a : It.Acc) : addE m a.c a.k a.s = rAddE xs a := by
  unfold addE rAddE rgt
  cases rightB a.c a.k a.s with
  | false => simp
  | true =>
    simp only [cond_true, if_true]
    by_cases h1 : ∃ b ∈ xs, b.c = a.c
    · rw [(look_iff h a.c).2 h1, if_pos h1]
      rfl
    · have h2 : (Mk.look m a.c).isSome = false := by
        cases h3 : (Mk.look m a.c).isSome with
        | false => rfl
        | true => exact absurd ((look_iff h a.c).1 h3) h1
      rw [h2, if_neg h1, h.len]
      rfl
theorem add_s {m : ML} {xs : List It.Acc} (h : Same m xs) (hg : gL xs) (a : It.Acc) : Same (addC m a.c a.k a.s) (rAddL xs a) ∧ gL (rAddL xs a) := by
  have e := add_e h a
  unfold addC rAddL
  rw [e]
  by_cases h0 : rAddE xs a = 0
  · rw [if_pos h0, if_pos h0]
    obtain ⟨h1, h2, h3⟩ := rAdd_0' h0
    obtain ⟨p1, p2⟩ := ins_spec hg.up h2
    have hl := p1.length_eq
    simp at hl
    have hn : Mk.look m a.c = none := by
      cases h4 : Mk.look m a.c with
      | none => rfl
      | some v =>
        obtain ⟨b, hb, e⟩ := (look_iff h a.c).1 (by rw [h4]; rfl)
        exact absurd e (h2 b hb)
    refine ⟨⟨?_, p2⟩, ⟨p2, fun b hb => ?_, by omega⟩⟩
    · rw [put_new hn]
      refine (p1.map It.pr).trans ?_
      rw [List.map_cons]
      refine (List.Perm.cons _ h.pm).trans ?_
      exact List.perm_append_comm (l₁ := [It.pr a]) (l₂ := m)
    · rcases List.mem_cons.1 (p1.mem_iff.1 hb) with rfl | hb
      · exact h1
      · exact hg.rg b hb
  · rw [if_neg h0, if_neg h0]
    exact ⟨h, hg⟩
theorem cadd {m : ML} {xs : List It.Acc} {r : List (List D)} {c k : Int} {s : List UInt8} {q : List (List D) × Int} {p : Int × ML} (hm : Same m xs) (hg : gL xs) (hr : r = aR xs)
    (hq : ∀ l, r = aR l → q.1 = aR (rAddL l ⟨c, k, s⟩) ∧ q.2 = rAddE l ⟨c, k, s⟩) (hp : p = (addE m c k s, addC m c k s)) : p.1 = q.2 ∧ ∃ ys, q.1 = aR ys ∧ Same p.2 ys ∧ gL ys := by
  obtain ⟨h1, h2⟩ := hq xs hr
  obtain ⟨h3, h4⟩ := add_s hm hg ⟨c, k, s⟩
  subst hp
  exact ⟨by rw [h2]; exact add_e hm ⟨c, k, s⟩, _, h1, h3, h4⟩
def gAc (r : List D) : Prop := ∃ c k s, r = [.int .i64 c, .int .u8 k, .str s]
theorem c_cut {l : List (List D)} (h : ∀ r ∈ l, gAc r) (n : Nat) : real.sub2 0 (real.minI (real.len l) n) (real.len l) = true ∧ (real.sub l 0 (real.minI (real.len l) n)).length ≤ n ∧ ∀ r ∈ real.sub l 0 (real.minI (real.len l) n), gAc r := by
  simp only [real]
  refine ⟨decide_eq_true (by omega), by simp; omega, fun r hr => h r (List.mem_of_mem_take (List.mem_of_mem_drop hr))⟩
theorem c_wf {l : List (List D)} (h : ∀ r ∈ l, gAc r) : real.wf l 3 = true := by
  simp only [real, rWf, List.all_eq_true]
  intro r hr
  obtain ⟨a, b, c, rfl⟩ := h r hr
  rfl
theorem c_ok {l : List (List D)} (h : ∀ r ∈ l, gAc r) {j : Int} {i : Nat} (hj : j = i) (hi : i < l.length) : real.okR l j 0 [.int .i64, .int .u8, .str] = true := by
  subst hj
  obtain ⟨a, b, c, e⟩ : gAc (l.getD i []) := by
    rw [List.getD, List.getElem?_eq_getElem hi]
    exact h _ (List.getElem_mem _)
  simp only [real, Int.toNat_natCast, e]
  simp [rowOk, kdOk]
  omega
theorem s_cut (s : List UInt8) (n : Nat) : real.sub2 0 (real.minI (real.slen s) n) (real.slen s) = true ∧ (real.ssub s 0 (real.minI (real.slen s) n)).length ≤ n := by
  simp only [real]
  exact ⟨decide_eq_true (by omega), by simp; omega⟩
def A1 : CallS := fun f args n h K => match f with
  | 8 => (match args with | [] => S_New K n h | _ => False)
  | 11 => (match args with | [] => S_wakes K n h | _ => False)
  | 26 => (match args with | [.d (.agg [.int .i64 c, .int .u8 k, .str s])] => S_of c k s K n h | _ => False)
  | 27 => (match args with | [.d (.agg [.int .i64 c, .int .u8 k, .str s])] => S_Right c k s K n h | _ => False)
  | 28 => (match args with | [.d (.agg [.int .i64 c, .int .u8 k, .str s])] => S_RRight c k s K n h | _ => False)
  | 29 => (match args with | [.ptr i 0] => S_Copy i K n h | _ => False)
  | 19 => (match args with | [.d (.imm r), .d (.agg [.int .i64 c, .int .u8 k, .str s])] => S_RAdd r c k s K n h | _ => False)
  | 9 => (match args with | [.ptr i 0, .d (.agg [.int .i64 c, .int .u8 k, .str s])] => S_Add i c k s K n h | _ => False)
  | 24 => (match args with | [.ptr i 0, .d (.imm r)] => S_same i r K n h | _ => False)
  | 30 => (match args with | [.ptr i 0, .ptr w 0] => S_CWr i w K n h | [.ptr i 0, .d .nilp] => S_CWrNil i K n h | _ => False)
  | 31 => (match args with | [.ptr i 0] => S_Bytes i K n h | _ => False)
  | 32 => (match args with | [.ptr i 0, .d (.int .i64 c)] => S_Get i c K n h | _ => False)
  | 20 => (match args with | [.d (.imm r)] => S_CTx r K n h | _ => False)
  | 33 => (match args with | [.d (.imm r), .d (.int .i64 x)] => S_Find r x K n h | _ => False)
  | _ => False
theorem A1_ok : ∀ f args n h K, A1 f args n h K → CallE Try.prog f args n h K := by
  intro f args n h K hc
  unfold A1 at hc
  split at hc
  · split at hc
    · exact L_New hc
    · exact hc.elim
  · split at hc
    · exact L_wakes hc
    · exact hc.elim
  · split at hc
    · exact L_of hc
    · exact hc.elim
  · split at hc
    · exact L_Right hc
    · exact hc.elim
  · split at hc
    · exact L_RRight hc
    · exact hc.elim
  · split at hc
    · exact L_Copy hc
    · exact hc.elim
  · split at hc
    · exact L_RAdd hc
    · exact hc.elim
  · split at hc
    · exact L_Add hc
    · exact hc.elim
  · split at hc
    · exact L_same hc
    · exact hc.elim
  · split at hc
    · exact L_CWr hc
    · exact L_CWrNil hc
    · exact hc.elim
  · split at hc
    · exact L_Bytes hc
    · exact hc.elim
  · split at hc
    · exact L_Get hc
    · exact hc.elim
  · split at hc
    · exact L_CTx hc
    · exact hc.elim
  · split at hc
    · exact L_Find hc
    · exact hc.elim
  · exact hc.elim
theorem Same.uniq {m : ML} {xs ys : List It.Acc} (h : Same m xs) (h' : Same m ys) : ys = xs := aR_inj (h.list ⟨ys, h'.pm, h'.up.imp fun h => by omega, rfl⟩)
section
variable {m : ML} {xs : List It.Acc} {r : List (List D)} {c k z : Int} {s x : List UInt8} {q : List (List D) × Int} {p : Int × ML} {y : List (List D)}
theorem ca_neq (hb : real.cmp .neq p.1 q.2 = true) (hm : Same m xs) (hg : gL xs) (hr : r = aR xs) (hq : ∀ l, r = aR l → q.1 = aR (rAddL l ⟨c, k, s⟩) ∧ q.2 = rAddE l ⟨c, k, s⟩) (hp : p = (addE m c k s, addC m c k s)) : False := by
  have h := (cadd hm hg hr hq hp).1
  rw [h] at hb
  simp [real, rCmp] at hb
theorem ca_same (hm : Same m xs) (hg : gL xs) (hr : r = aR xs) (hq : ∀ l, r = aR l → q.1 = aR (rAddL l ⟨c, k, s⟩) ∧ q.2 = rAddE l ⟨c, k, s⟩) (hp : p = (addE m c k s, addC m c k s)) : ∃ ys, q.1 = aR ys ∧ Same p.2 ys ∧ ys.length ≤ 1000 := by
  obtain ⟨-, ys, h1, h2, h3⟩ := cadd hm hg hr hq hp
  exact ⟨ys, h1, h2, by have := h3.ln; omega⟩
theorem ca_by (h : ∃ xs, Same m xs ∧ gL xs ∧ y = real.s2b (chB xs)) : ∃ s, y = real.s2b s := by
  obtain ⟨xs, -, -, h⟩ := h
  exact ⟨_, h⟩
theorem ca_tx (hb : real.pickB true (real.scmp .eql s x) false = false) (hm : Same m xs) (hr : r = aR xs) (h : ∃ xs, Same m xs ∧ gL xs ∧ y = real.s2b (chB xs)) (h2 : y = real.s2b s) (h3 : ∀ l, r = aR l → x = chB l) : False := by
  obtain ⟨ys, g1, g2, g3⟩ := h
  have e := hm.uniq g1
  subst e
  have e2 : s = chB ys := by rw [← b2s_s2b s, ← h2, g3, b2s_s2b]
  have hb : real.scmp .eql s x = false := hb
  rw [e2, h3 ys hr] at hb
  simp [real, rScmp] at hb
theorem ca_fd {b : Bool} (hm : Same m xs) (hr : r = aR xs) (hz : ∀ l, r = aR l → (0 ≤ z ↔ ∃ a, a ∈ l ∧ a.c = c)) (hb : b = real.mhas m c) : real.pickB true (real.beq b (real.cmp .geq z 0)) false = true := by
  have h1 := hz xs hr
  have h2 := look_iff hm c
  subst hb
  show ((Mk.look m c).isSome == decide (z ≥ 0)) = true
  by_cases h3 : ∃ a ∈ xs, a.c = c
  · rw [h2.2 h3, decide_eq_true (h1.2 h3)]
    rfl
  · have h4 : (Mk.look m c).isSome = false := by
      cases h5 : (Mk.look m c).isSome with
      | false => rfl
      | true => exact absurd (h2.1 h5) h3
    rw [h4, decide_eq_false (fun h => h3 (h1.1 h))]
    rfl
theorem rc_eq {a b d : Bool} (h : real.bnot (real.beq a b) = true) (h1 : a = d) (h2 : b = d) : False := by
  subst h1
  subst h2
  simp [real] at h
theorem ok1a (c k : Int) (s : List UInt8) : real.okR [[.int .i64 c, .int .u8 k, .str s]] 0 0 [.int .i64, .int .u8, .str] = true := rfl
end
theorem K_Adds0 (L : List (List D)) (hL : ∀ r ∈ L, gAc r) (code : Int) : CallE Try.prog 6 [.d (.imm L), .d (.int .i64 code)] 0 [] (fun v n h => Nd (fun _ => Fin 0 (Gets fun v => v = .d (.bool true)) v n h)) := by
  refine call_fn tysOK orders (C := A1) A1_ok ⟨[((9, 0), [2])], [], 0⟩ Try.func6 (by kernel_rfl) (by kernel_rfl) ?_
  intro oBin oCmp oWrap oNeg oCom oBnot oBeq oPickB oPickI oPickS oInb oSub2 oMinI oMaxI oSlen oSidx oScat oSsub oScmp oScok oLen oCI oCB oCS oCL oOkR oApp oApok oSub oSetc oRep oMkok oNthI oNthB oNthS oIteI oIteB oIteS oB2s oS2b oAllB oWf oDeq oMlen oMhas oMI oMB oMS oMok oMput oMdel oSgo oSru oSnx ho; cbv
  (repeat (any_goals (first
    | with_reducible refine And.intro ?_ ?_
    | exact True.intro
    | with_reducible exact rfl
    | (with_reducible refine Nd.mk ?_; try dsimp only)
    | (with_reducible refine Pz.mk ?_; cbv)
    | (with_reducible refine RgOK.mk ?_; kernel_rfl)
    | (with_reducible refine OrOK.mk ?_; kernel_rfl)
    | (with_reducible refine Al.mk (fun x hx => ?_); cbv)
    | (with_reducible refine hK' _ ?_; clear hK' K'; cbv)
    | (with_reducible refine brA.yes (by first | assumption | exact rfl | (simp only [show oCmp = real.cmp from congrArg Ar.cmp ho, show oBin = real.bin from congrArg Ar.bin ho, show oScmp = real.scmp from congrArg Ar.scmp ho, show oPickB = real.pickB from congrArg Ar.pickB ho, show oBnot = real.bnot from congrArg Ar.bnot ho]; decide)) ?_; cbv)
    | (with_reducible refine brA.no (by first | assumption | exact rfl | (simp only [show oCmp = real.cmp from congrArg Ar.cmp ho, show oBin = real.bin from congrArg Ar.bin ho, show oScmp = real.scmp from congrArg Ar.scmp ho, show oPickB = real.pickB from congrArg Ar.pickB ho, show oBnot = real.bnot from congrArg Ar.bnot ho]; decide)) ?_; cbv)
    | (with_reducible refine bcase (fun hb => ?_) (fun hb => ?_) <;> cbv)
    | (intro K' hK'; cbv))))
  all_goals first
    | (cases ho; exact (c_cut hL 80).1)
    | (cases ho; exact c_wf hL)
    | skip
  any_goals (refine ⟨fun st => ∃ (i : Nat) (j : Int) (A r : List (List D)) (xs : List It.Acc) (m : ML), j = i ∧ i ≤ A.length ∧ A.length ≤ 80 ∧ (∀ q ∈ A, gAc q) ∧ r = aR xs ∧ Same m xs ∧ gL xs ∧
      st = ⟨mkF 106 0 [(1, .d (.int .i64 code)), (5, .ptr 1 0), (6, .d (.imm r)), (28, .d (.imm A)), (29, .d (.int .i64 (oLen A))), (30, .d (.int .i64 j))], 2, [(0, .mp .i64 m), (1, .cells [.map 0])]⟩,
    fun st => (80 - ctr 30 st).toNat, ⟨[1000006], [], [1, 5, 6, 28, 29, 30], [0, 1], 2⟩, ?_, ?_, ?_⟩
             · cbv
             · cases ho
               obtain ⟨h1, h2, h3⟩ := c_cut hL 80
               exact ⟨0, 0, _, [], [], [], rfl, Nat.zero_le _, h2, h3, rfl, ⟨List.Perm.refl _, List.Pairwise.nil⟩, gL_nil, rfl⟩
             rintro st1 ⟨i, j, A, r, xs, m, hj, hi, hA, hA2, hr, hm, hg, rfl⟩
             cbv
             (repeat (any_goals (first
    | with_reducible refine And.intro ?_ ?_
    | exact True.intro
    | with_reducible exact rfl
    | (with_reducible refine Nd.mk ?_; try dsimp only)
    | (with_reducible refine Pz.mk ?_; cbv)
    | (with_reducible refine RgOK.mk ?_; kernel_rfl)
    | (with_reducible refine OrOK.mk ?_; kernel_rfl)
    | (with_reducible refine Al.mk (fun x hx => ?_); cbv)
    | (with_reducible refine hK' _ ?_; clear hK' K'; cbv)
    | (with_reducible refine brA.yes (by first | assumption | exact rfl | (simp only [show oCmp = real.cmp from congrArg Ar.cmp ho, show oBin = real.bin from congrArg Ar.bin ho, show oScmp = real.scmp from congrArg Ar.scmp ho, show oPickB = real.pickB from congrArg Ar.pickB ho, show oBnot = real.bnot from congrArg Ar.bnot ho]; decide)) ?_; cbv)
    | (with_reducible refine brA.no (by first | assumption | exact rfl | (simp only [show oCmp = real.cmp from congrArg Ar.cmp ho, show oBin = real.bin from congrArg Ar.bin ho, show oScmp = real.scmp from congrArg Ar.scmp ho, show oPickB = real.pickB from congrArg Ar.pickB ho, show oBnot = real.bnot from congrArg Ar.bnot ho]; decide)) ?_; cbv)
    | (with_reducible refine bcase (fun hb => ?_) (fun hb => ?_) <;> cbv)
    | (intro K' hK'; cbv)))))
  all_goals ((try clear hK' K'); cases ho; (try simp only [nc1] at *); (try simp only [Int.ofNat_eq_natCast] at *))
  all_goals first
    | decide
    | exact hm.gC
    | exact ok1a _ _ _
    | exact ⟨xs, hr⟩
    | exact ⟨xs, hr, hg⟩
    | exact ⟨xs, hm, hg⟩
    | exact ⟨xs, hr, hm, by have := hg.ln; omega⟩
    | (show r.length ≤ 900; rw [hr, aR_len]; have := hg.ln; omega)
    | (show r.length ≤ 1000; rw [hr, aR_len]; have := hg.ln; omega)
    | (have h5 := lt_R hj ‹real.cmp .lss j (real.len A) = true›
       first
       | with_reducible exact in_R hj h5
       | with_reducible exact c_wf hA2
       | with_reducible exact c_ok hA2 hj h5
       | exact (s_cut _ 40).1
       | exact Nat.le_trans (s_cut (real.cS A j 2) 40).2 (by decide)
       | exact (rc_eq (by assumption) (by assumption) (by assumption)).elim
       | exact (ca_neq (by assumption) hm hg hr (by assumption) (by assumption)).elim
       | exact ca_same hm hg hr (by assumption) (by assumption)
       | (have hk := cadd hm hg hr (by assumption) hx
          obtain ⟨-, ys, k1, k2, k3⟩ := hk
          have h7 := add_1 hj (by omega)
          refine ⟨⟨[], [], [1, 5, 6, 28, 29, 30], [0, 1], 2⟩, rfl, ⟨i + 1, real.bin .add .i64 j 1, A, _, ys, _, h7, by omega, hA, hA2, k1, k2, k3, rfl⟩, ?_⟩
          show (80 - real.bin .add .i64 j 1).toNat < (80 - j).toNat
          rw [h7]; omega))
    | exact ca_by (by assumption)
    | exact (ca_tx (by assumption) hm hr (by assumption) (by assumption) (by assumption)).elim
    | exact fin_b (ca_fd hm hr (by assumption) (congrArg (fun q => q.2.2.2) ‹_ = (real.mI m code 0, real.mI m code 1, real.mS m code 2, real.mhas m code)›))
    | trace_state
end Go.Proofs.Yteakfibolfapiaa.Ab
