/- Books: Apply. -/
import Derived.Test.YteakfibolfapiaaTrBk2
import Derived.Test.YteakfibolfapiaaTrBkP
namespace Go.Proofs.Yteakfibolfapiaa.Ab
open Go Go.RowKit Go.Sort
set_option linter.unusedVariables false
set_option linter.unusedSimpArgs false
set_option maxRecDepth 100000
set_option maxHeartbeats 8000000
def B1 : CallS := fun f args n h K => match f with
  | 48 => (match args with | [.d (.imm r)] => S_amounts r K n h | _ => False)
  | 49 => (match args with | [.raw v] => S_TotalR v K n h | _ => False)
  | 17 => (match args with | [.ptr i 0, .d (.int .i64 k)] => S_Bal i k K n h | _ => False)
  | 50 => (match args with | [.ptr i 0, .d (.int .i64 k), .d (.int .i64 z)] => S_set i k z K n h | _ => False)
  | _ => False
theorem B1_ok : ∀ f args n h K, B1 f args n h K → CallE Try.prog f args n h K := by
  intro f args n h K hc
  unfold B1 at hc
  split at hc
  · split at hc
    · exact L_amounts hc
    · exact hc.elim
  · split at hc
    · exact L_TotalR hc
    · exact hc.elim
  · split at hc
    · exact L_Bal hc
    · exact hc.elim
  · split at hc
    · exact L_set hc
    · exact hc.elim
  · exact hc.elim
theorem lnR_inj : ∀ {a b : List (Int × Int)}, lnR a = lnR b → a = b
  | [], [], _ => rfl
  | [], b :: bs, h => by simp [lnR] at h
  | a :: l, [], h => by simp [lnR] at h
  | a :: l, b :: bs, h => by
    simp only [lnR, List.map_cons, List.cons.injEq, D.int.injEq, and_true, true_and] at h
    rw [show a = b from Prod.ext h.1.1 h.1.2, lnR_inj (a := l) (b := bs) h.2]
def itl (i : Nat) (st : St) : Nat := match hget st.h i with | some (.it _ _ l _) => l.length | _ => 0
def KApp (m : ML) (qs : List (Int × Int)) : CallK := fun v n h => ∃ e m', v = .d (.int .i64 e) ∧ n = 2 ∧ h = [(0, .mp .i64 m'), (1, .cells [.map 0])] ∧ AppR m qs e m'
theorem fin_app {m m' : ML} {qs : List (Int × Int)} {e : Int} {n : Nat} {r : Hp} (h : AppR m qs e m') : Fin 2 (KApp m qs) (.d (.int .i64 e)) n ((0, .mp .i64 m') :: (1, .cells [.map 0]) :: r) :=
  ⟨⟨[], [], [0], [0, 1], 2⟩, _, 2, _, rfl, rfl, e, m', rfl, rfl, rfl, h⟩
theorem acc_lo {r : List (List D)} {qs : List (Int × Int)} {j : Int} {i : Nat} (hr : r = lnR qs) (hj : j = i) (hb : real.cmp .lss j (real.len r) = true) (h : real.cmp .lss (real.cI r j 0) 0 = true) : ¬ inR qs := by
  have hi := ln_lt hr hj hb
  subst hr
  rw [(ln_cI hj hi).1] at h
  simp only [real, rCmp, decide_eq_true_eq] at h
  intro hR
  have := hR _ (List.getElem_mem hi)
  omega
theorem acc_hi {r : List (List D)} {qs : List (Int × Int)} {j : Int} {i : Nat} (hr : r = lnR qs) (hj : j = i) (hb : real.cmp .lss j (real.len r) = true) (h : real.pickB false true (real.cmp .gtr (real.cI r j 0) 65535) = true) : ¬ inR qs := by
  have hi := ln_lt hr hj hb
  subst hr
  rw [(ln_cI hj hi).1] at h
  simp only [real, rCmp, decide_eq_true_eq, cond_false] at h
  intro hR
  have := hR _ (List.getElem_mem hi)
  omega
theorem acc_ok {r : List (List D)} {qs : List (Int × Int)} {j : Int} {i : Nat} (hr : r = lnR qs) (hj : j = i) (hb : real.cmp .lss j (real.len r) = true) (h : real.cmp .lss (real.cI r j 0) 0 = false) (h2 : real.pickB false true (real.cmp .gtr (real.cI r j 0) 65535) = false) (hA : inR (qs.take i)) : inR (qs.take (i + 1)) := by
  have hi := ln_lt hr hj hb
  subst hr
  rw [(ln_cI hj hi).1] at h h2
  simp only [real, rCmp, decide_eq_false_iff_not, cond_false] at h h2
  rw [take_snoc hi]
  intro q hq
  rcases List.mem_append.1 hq with hq | hq
  · exact hA q hq
  · simp only [List.mem_singleton] at hq
    subst hq
    omega
theorem in_end {A : Ar} (ho : A = real) {r : List (List D)} {qs : List (Int × Int)} (hr : r = lnR qs) {j : Int} {i : Nat} (hj : j = i) (hi : i ≤ qs.length) (hA : inR (qs.take i)) (hb : A.cmp .lss j (A.len r) = false) : inR qs := by
  subst ho
  have := ln_end hr hj hi hb
  rwa [this, List.take_length] at hA
theorem LP2.sub {m am nx : ML} {qs : List (Int × Int)} {left : ML} {L : Bag} (h : LP2 m am qs left L nx) {p : Int × Value} (hp : p ∈ left) : p ∈ am := by
  obtain ⟨done, h1, -⟩ := h
  exact h1.mem_iff.2 (by simp [hp])
theorem perm_one {left l : ML} {q p : Int × Value} (h : left.Perm (q :: l)) (hp : p ∈ [q]) : p ∈ left := by
  simp only [List.mem_singleton] at hp
  subst hp
  exact h.mem_iff.2 (by simp)
theorem bag_ok {A : Ar} (ho : A = real) {ys : List (List D)} {s : List Int} {z : Int} (hys : ys = iR s) (hl : s.length ≤ 1000) : A.apok ys [[.int .i64 z]] 1 8 = true := by
  subst ho hys
  simp [real, flatD, maxLen, iR_len]
  omega
theorem LP2.fit {m am nx : ML} {qs : List (Int × Int)} {L L' : Bag} (h : LP2 m am qs [] L' nx) (hA : AMP am L qs) : ∀ q ∈ qs, I64 (tot m qs q.1) := by
  obtain ⟨done, h1, -, -, h3⟩ := h
  intro q hq
  have h4 := (hA.key q.1).2 ⟨q, hq, rfl⟩
  obtain ⟨v, hv⟩ := Option.isSome_iff_exists.1 h4
  rw [List.append_nil] at h1
  exact h3 _ (h1.mem_iff.1 (look_in hv))
theorem mI_one {p : Int × Value} {z : Int} (h : p.2 = .int .i64 z) : real.mI [p] p.1 0 = z := by
  obtain ⟨k, v⟩ := p
  have h : v = .int .i64 z := h
  subst h
  simp [real, mcell, Mk.look, Value.cells]
theorem LP3.mok {m m' : ML} {qs : List (Int × Int)} {left : ML} (h : LP3 m qs left m') : real.mok left [.int .i64] false = true := by
  simp only [real, List.all_eq_true]
  intro p hp
  rw [(h.l p hp).1]
  rfl
theorem LP3.mok1 {m m' : ML} {qs : List (Int × Int)} {left l : ML} {p : Int × Value} (h : LP3 m qs left m') (hp : left.Perm (p :: l)) : real.mok [p] [.int .i64] false = true := by
  simp only [real, List.all_eq_true]
  intro q hq
  rw [(h.l q (perm_one hp hq)).1]
  rfl
theorem LP3.step {m m' m2 : ML} {qs : List (Int × Int)} {left l : ML} {p : Int × Value} (h : LP3 m qs left m') (hp : left.Perm (p :: l)) (hx : m2 = setM m' p.1 (real.mI [p] p.1 0)) : LP3 m qs l m2 := by
  obtain ⟨e, -⟩ := h.l p (hp.mem_iff.2 (by simp))
  rw [mI_one e] at hx
  subst hx
  exact h.go hp e
theorem iR_inj {a b : List Int} (h : iR a = iR b) : a = b := by
  have h1 := congrArg (fun l : List (List D) => l.map fun r => match r with | [.int _ z] => z | _ => 0) h
  have e : ∀ l : List Int, (iR l).map (fun r => match r with | [.int _ z] => z | _ => 0) = l := by
    intro l
    induction l with
    | nil => rfl
    | cons a l ih => simp only [iR, List.map_cons] at ih ⊢; rw [ih]
  simp only [e] at h1
  exact h1
theorem iR_snoc {ys : List (List D)} {s : List Int} {z : Int} (hys : ys = iR s) : ys ++ [[.int .i64 z]] = iR (s ++ [z]) := by
  subst hys; simp [iR]
theorem tot_of {ys : List (List D)} {m : ML} {qs : List (Int × Int)} {k z : Int} {q : Int × Int} (hys : ys = iR (sel qs k)) (hz : z = bal m k) (h : ∃ xs, ys ++ [[.int .i64 z]] = iR xs ∧ q = (amt xs.sum, amtE xs.sum)) : q = (amt (tot m qs k), amtE (tot m qs k)) := by
  obtain ⟨xs, h1, rfl⟩ := h
  rw [iR_snoc hys] at h1
  rw [← iR_inj h1]
  simp [tot, hz]
theorem sel_I {qs : List (Int × Int)} (hq : ∀ q ∈ qs, I64 q.2) (k : Int) : ∀ x ∈ sel qs k, I64 x := by
  intro x hx
  obtain ⟨q, hq1, rfl⟩ := List.mem_map.1 hx
  exact hq q (List.mem_filter.1 hq1).1
theorem rows_ok {ys : List (List D)} {m : ML} {qs : List (Int × Int)} {k z : Int} (hm : gB m) (hq : ∀ q ∈ qs, I64 q.2) (hl : qs.length ≤ 1000) (hys : ys = iR (sel qs k)) (hz : z = bal m k) : ∃ xs, ys ++ [[.int .i64 z]] = iR xs ∧ xs.length ≤ 100000 ∧ ∀ x ∈ xs, I64 x := by
  refine ⟨_, iR_snoc hys, ?_, fun x hx => ?_⟩
  · have := sel_len qs k
    simp
    omega
  · rcases List.mem_append.1 hx with hx | hx
    · exact sel_I hq k x hx
    · simp only [List.mem_singleton] at hx
      subst hx hz
      exact bal_I hm k
theorem LP2.bad {m am : ML} {qs : List (Int × Int)} {L0 : Bag} {p : Int × Value} {q : Int × Int} (hA : AMP am L0 qs) (hin : inR qs) (hk : p ∈ am) (hq : q = (amt (tot m qs p.1), amtE (tot m qs p.1))) (hb : real.cmp .neq q.2 0 = true) : AppR m qs q.2 m := by
  subst hq
  obtain ⟨k, v⟩ := p
  obtain ⟨q2, hq2, rfl⟩ := (hA.key k).1 (by rw [(Mk.look_mem hA.nd).2 hk]; rfl)
  have hno : ¬ I64 (tot m qs q2.1) := fun h => by
    rw [(amt_yes h).2] at hb
    cases hb
  exact .inr (.inl ⟨(amt_no hno).2, rfl, hin, q2, hq2, hno⟩)
theorem LP2.next {m am nx : ML} {qs : List (Int × Int)} {left : ML} {A B : Bag} {q : (Int × Value) × ML} {x : Int × Int} (h : LP2 m am qs left (A ++ (q.1.2, iR (sel qs q.1.1)) :: B) nx) (hn : (am.map (·.1)).Nodup) (hp : left.Perm (q.1 :: q.2))
    (hx : x = (amt (tot m qs q.1.1), amtE (tot m qs q.1.1))) (hb : real.cmp .neq x.2 0 = false) (y : Value × List (List D)) : LP2 m am qs q.2 (y :: (A ++ B)) (real.mput nx q.1.1 (.int .i64 x.1)) := by
  subst hx
  have hi : I64 (tot m qs q.1.1) := Classical.byContradiction (fun h => by
    rw [(amt_no h).2] at hb
    cases hb)
  have := h.go hn hp hi y
  rw [(amt_yes hi).1]
  exact this
theorem K_Apply0 (m : ML) (hm : gB m) (r : List (List D)) (qs : List (Int × Int)) (hr : r = lnR qs) (hl : qs.length ≤ 1000) (hq : ∀ q ∈ qs, I64 q.2) : CallE Try.prog 16 [.ptr 1 0, .d (.imm r)] 2 [(0, .mp .i64 m), (1, .cells [.map 0])]
    (fun v n h => Nd (fun _ => Fin 2 (KApp m qs) v n h)) := by
  refine call_fn tysOK orders (C := B1) B1_ok ⟨[((10, 2), [3]), ((17, 1), [2])], [], 0⟩ Try.func16 (by kernel_rfl) (by kernel_rfl) ?_
  intro oBin oCmp oWrap oNeg oCom oBnot oBeq oPickB oPickI oPickS oInb oSub2 oMinI oMaxI oSlen oSidx oScat oSsub oScmp oScok oLen oCI oCB oCS oCL oOkR oApp oApok oSub oSetc oRep oMkok oNthI oNthB oNthS oIteI oIteB oIteS oB2s oS2b oAllB oWf oDeq oMlen oMhas oMI oMB oMS oMok oMput oMdel oSgo oSru oSnx ho; cbv
  (repeat (any_goals (first
    | with_reducible refine And.intro ?_ ?_
    | exact True.intro
    | with_reducible exact rfl
    | (with_reducible refine Nd.mk ?_; try dsimp only)
    | (with_reducible refine Nd0.mk ?_; try dsimp only)
    | (with_reducible refine Pz.mk ?_; cbv)
    | (with_reducible refine RgOK.mk ?_; kernel_rfl)
    | (with_reducible refine OrOK.mk ?_; kernel_rfl)
    | (with_reducible refine Al.mk (fun x hx => ?_); cbv)
    | (with_reducible refine hK' _ ?_; clear hK' K'; cbv)
    | (with_reducible refine brA.yes (by first | assumption | exact rfl | (simp only [show oCmp = real.cmp from congrArg Ar.cmp ho, show oBin = real.bin from congrArg Ar.bin ho, show oScmp = real.scmp from congrArg Ar.scmp ho, show oPickB = real.pickB from congrArg Ar.pickB ho]; decide)) ?_; cbv)
    | (with_reducible refine brA.no (by first | assumption | exact rfl | (simp only [show oCmp = real.cmp from congrArg Ar.cmp ho, show oBin = real.bin from congrArg Ar.bin ho, show oScmp = real.scmp from congrArg Ar.scmp ho, show oPickB = real.pickB from congrArg Ar.pickB ho]; decide)) ?_; cbv)
    | (with_reducible refine bcase (fun hb => ?_) (fun hb => ?_) <;> cbv)
    | (intro K' hK'; cbv))))
  refine ⟨fun st => ∃ (i : Nat) (j : Int), j = i ∧ i ≤ qs.length ∧ inR (qs.take i) ∧ st = ⟨mkF 67 0 [(0, .ptr 1 0), (1, .d (.imm r)), (16, .d (.imm r)), (17, .d (.int .i64 (oLen r))), (18, .d (.int .i64 j))], 2, [(0, .mp .i64 m), (1, .cells [.map 0])]⟩, fun st => ((qs.length : Int) - ctr 18 st).toNat, ⟨[], [], [0, 1, 16, 17, 18], [0, 1], 2⟩, ?_, ?_, ?_⟩
  · cbv
  · exact ⟨0, 0, rfl, Nat.zero_le _, (fun q hq => by cases hq), rfl⟩
  rintro st1 ⟨i, j, hj, hi, hA, rfl⟩
  cbv
  (repeat (any_goals (first
    | with_reducible refine And.intro ?_ ?_
    | exact True.intro
    | with_reducible exact rfl
    | (with_reducible refine Nd.mk ?_; try dsimp only)
    | (with_reducible refine Nd0.mk ?_; try dsimp only)
    | (with_reducible refine Pz.mk ?_; cbv)
    | (with_reducible refine RgOK.mk ?_; kernel_rfl)
    | (with_reducible refine OrOK.mk ?_; kernel_rfl)
    | (with_reducible refine Al.mk (fun x hx => ?_); cbv)
    | (with_reducible refine hK' _ ?_; clear hK' K'; cbv)
    | (with_reducible refine brA.yes (by first | assumption | exact rfl | (simp only [show oCmp = real.cmp from congrArg Ar.cmp ho, show oBin = real.bin from congrArg Ar.bin ho, show oScmp = real.scmp from congrArg Ar.scmp ho, show oPickB = real.pickB from congrArg Ar.pickB ho]; decide)) ?_; cbv)
    | (with_reducible refine brA.no (by first | assumption | exact rfl | (simp only [show oCmp = real.cmp from congrArg Ar.cmp ho, show oBin = real.bin from congrArg Ar.bin ho, show oScmp = real.scmp from congrArg Ar.scmp ho, show oPickB = real.pickB from congrArg Ar.pickB ho]; decide)) ?_; cbv)
    | (with_reducible refine bcase (fun hb => ?_) (fun hb => ?_) <;> cbv)
    | (intro K' hK'; cbv))))
  all_goals first
    | (((try clear hK' K'); cases ho; (try simp only [nc1] at *); (try simp only [Int.ofNat_eq_natCast] at *))
       first
       | with_reducible exact inb_lt hj (by assumption)
       | with_reducible exact ln_wf hr
       | with_reducible exact ln_ok hr hj (by assumption)
       | exact ⟨qs, hr, hl⟩
       | exact fin_app (.inl ⟨rfl, rfl, acc_lo hr hj (by assumption) (by assumption)⟩)
       | exact fin_app (.inl ⟨rfl, rfl, acc_hi hr hj (by assumption) (by assumption)⟩)
       | (have hi' := ln_lt hr hj (by assumption)
          have hok := acc_ok hr hj (by assumption) (by assumption) (by assumption) hA
          refine ⟨⟨[], [], [0, 1, 16, 17, 18], [0, 1], 2⟩, rfl, ⟨i + 1, real.bin .add .i64 j 1, addL hj (by omega), by omega, hok, rfl⟩, ?_⟩
          show ((qs.length : Int) - real.bin .add .i64 j 1).toNat < ((qs.length : Int) - j).toNat
          rw [addL hj (by omega)]; omega))
    | skip
  · obtain ⟨am, L0⟩ := x
    have hAm : AMP am L0 qs := by
      obtain ⟨qs', h1, h2⟩ := hx
      rw [lnR_inj (hr.symm.trans h1)]
      exact h2
    have hin : inR qs := in_end ho hr hj hi hA hb
    clear hx
    refine ⟨fun st => ∃ (left : ML) (cur : Option (Int × Value)) (L : Bag) (nx : ML), LP2 m am qs left L nx ∧ st = ⟨mkF 67 0 [(0, .ptr 1 0), (7, .map 2), (34, .iter 5)], 6, [(0, .mp .i64 m), (1, .cells [.map 0]), (2, .mp .i64 nx), (4, .bag 1 L), (5, .it .i64 114 left cur)]⟩, fun st => itl 5 st, ⟨[], [], [0, 7, 34], [0, 1, 2, 4, 5], 6⟩, ?_, ?_, ?_⟩
    · cbv
    · exact ⟨am, none, L0, [], LP2.start hAm, rfl⟩
    rintro st1 ⟨left, cur, L, nx, hP, rfl⟩
    cbv
    (repeat (any_goals (first
    | with_reducible refine And.intro ?_ ?_
    | exact True.intro
    | with_reducible exact rfl
    | (with_reducible refine Nd.mk ?_; try dsimp only)
    | (with_reducible refine Nd0.mk ?_; try dsimp only)
    | (with_reducible refine Pz.mk ?_; cbv)
    | (with_reducible refine RgOK.mk ?_; kernel_rfl)
    | (with_reducible refine OrOK.mk ?_; kernel_rfl)
    | (with_reducible refine Al.mk (fun x hx => ?_); cbv)
    | (with_reducible refine hK' _ ?_; clear hK' K'; cbv)
    | (with_reducible refine brA.yes (by first | assumption | exact rfl | (simp only [show oCmp = real.cmp from congrArg Ar.cmp ho, show oBin = real.bin from congrArg Ar.bin ho, show oScmp = real.scmp from congrArg Ar.scmp ho, show oPickB = real.pickB from congrArg Ar.pickB ho]; decide)) ?_; cbv)
    | (with_reducible refine brA.no (by first | assumption | exact rfl | (simp only [show oCmp = real.cmp from congrArg Ar.cmp ho, show oBin = real.bin from congrArg Ar.bin ho, show oScmp = real.scmp from congrArg Ar.scmp ho, show oPickB = real.pickB from congrArg Ar.pickB ho]; decide)) ?_; cbv)
    | (with_reducible refine bcase (fun hb => ?_) (fun hb => ?_) <;> cbv)
    | (intro K' hK'; cbv))))
    any_goals first
      | omega
      | exact hm
      | exact hAm.sl _ (hP.sub (by assumption))
      | exact hAm.sl _ (hP.sub (perm_one (by assumption) (by assumption)))
    · subst hx
      refine ⟨fun st => ∃ (left : ML) (cur : Option (Int × Value)) (m' : ML), LP3 m qs left m' ∧ st = ⟨mkF 67 0 [(0, .ptr 1 0), (57, .iter 6)], 7, [(0, .mp .i64 m'), (1, .cells [.map 0]), (6, .it .i64 42 left cur)]⟩, fun st => itl 6 st, ⟨[], [], [0, 57], [0, 1, 6], 7⟩, ?_, ?_, ?_⟩
      · cbv
      · exact ⟨nx, none, m, LP3.start hm hAm hin hP, rfl⟩
      rintro st1 ⟨left, cur, m', hP3, rfl⟩
      cbv
      (repeat (any_goals (first
    | with_reducible refine And.intro ?_ ?_
    | exact True.intro
    | with_reducible exact rfl
    | (with_reducible refine Nd.mk ?_; try dsimp only)
    | (with_reducible refine Nd0.mk ?_; try dsimp only)
    | (with_reducible refine Pz.mk ?_; cbv)
    | (with_reducible refine RgOK.mk ?_; kernel_rfl)
    | (with_reducible refine OrOK.mk ?_; kernel_rfl)
    | (with_reducible refine Al.mk (fun x hx => ?_); cbv)
    | (with_reducible refine hK' _ ?_; clear hK' K'; cbv)
    | (with_reducible refine brA.yes (by first | assumption | exact rfl | (simp only [show oCmp = real.cmp from congrArg Ar.cmp ho, show oBin = real.bin from congrArg Ar.bin ho, show oScmp = real.scmp from congrArg Ar.scmp ho, show oPickB = real.pickB from congrArg Ar.pickB ho]; decide)) ?_; cbv)
    | (with_reducible refine brA.no (by first | assumption | exact rfl | (simp only [show oCmp = real.cmp from congrArg Ar.cmp ho, show oBin = real.bin from congrArg Ar.bin ho, show oScmp = real.scmp from congrArg Ar.scmp ho, show oPickB = real.pickB from congrArg Ar.pickB ho]; decide)) ?_; cbv)
    | (with_reducible refine bcase (fun hb => ?_) (fun hb => ?_) <;> cbv)
    | (intro K' hK'; cbv))))
      all_goals (cases ho)
      all_goals first
        | omega
        | exact hP3.g
        | exact hP3.mok
        | exact hP3.mok1 (by assumption)
        | (subst hx; exact fin_app (.inr (.inr ⟨rfl, hin, hP.fit hAm, hP3.fin⟩)))
        | (rename_i q hp
           refine ⟨⟨[], [], [0, 57], [0, 1, 6], 7⟩, rfl, ⟨q.2, some q.1, x, hP3.step hp hx, rfl⟩, ?_⟩
           show q.2.length < left.length
           rw [hp.length_eq]
           exact Nat.lt_succ_self _)
        | trace_state
    · rename_i q hp
      revert x
      intro z hz
      obtain ⟨A, B, hL, hpa⟩ := hP.bag hp
      subst hL
      obtain ⟨ys, hys⟩ : ∃ ys, ys = iR (sel qs q.1.1) := ⟨_, rfl⟩
      have hok : oApok ys [[.int .i64 z]] 1 8 = true := bag_ok ho hys (Nat.le_trans (sel_len qs q.1.1) hl)
      obtain ⟨L2, hL2⟩ : ∃ L2, L2 = A ++ B := ⟨_, rfl⟩
      refine ⟨ys, L2, .inr ⟨A, B, by rw [hys], hL2⟩, hok, fun v' hs => ?_⟩
      cbv
      (repeat (any_goals (first
    | with_reducible refine And.intro ?_ ?_
    | exact True.intro
    | with_reducible exact rfl
    | (with_reducible refine Nd.mk ?_; try dsimp only)
    | (with_reducible refine Nd0.mk ?_; try dsimp only)
    | (with_reducible refine Pz.mk ?_; cbv)
    | (with_reducible refine RgOK.mk ?_; kernel_rfl)
    | (with_reducible refine OrOK.mk ?_; kernel_rfl)
    | (with_reducible refine Al.mk (fun x hx => ?_); cbv)
    | (with_reducible refine hK' _ ?_; clear hK' K'; cbv)
    | (with_reducible refine brA.yes (by first | assumption | exact rfl | (simp only [show oCmp = real.cmp from congrArg Ar.cmp ho, show oBin = real.bin from congrArg Ar.bin ho, show oScmp = real.scmp from congrArg Ar.scmp ho, show oPickB = real.pickB from congrArg Ar.pickB ho]; decide)) ?_; cbv)
    | (with_reducible refine brA.no (by first | assumption | exact rfl | (simp only [show oCmp = real.cmp from congrArg Ar.cmp ho, show oBin = real.bin from congrArg Ar.bin ho, show oScmp = real.scmp from congrArg Ar.scmp ho, show oPickB = real.pickB from congrArg Ar.pickB ho]; decide)) ?_; cbv)
    | (with_reducible refine bcase (fun hb => ?_) (fun hb => ?_) <;> cbv)
    | (intro K' hK'; cbv))))
      all_goals (cases ho)
      all_goals first
        | (have := rows_ok hm hq hl hys hz
           cases ys <;> exact this)
        | (have h5 := tot_of hys hz (q := x) (by cases ys <;> exact hx)
           exact fin_app (LP2.bad hAm hin hpa h5 (by assumption)))
        | (have h5 := tot_of hys hz (q := x) (by cases ys <;> exact hx)
           refine ⟨⟨[], [(6, 4)], [0, 7, 34], [0, 1, 2, 6, 5], 6⟩, rfl, ⟨q.2, some q.1, _, _, (by rw [hL2]; exact hP.next hAm.nd hp h5 (by assumption) _), rfl⟩, ?_⟩
           show q.2.length < left.length
           rw [hp.length_eq]
           exact Nat.lt_succ_self _)
        | trace_state
end Go.Proofs.Yteakfibolfapiaa.Ab
