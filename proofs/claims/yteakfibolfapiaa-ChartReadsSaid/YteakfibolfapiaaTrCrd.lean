/- chart.Read, by the executor. ChartReads, by the executor. -/
import Derived.Test.YteakfibolfapiaaTrRrA
import Derived.Test.YteakfibolfapiaaTrTx
import Derived.Test.YteakfibolfapiaaTrRrB
import Derived.Test.YteakfibolfapiaaTrRr6
namespace Go.Proofs.Yteakfibolfapiaa.Ab
open Go Go.RowKit Go.Sort
set_option linter.unusedVariables false
set_option linter.unusedSimpArgs false
set_option maxRecDepth 100000
set_option maxHeartbeats 8000000
def R4 : CallS := fun f args n h K => match f with
  | 8 => (match args with | [] => S_New K n h | _ => False)
  | 9 => (match args with | [.ptr i 0, .d (.agg [.int .i64 c, .int .u8 k, .str s])] => S_Add i c k s K n h | _ => False)
  | 52 => (match args with | [.ptr i 0, .d (.int .i64 k)] => S_RNum i k K n h | [.d .nilp, .d (.int .i64 1)] => S_RNumN K n h | _ => False)
  | 53 => (match args with | [.ptr i 0] => S_RText i K n h | _ => False)
  | 54 => (match args with | [.ptr i 0] => S_RWrong i K n h | [.d .nilp] => S_RWrongN K n h | _ => False)
  | _ => False
theorem R4_ok : ∀ f args n h K, R4 f args n h K → CallE Try.prog f args n h K := by
  intro f args n h K hc
  unfold R4 at hc
  split at hc
  · split at hc
    · exact L_New hc
    · exact hc.elim
  · split at hc
    · exact L_Add hc
    · exact hc.elim
  · split at hc
    · exact L_RNum hc
    · exact L_RNumN hc
    · exact hc.elim
  · split at hc
    · exact L_RText hc
    · exact hc.elim
  · split at hc
    · exact L_RWrong hc
    · exact L_RWrongN hc
    · exact hc.elim
  · exact hc.elim
def KRd (s : List UInt8) : CallK := fun v n h => (∃ l rest, rdC s = some (l, rest) ∧ v = .tup [.ptr 2 0, .d (.int .i64 0)] ∧ n = 3 ∧ h = [(0, .cells [.d (.str rest), .d (.bool false)]), (1, .mp .i64 (pm l)), (2, .cells [.map 1])]) ∨
  (rdC s = none ∧ v = .tup [.d .nilp, .d (.int .i64 4)] ∧ n = 1 ∧ ∃ r b, h = [(0, .cells [.d (.str r), .d (.bool b)])])
theorem nm_w2 {s : List UInt8} {b : Bool} {q : Int × List UInt8 × Bool} (h : q = nmS s b 2) : real.wrap .i64 q.1 = q.1 := by
  have h3 := nm_bd h (by decide)
  have h4 : q.1 < 65536 := h3.2
  exact wrap_i64 _ (by omega) (by omega)
theorem nm_w8 {s : List UInt8} {b : Bool} {q : Int × List UInt8 × Bool} (h : q = nmS s b 1) : real.wrap .u8 q.1 = q.1 := by
  have h3 := nm_bd h (by decide)
  have h4 : q.1 < 256 := h3.2
  exact wrap_u8 _ (by omega) (by omega)
section
variable {s rest : List UInt8} {i n : Nat} {l : List It.Acc} {m : ML} {b : Bool} {last cnt j : Int} {q1 q2 : Int × List UInt8 × Bool} {q3 : List UInt8 × List UInt8 × Bool}
theorem cr_in (hj : j = i) (hcnt : cnt = n) (hd : b = false ∧ rdGo (n - i) rest l = rdC s ∨ b = true ∧ i = n ∧ rdC s = none) (hb : real.cmp .lss j cnt = true) : i < n ∧ b = false ∧ rdGo (n - (i + 1) + 1) rest l = rdC s := by
  simp only [real, rCmp, decide_eq_true_eq] at hb
  rcases hd with ⟨h1, h2⟩ | ⟨h1, h2, -⟩
  · refine ⟨by omega, h1, ?_⟩
    rw [← h2]
    congr 1
    omega
  · omega
theorem cr_err (hj : j = i) (hcnt : cnt = n) (hm : m = pm l) (hlast : last = lastC l) (hL : gL l) (hd : b = false ∧ rdGo (n - i) rest l = rdC s ∨ b = true ∧ i = n ∧ rdC s = none) (h1 : q1 = nmS rest b 2) (h2 : q2 = nmS q1.2.1 q1.2.2 1) (h3 : q3 = txS q2.2.1 q2.2.2)
    (hb : real.cmp .lss j cnt = true) (he : real.wrap .i64 q1.1 ≤ last ∨ addE m (real.wrap .i64 q1.1) (real.wrap .u8 q2.1) q3.1 ≠ 0) : rdC s = none := by
  obtain ⟨-, rfl, h5⟩ := cr_in hj hcnt hd hb
  rw [nm_w2 h1, nm_w8 h2, hm, hlast] at he
  rw [← h5]
  exact (go_step hL h1 h2 h3).1 he
theorem cr_ok (hj : j = i) (hn : n ≤ 255) (hcnt : cnt = n) (hm : m = pm l) (hlast : last = lastC l) (hL : gL l) (hd : b = false ∧ rdGo (n - i) rest l = rdC s ∨ b = true ∧ i = n ∧ rdC s = none) (h1 : q1 = nmS rest b 2) (h2 : q2 = nmS q1.2.1 q1.2.2 1) (h3 : q3 = txS q2.2.1 q2.2.2)
    (hb : real.cmp .lss j cnt = true) (he : ¬ real.wrap .i64 q1.1 ≤ last) (he2 : addE m (real.wrap .i64 q1.1) (real.wrap .u8 q2.1) q3.1 = 0) :
    gL (l ++ [rdA rest]) ∧ real.wrap .i64 q1.1 = lastC (l ++ [rdA rest]) ∧ addC m (real.wrap .i64 q1.1) (real.wrap .u8 q2.1) q3.1 = pm (l ++ [rdA rest]) ∧ q3.2.2 = false ∧ rdGo (n - (i + 1)) q3.2.1 (l ++ [rdA rest]) = rdC s ∧ i + 1 ≤ n ∧ real.bin .add .u64 j 1 = ((i + 1 : Nat) : Int) := by
  obtain ⟨h4, rfl, h5⟩ := cr_in hj hcnt hd hb
  rw [nm_w2 h1, nm_w8 h2, hm, hlast] at *
  obtain ⟨g1, g2, g3, g4, g5⟩ := (go_step (n := n - (i + 1)) hL h1 h2 h3).2 he he2
  refine ⟨g1, g2, g3, g4, by rw [← g5, h5], h4, ?_⟩
  simp only [real, rBin]
  rw [wrap_u64 _ (by omega) (by omega)]
  omega
end
theorem ne_of {x : Int × ML} {a : Int} {c : ML} (hx : x = (a, c)) (h : real.pickB false true (real.cmp .neq x.1 0) = true) : a ≠ 0 := by
  subst hx
  simpa [real, rCmp] using h
theorem eq_of {x : Int × ML} {a : Int} {c : ML} (hx : x = (a, c)) (h : real.pickB false true (real.cmp .neq x.1 0) = false) : a = 0 := by
  subst hx
  simpa [real, rCmp] using h
theorem cr_out {s rest : List UInt8} {i n : Nat} {l : List It.Acc} {b : Bool} {cnt j : Int} (hj : j = i) (hi : i ≤ n) (hcnt : cnt = n) (hd : b = false ∧ rdGo (n - i) rest l = rdC s ∨ b = true ∧ i = n ∧ rdC s = none) (hb : real.cmp .lss j cnt = false) : (b = true → rdC s = none) ∧ (b = false → rdC s = some (l, rest)) := by
  simp only [real, rCmp, decide_eq_false_iff_not] at hb
  rcases hd with ⟨rfl, h2⟩ | ⟨rfl, -, h2⟩
  · refine ⟨(fun h => by cases h), fun _ => ?_⟩
    rw [← h2, show n - i = 0 by omega]
    rfl
  · exact ⟨fun _ => h2, (fun h => by cases h)⟩
theorem cr_start {s : List UInt8} {x : Int × List UInt8 × Bool} (hx : x = nmS s false 1) : ∃ (i n : Nat) (l : List It.Acc) (m : ML) (rest : List UInt8) (b : Bool) (last cnt j : Int), j = i ∧ i ≤ n ∧ n ≤ 255 ∧ cnt = n ∧ m = pm l ∧ last = lastC l ∧ gL l ∧ ((b = false ∧ rdGo (n - i) rest l = rdC s) ∨ (b = true ∧ i = n ∧ rdC s = none)) ∧
      (⟨mkF 37 0 [(0, .ptr 0 0), (4, .ptr 2 0), (5, .d (.int .i64 0)), (9, .d (.int .u64 x.1)), (10, .d (.int .u64 0))], 3, [(0, .cells [.d (.str x.2.1), .d (.bool x.2.2)]), (1, .mp .i64 []), (2, .cells [.map 1])]⟩ : St) = ⟨mkF 37 0 [(0, .ptr 0 0), (4, .ptr 2 0), (5, .d (.int .i64 last)), (9, .d (.int .u64 cnt)), (10, .d (.int .u64 j))], 3, [(0, .cells [.d (.str rest), .d (.bool b)]), (1, .mp .i64 m), (2, .cells [.map 1])]⟩ := by
  by_cases h : 1 ≤ s.length
  · rw [show (1 : Int) = ((1 : Nat) : Int) from rfl, nm_ok (k := 1) h, take_getD1 h] at hx
    subst hx
    have := bt_lt s 0
    exact ⟨0, bt s 0, [], [], s.drop 1, false, 0, _, 0, rfl, Nat.zero_le _, by omega, rfl, rfl, rfl, gL_nil, .inl ⟨rfl, by rw [rdC, if_pos h]; rfl⟩, rfl⟩
  · rw [show (1 : Int) = ((1 : Nat) : Int) from rfl, nm_short (k := 1) (by omega)] at hx
    subst hx
    exact ⟨0, 0, [], [], [], true, 0, 0, 0, rfl, Nat.le_refl _, by omega, rfl, rfl, rfl, gL_nil, .inr ⟨rfl, rfl, by rw [rdC, if_neg h]⟩, rfl⟩
theorem fin_cr {s r : List UInt8} {b : Bool} (h : rdC s = none) : Fin 1 (KRd s) (.tup [.d .nilp, .d (.int .i64 4)]) 1 [(0, .cells [.d (.str r), .d (.bool b)])] :=
  ⟨⟨[], [], [0], [0], 1⟩, _, 1, _, rfl, rfl, .inr ⟨h, rfl, rfl, _, _, rfl⟩⟩
theorem K_CRd0 (s : List UInt8) : CallE Try.prog 22 [.ptr 0 0] 1 [(0, .cells [.d (.str s), .d (.bool false)])] (fun v n h => Nd (fun _ => Fin 1 (KRd s) v n h)) := by
  refine call_fn tysOK orders (C := R4) R4_ok H0 Try.func22 (by kernel_rfl) (by kernel_rfl) ?_
  intro oBin oCmp oWrap oNeg oCom oBnot oBeq oPickB oPickI oPickS oInb oSub2 oMinI oMaxI oSlen oSidx oScat oSsub oScmp oScok oLen oCI oCB oCS oCL oOkR oApp oApok oSub oSetc oRep oMkok oNthI oNthB oNthS oIteI oIteB oIteS oB2s oS2b oAllB oWf oDeq oMlen oMhas oMI oMB oMS oMok oMput oMdel oSgo oSru oSnx ho; cbv
  (repeat (any_goals (first
    | with_reducible refine And.intro ?_ ?_
    | exact True.intro
    | with_reducible exact rfl
    | (with_reducible refine Nd.mk ?_; try dsimp only)
    | (with_reducible refine Pz.mk ?_; cbv)
    | (with_reducible refine RgOK.mk ?_; kernel_rfl)
    | (with_reducible refine OrOK.mk ?_; kernel_rfl)
    | (with_reducible refine Al.mk (fun x hx => ?_); cbv)
    | (with_reducible refine hK' _ ?_; clear hK' K'; cbv)
    | (with_reducible refine brA.yes (by first | assumption | exact rfl | (simp only [show oCmp = real.cmp from congrArg Ar.cmp ho, show oBin = real.bin from congrArg Ar.bin ho, show oScmp = real.scmp from congrArg Ar.scmp ho, show oPickB = real.pickB from congrArg Ar.pickB ho, show oBnot = real.bnot from congrArg Ar.bnot ho]; decide)) ?_; cbv)
    | (with_reducible refine brA.no (by first | assumption | exact rfl | (simp only [show oCmp = real.cmp from congrArg Ar.cmp ho, show oBin = real.bin from congrArg Ar.bin ho, show oScmp = real.scmp from congrArg Ar.scmp ho, show oPickB = real.pickB from congrArg Ar.pickB ho, show oBnot = real.bnot from congrArg Ar.bnot ho]; decide)) ?_; cbv)
    | (with_reducible refine bcase (fun hb => ?_) (fun hb => ?_) <;> cbv)
    | (intro K' hK'; cbv))))
  any_goals (refine ⟨fun st => ∃ (i n : Nat) (l : List It.Acc) (m : ML) (rest : List UInt8) (b : Bool) (last cnt j : Int), j = i ∧ i ≤ n ∧ n ≤ 255 ∧ cnt = n ∧ m = pm l ∧ last = lastC l ∧ gL l ∧ ((b = false ∧ rdGo (n - i) rest l = rdC s) ∨ (b = true ∧ i = n ∧ rdC s = none)) ∧
      st = ⟨mkF 37 0 [(0, .ptr 0 0), (4, .ptr 2 0), (5, .d (.int .i64 last)), (9, .d (.int .u64 cnt)), (10, .d (.int .u64 j))], 3, [(0, .cells [.d (.str rest), .d (.bool b)]), (1, .mp .i64 m), (2, .cells [.map 1])]⟩,
      fun st => (256 - ctr 10 st).toNat, ⟨[], [], [0, 4, 5, 9, 10], [0, 1, 2], 3⟩, ?_, ?_, ?_⟩
             · cbv
             · cases ho
               exact cr_start hx
             rintro st1 ⟨i, n, l, m, rest, b, last, cnt, j, hj, hi, hn, hcnt, hm, hlast, hL, hd, rfl⟩
             cbv
             (repeat (any_goals (first
    | with_reducible refine And.intro ?_ ?_
    | exact True.intro
    | with_reducible exact rfl
    | (with_reducible refine Nd.mk ?_; try dsimp only)
    | (with_reducible refine Pz.mk ?_; cbv)
    | (with_reducible refine RgOK.mk ?_; kernel_rfl)
    | (with_reducible refine OrOK.mk ?_; kernel_rfl)
    | (with_reducible refine Al.mk (fun x hx => ?_); cbv)
    | (with_reducible refine hK' _ ?_; clear hK' K'; cbv)
    | (with_reducible refine brA.yes (by first | assumption | exact rfl | (simp only [show oCmp = real.cmp from congrArg Ar.cmp ho, show oBin = real.bin from congrArg Ar.bin ho, show oScmp = real.scmp from congrArg Ar.scmp ho, show oPickB = real.pickB from congrArg Ar.pickB ho, show oBnot = real.bnot from congrArg Ar.bnot ho]; decide)) ?_; cbv)
    | (with_reducible refine brA.no (by first | assumption | exact rfl | (simp only [show oCmp = real.cmp from congrArg Ar.cmp ho, show oBin = real.bin from congrArg Ar.bin ho, show oScmp = real.scmp from congrArg Ar.scmp ho, show oPickB = real.pickB from congrArg Ar.pickB ho, show oBnot = real.bnot from congrArg Ar.bnot ho]; decide)) ?_; cbv)
    | (with_reducible refine bcase (fun hb => ?_) (fun hb => ?_) <;> cbv)
    | (intro K' hK'; cbv)))))
  all_goals ((try clear hK' K'); cases ho; (try simp only [nc1] at *); (try simp only [Int.ofNat_eq_natCast] at *))
  all_goals first
    | decide
    | (rw [hm]; exact gC_pm l)
    | exact fin_cr (cr_err hj hcnt hm hlast hL hd ‹_ = nmS rest b 2› (by assumption) (by assumption) (by assumption) (.inl (of_decide_eq_true ‹real.cmp BinOp.leq _ _ = true›)))
    | (exact fin_cr (cr_err hj hcnt hm hlast hL hd ‹_ = nmS rest b 2› (by assumption) (by assumption) (by assumption) (.inr (ne_of hx ‹real.pickB false true _ = true›))))
    | (obtain ⟨g1, g2, g3, g4, g5, g6, g7⟩ := cr_ok hj hn hcnt hm hlast hL hd ‹_ = nmS rest b 2› (by assumption) (by assumption) (by assumption) (of_decide_eq_false ‹real.cmp BinOp.leq _ _ = false›) (eq_of hx ‹real.pickB false true _ = false›)
       refine ⟨⟨[], [], [0, 4, 5, 9, 10], [0, 1, 2], 3⟩, rfl, ⟨i + 1, n, l ++ [rdA rest], _, _, _, _, cnt, real.bin .add .u64 j 1, g7, g6, hn, hcnt, (congrArg Prod.snd hx).trans g3, g2, g1, .inl ⟨g4, g5⟩, rfl⟩, ?_⟩
       show (256 - real.bin .add .u64 j 1).toNat < (256 - j).toNat
       rw [g7]; omega)
    | exact fin_cr ((cr_out hj hi hcnt hd (by assumption)).1 (by assumption))
    | (have he := (cr_out hj hi hcnt hd (by assumption)).2 (by assumption)
       cases ‹b = false›
       exact ⟨⟨[], [], [0], [0, 1, 2], 3⟩, _, 3, _, rfl, rfl, .inl ⟨l, rest, he, rfl, rfl, (by subst hm; rfl)⟩⟩)
    | trace_state
def S_ChRead (i : Nat) (K : CallK) (n : Nat) (h : Hp) : Prop := patR h i fun s b => Nd (fun _ => i < n ∧ b = false) ∧
  (Al (fun q : ML × List UInt8 => ∃ l, rdC s = some (l, q.2) ∧ q.1 = pm l) fun q => K (.tup [.ptr (n + 1) 0, .d (.int .i64 0)]) (n + 2) (outs (fun _ => i) 1 h ++ [(i, .cells [.d (.str q.2), .d (.bool false)]), (n, .mp .i64 q.1), (n + 1, .cells [.map n])])) ∧
  (Al (fun q : List UInt8 × Bool => rdC s = none) fun q => K (.tup [.d .nilp, .d (.int .i64 4)]) n (outR i h q.1 q.2))
theorem L_ChRead {i n : Nat} {h : Hp} {K : CallK} (hK : S_ChRead i K n h) : CallE Try.prog 22 [.ptr i 0] n h K := by
  obtain ⟨s, b, hg, ⟨⟨hi, rfl⟩⟩, hk1, hk2⟩ := patR_elim hK
  refine call_recv (CallE.fin (K_CRd0 s)) rfl rfl hi hg ?_
  rintro v n1 h1 (⟨l, rest, e, rfl, rfl, rfl⟩ | ⟨e, rfl, rfl, r, b, rfl⟩) -
  · have e1 : lift (fun _ => i) 1 n 1 = n := by simp [lift]; rfl
    have e2 : lift (fun _ => i) 1 n 2 = n + 1 := by simp [lift]; rfl
    have e0 : lift (fun _ => i) 1 n 0 = i := by simp [lift]; rfl
    simp only [renH, renV, renO, renVs, e0, e1, e2]
    exact hk1.h (pm l, rest) ⟨l, e, rfl⟩
  · exact hk2.h (r, b) e
theorem K_CRdN0 : CallE Try.prog 22 [.d .nilp] 0 [] (fun v n h => Nd (fun _ => Fin 0 (Gets fun v => v = .tup [.d .nilp, .d (.int .i64 4)]) v n h)) := by
  refine call_fn tysOK orders (C := R4) R4_ok ⟨[], [], 1⟩ Try.func22 (by kernel_rfl) (by kernel_rfl) ?_
  intro oBin oCmp oWrap oNeg oCom oBnot oBeq oPickB oPickI oPickS oInb oSub2 oMinI oMaxI oSlen oSidx oScat oSsub oScmp oScok oLen oCI oCB oCS oCL oOkR oApp oApok oSub oSetc oRep oMkok oNthI oNthB oNthS oIteI oIteB oIteS oB2s oS2b oAllB oWf oDeq oMlen oMhas oMI oMB oMS oMok oMput oMdel oSgo oSru oSnx ho; cbv
  (repeat (any_goals (first
    | with_reducible refine And.intro ?_ ?_
    | exact True.intro
    | with_reducible exact rfl
    | (with_reducible refine Nd.mk ?_; try dsimp only)
    | (with_reducible refine Pz.mk ?_; cbv)
    | (with_reducible refine RgOK.mk ?_; kernel_rfl)
    | (with_reducible refine OrOK.mk ?_; kernel_rfl)
    | (with_reducible refine Al.mk (fun x hx => ?_); cbv)
    | (with_reducible refine hK' _ ?_; clear hK' K'; cbv)
    | (with_reducible refine brA.yes (by first | assumption | exact rfl | (simp only [show oCmp = real.cmp from congrArg Ar.cmp ho, show oBin = real.bin from congrArg Ar.bin ho, show oScmp = real.scmp from congrArg Ar.scmp ho, show oPickB = real.pickB from congrArg Ar.pickB ho, show oBnot = real.bnot from congrArg Ar.bnot ho]; decide)) ?_; cbv)
    | (with_reducible refine brA.no (by first | assumption | exact rfl | (simp only [show oCmp = real.cmp from congrArg Ar.cmp ho, show oBin = real.bin from congrArg Ar.bin ho, show oScmp = real.scmp from congrArg Ar.scmp ho, show oPickB = real.pickB from congrArg Ar.pickB ho, show oBnot = real.bnot from congrArg Ar.bnot ho]; decide)) ?_; cbv)
    | (with_reducible refine bcase (fun hb => ?_) (fun hb => ?_) <;> cbv)
    | (intro K' hK'; cbv))))
  all_goals ((try clear hK' K'); cases ho; (try simp only [nc1] at *); (try simp only [Int.ofNat_eq_natCast] at *))
  all_goals first
    | decide
    | exact ⟨⟨[], [], [0], [], 0⟩, _, 0, _, rfl, rfl, ⟨rfl⟩, rfl, rfl, rfl⟩
    | trace_state
def S_ChReadN (K : CallK) (n : Nat) (h : Hp) : Prop := K (.tup [.d .nilp, .d (.int .i64 4)]) n h
theorem L_ChReadN {n : Nat} {h : Hp} {K : CallK} (hK : S_ChReadN K n h) : CallE Try.prog 22 [.d .nilp] n h K := call_data (CallE.fin K_CRdN0) rfl (by rintro v rfl; exact hK)
theorem rAdd_0 {l : List It.Acc} {a : It.Acc} (h : rAddE l a = 0) : rgt a = true ∧ (∀ b ∈ l, b.c ≠ a.c) ∧ l.length < 64 := by
  unfold rAddE at h
  split at h
  · rename_i h1
    split at h
    · cases h
    · rename_i h2
      split at h
      · cases h
      · exact ⟨h1, fun b hb e => h2 ⟨b, hb, e⟩, by omega⟩
  · cases h
theorem gL_add {l : List It.Acc} {a : It.Acc} (h : gL l) : gL (rAddL l a) ∧ (rAddL l a).length ≤ l.length + 1 := by
  unfold rAddL
  split
  · rename_i e
    obtain ⟨h1, h2, h3⟩ := rAdd_0 e
    obtain ⟨p1, p2⟩ := ins_spec h.up h2
    have hl := p1.length_eq
    simp at hl
    refine ⟨⟨p2, fun b hb => ?_, by omega⟩, by omega⟩
    rcases List.mem_cons.1 (p1.mem_iff.1 hb) with rfl | hb
    · exact h1
    · exact h.rg b hb
  · exact ⟨h, by omega⟩
theorem rdGo_g : ∀ (n : Nat) (s : List UInt8) (l l' : List It.Acc) (r : List UInt8), gL l → rdGo n s l = some (l', r) → gL l' ∧ r.length ≤ s.length
  | 0, s, l, l', r, hg, e => by
    simp only [rdGo, Option.some.injEq, Prod.mk.injEq] at e
    obtain ⟨rfl, rfl⟩ := e
    exact ⟨hg, Nat.le_refl _⟩
  | n + 1, s, l, l', r, hg, e => by
    unfold rdGo at e
    split at e
    · rename_i h
      obtain ⟨h1, h2⟩ := rdGo_g n _ _ l' r (hg.snoc h.2.1 h.2.2.1 h.2.2.2) e
      refine ⟨h1, ?_⟩
      rw [List.length_drop] at h2
      omega
    · cases e
theorem rdC_g {s : List UInt8} {l : List It.Acc} {r : List UInt8} (h : rdC s = some (l, r)) : gL l ∧ r.length ≤ s.length := by
  unfold rdC at h
  split at h
  · obtain ⟨h1, h2⟩ := rdGo_g _ _ _ _ _ gL_nil h
    rw [List.length_drop] at h2
    exact ⟨h1, by omega⟩
  · cases h
theorem Same_pm {l : List It.Acc} (h : gL l) : Same (pm l) l := ⟨List.Perm.refl _, h.up⟩
/-- Accounts as they came in. -/
def gAc (r : List D) : Prop := ∃ c k s, r = [.int .i64 c, .int .u8 k, .str s]
theorem c_cut {l : List (List D)} (h : ∀ r ∈ l, gAc r) (n : Nat) : real.sub2 0 (real.minI (real.len l) n) (real.len l) = true ∧ (real.sub l 0 (real.minI (real.len l) n)).length ≤ n ∧ ∀ r ∈ real.sub l 0 (real.minI (real.len l) n), gAc r := by
  simp only [real]
  refine ⟨decide_eq_true (by omega), by simp; omega, fun r hr => h r (List.mem_of_mem_take (List.mem_of_mem_drop hr))⟩
theorem c_wf {l : List (List D)} (h : ∀ r ∈ l, gAc r) : real.wf l 3 = true := by
  simp only [real, rWf, List.all_eq_true]
  intro r hr
  obtain ⟨a, b, c, rfl⟩ := h r hr
  rfl
theorem c_ok {l : List (List D)} (h : ∀ r ∈ l, gAc r) {j : Int} {i : Nat} (hj : j = i) (hi : i < l.length) : real.okR l j 0 [.int .i64, .int .u8, .str] = true := by
  subst hj
  obtain ⟨a, b, c, e⟩ : gAc (l.getD i []) := by
    rw [List.getD, List.getElem?_eq_getElem hi]
    exact h _ (List.getElem_mem _)
  simp only [real, Int.toNat_natCast, e]
  simp [rowOk, kdOk]
  omega
theorem s_cut (s : List UInt8) (n : Nat) : real.sub2 0 (real.minI (real.slen s) n) (real.slen s) = true ∧ (real.ssub s 0 (real.minI (real.slen s) n)).length ≤ n := by
  simp only [real]
  exact ⟨decide_eq_true (by omega), by simp; omega⟩
theorem s_cut2 (x s : List UInt8) (h : x.length ≤ 1000000) : real.sub2 0 (real.bin .sub .i64 (real.slen x) (real.minI (real.slen x) (real.slen s))) (real.slen x) = true := by
  simp only [real, rBin]
  rw [wrap_i64 _ (by omega) (by omega)]
  exact decide_eq_true (by omega)
def T3 : CallS := fun f args n h K => match f with
  | 19 => (match args with | [.d (.imm r), .d (.agg [.int .i64 c, .int .u8 k, .str s])] => S_RAdd r c k s K n h | _ => False)
  | 20 => (match args with | [.d (.imm r)] => S_CTx r K n h | _ => False)
  | 21 => (match args with | [.d (.str s)] => S_CRead s K n h | _ => False)
  | 22 => (match args with | [.ptr i 0] => S_ChRead i K n h | [.d .nilp] => S_ChReadN K n h | _ => False)
  | 23 => (match args with | [.d (.str s)] => S_RRead s K n h | _ => False)
  | 24 => (match args with | [.ptr i 0, .d (.imm r)] => S_same i r K n h | _ => False)
  | 25 => (match args with | [.ptr i 0] => S_RLeft i K n h | _ => False)
  | 11 => (match args with | [] => S_wakes K n h | _ => False)
  | _ => False
theorem T3_ok : ∀ f args n h K, T3 f args n h K → CallE Try.prog f args n h K := by
  intro f args n h K hc
  unfold T3 at hc
  split at hc
  · split at hc
    · exact L_RAdd hc
    · exact hc.elim
  · split at hc
    · exact L_CTx hc
    · exact hc.elim
  · split at hc
    · exact L_CRead hc
    · exact hc.elim
  · split at hc
    · exact L_ChRead hc
    · exact L_ChReadN hc
    · exact hc.elim
  · split at hc
    · exact L_RRead hc
    · exact hc.elim
  · split at hc
    · exact L_same hc
    · exact hc.elim
  · split at hc
    · exact L_RLeft hc
    · exact hc.elim
  · split at hc
    · exact L_wakes hc
    · exact hc.elim
  · exact hc.elim
theorem ok1c (c k : Int) (s : List UInt8) : real.okR [[.int .i64 c, .int .u8 k, .str s]] 0 0 [.int .i64] = true := rfl
theorem ok1k (c k : Int) (s : List UInt8) : real.okR [[.int .i64 c, .int .u8 k, .str s]] 0 1 [.int .u8] = true := rfl
theorem ok1s (c k : Int) (s : List UInt8) : real.okR [[.int .i64 c, .int .u8 k, .str s]] 0 2 [.str] = true := rfl
section
variable {T : List (List D)} (hT : ∀ q ∈ T, ∃ t : List UInt8, q = [.str t] ∧ t.length ≤ 1000000)
include hT
theorem T_wf : real.wf T 1 = true := by
  simp only [real, rWf, List.all_eq_true]
  intro r hr
  obtain ⟨t, rfl, -⟩ := hT r hr
  rfl
theorem T_g {i : Nat} (hi : i < T.length) : ∃ t : List UInt8, T.getD i [] = [.str t] ∧ t.length ≤ 1000000 := by
  rw [List.getD, List.getElem?_eq_getElem hi]
  exact hT _ (List.getElem_mem _)
theorem T_ok {j : Int} {i : Nat} (hj : j = i) (hi : i < T.length) : real.okR T j 0 [.str] = true := by
  subst hj
  obtain ⟨t, e, -⟩ := T_g hT hi
  simp only [real, Int.toNat_natCast, e]
  simp [rowOk, kdOk]
  omega
theorem T_at {j : Int} {i : Nat} (hj : j = i) (hi : i < T.length) : (real.cS T j 0).length ≤ 1000000 := by
  subst hj
  obtain ⟨t, e, h⟩ := T_g hT hi
  show (match rCell T (i : Int) 0 with | .str s => s | _ => []).length ≤ _
  unfold rCell
  rw [Int.toNat_natCast, e]
  exact h
end
section
variable {t : List UInt8} {y : ML × List UInt8} {x : List (List D) × Int} {z : Int}
theorem cd_same (h1 : ∃ l, rdC t = some (l, y.2) ∧ y.1 = pm l) (h2 : ∃ l rest, rdC t = some (l, rest) ∧ x.1 = aR l ∧ x.2 = ((t.length - rest.length : Nat) : Int)) : ∃ xs, x.1 = aR xs ∧ Same y.1 xs ∧ xs.length ≤ 1000 := by
  obtain ⟨l1, e1, e2⟩ := h1
  obtain ⟨l2, r2, e3, e4, e5⟩ := h2
  rw [e1, Option.some.injEq, Prod.mk.injEq] at e3
  obtain ⟨rfl, rfl⟩ := e3
  obtain ⟨g1, g2⟩ := rdC_g e1
  exact ⟨l1, e4, by rw [e2]; exact Same_pm g1, by have := g1.ln; omega⟩
theorem cd_no1 (h1 : ∃ l, rdC t = some (l, y.2) ∧ y.1 = pm l) (h2 : rdC t = none) : False := by
  obtain ⟨l1, e1, e2⟩ := h1
  rw [h2] at e1
  cases e1
theorem cd_no2 (h1 : ∃ l rest, rdC t = some (l, rest) ∧ x.1 = aR l ∧ x.2 = ((t.length - rest.length : Nat) : Int)) (h2 : rdC t = none) : False := by
  obtain ⟨l1, r, e1, e2⟩ := h1
  rw [h2] at e1
  cases e1
theorem cd_left (ht : t.length ≤ 1000000) (hz : z = y.2.length) (h1 : ∃ l, rdC t = some (l, y.2) ∧ y.1 = pm l) (h2 : ∃ l rest, rdC t = some (l, rest) ∧ x.1 = aR l ∧ x.2 = ((t.length - rest.length : Nat) : Int)) (hb : real.pickB false true (real.pickB true (real.pickB false true (real.cmp .neq z (real.bin .sub .i64 (real.slen t) x.2))) false) = true) : False := by
  obtain ⟨l1, e1, e2⟩ := h1
  obtain ⟨l2, r2, e3, e4, e5⟩ := h2
  rw [e1, Option.some.injEq, Prod.mk.injEq] at e3
  obtain ⟨rfl, rfl⟩ := e3
  obtain ⟨g1, g2⟩ := rdC_g e1
  have hb : real.cmp .neq z (real.bin .sub .i64 (real.slen t) x.2) = true := hb
  rw [e5, hz] at hb
  simp only [real, rBin] at hb
  rw [wrap_i64 _ (by omega) (by omega)] at hb
  simp only [rCmp, bne_iff_ne, ne_eq] at hb
  omega
end
theorem K_Reads0 (s : List UInt8) (L : List (List D)) (hL : ∀ r ∈ L, gAc r) : CallE Try.prog 5 [.d (.str s), .d (.imm L)] 0 [] (fun v n h => Nd (fun _ => Fin 0 (Gets fun v => v = .d (.bool true)) v n h)) := by
  refine call_fn tysOK orders (C := T3) T3_ok ⟨[((5, 0), [0])], [], 0⟩ Try.func5 (by kernel_rfl) (by kernel_rfl) ?_
  intro oBin oCmp oWrap oNeg oCom oBnot oBeq oPickB oPickI oPickS oInb oSub2 oMinI oMaxI oSlen oSidx oScat oSsub oScmp oScok oLen oCI oCB oCS oCL oOkR oApp oApok oSub oSetc oRep oMkok oNthI oNthB oNthS oIteI oIteB oIteS oB2s oS2b oAllB oWf oDeq oMlen oMhas oMI oMB oMS oMok oMput oMdel oSgo oSru oSnx ho; cbv
  (repeat (any_goals (first
    | with_reducible refine And.intro ?_ ?_
    | exact True.intro
    | with_reducible exact rfl
    | (with_reducible refine Nd.mk ?_; try dsimp only)
    | (with_reducible refine Pz.mk ?_; cbv)
    | (with_reducible refine RgOK.mk ?_; kernel_rfl)
    | (with_reducible refine OrOK.mk ?_; kernel_rfl)
    | (with_reducible refine Al.mk (fun x hx => ?_); cbv)
    | (with_reducible refine hK' _ ?_; clear hK' K'; cbv)
    | (with_reducible refine brA.yes (by first | assumption | exact rfl | (simp only [show oCmp = real.cmp from congrArg Ar.cmp ho, show oBin = real.bin from congrArg Ar.bin ho, show oScmp = real.scmp from congrArg Ar.scmp ho, show oPickB = real.pickB from congrArg Ar.pickB ho, show oBnot = real.bnot from congrArg Ar.bnot ho]; decide)) ?_; cbv)
    | (with_reducible refine brA.no (by first | assumption | exact rfl | (simp only [show oCmp = real.cmp from congrArg Ar.cmp ho, show oBin = real.bin from congrArg Ar.bin ho, show oScmp = real.scmp from congrArg Ar.scmp ho, show oPickB = real.pickB from congrArg Ar.pickB ho, show oBnot = real.bnot from congrArg Ar.bnot ho]; decide)) ?_; cbv)
    | (with_reducible refine bcase (fun hb => ?_) (fun hb => ?_) <;> cbv)
    | (intro K' hK'; cbv))))
  · cases ho; exact (c_cut hL 20).1
  · cases ho; exact c_wf hL
  refine ⟨fun st => ∃ (i : Nat) (j : Int) (A r : List (List D)) (l : List It.Acc), j = i ∧ i ≤ A.length ∧ A.length ≤ 20 ∧ (∀ q ∈ A, gAc q) ∧ r = aR l ∧ gL l ∧ l.length ≤ i ∧
      st = ⟨mkF 127 0 [(0, .d (.str s)), (5, .d (.imm r)), (23, .d (.imm A)), (24, .d (.int .i64 (oLen A))), (25, .d (.int .i64 j))], 0, []⟩,
    fun st => (20 - ctr 25 st).toNat, ⟨[1000005], [], [0, 5, 23, 24, 25], [], 0⟩, ?_, ?_, ?_⟩
  · cbv
  · cases ho
    obtain ⟨h1, h2, h3⟩ := c_cut hL 20
    exact ⟨0, 0, _, [], [], rfl, Nat.zero_le _, h2, h3, rfl, gL_nil, Nat.zero_le _, rfl⟩
  rintro st1 ⟨i, j, A, r, l, hj, hi, hA, hA2, hr, hg, hl, rfl⟩
  cbv
  (repeat (any_goals (first
    | with_reducible refine And.intro ?_ ?_
    | exact True.intro
    | with_reducible exact rfl
    | (with_reducible refine Nd.mk ?_; try dsimp only)
    | (with_reducible refine Pz.mk ?_; cbv)
    | (with_reducible refine RgOK.mk ?_; kernel_rfl)
    | (with_reducible refine OrOK.mk ?_; kernel_rfl)
    | (with_reducible refine Al.mk (fun x hx => ?_); cbv)
    | (with_reducible refine hK' _ ?_; clear hK' K'; cbv)
    | (with_reducible refine brA.yes (by first | assumption | exact rfl | (simp only [show oCmp = real.cmp from congrArg Ar.cmp ho, show oBin = real.bin from congrArg Ar.bin ho, show oScmp = real.scmp from congrArg Ar.scmp ho, show oPickB = real.pickB from congrArg Ar.pickB ho, show oBnot = real.bnot from congrArg Ar.bnot ho]; decide)) ?_; cbv)
    | (with_reducible refine brA.no (by first | assumption | exact rfl | (simp only [show oCmp = real.cmp from congrArg Ar.cmp ho, show oBin = real.bin from congrArg Ar.bin ho, show oScmp = real.scmp from congrArg Ar.scmp ho, show oPickB = real.pickB from congrArg Ar.pickB ho, show oBnot = real.bnot from congrArg Ar.bnot ho]; decide)) ?_; cbv)
    | (with_reducible refine bcase (fun hb => ?_) (fun hb => ?_) <;> cbv)
    | (intro K' hK'; cbv))))
  all_goals first
    | (((try clear hK' K'); cases ho; (try simp only [nc1] at *); (try simp only [Int.ofNat_eq_natCast] at *))
       first
       | (have h5 := lt_R hj ‹real.cmp .lss j (real.len A) = true›
          first
          | with_reducible exact in_R hj h5
          | with_reducible exact c_wf hA2
          | with_reducible exact c_ok hA2 hj h5
          | exact ok1c _ _ _
          | exact ok1k _ _ _
          | exact ok1s _ _ _
          | exact (s_cut _ 30).1
          | exact ⟨l, hr⟩
          | (rw [hr, aR_len]; omega)
          | exact Nat.le_trans (s_cut _ 30).2 (by decide)
          | (have hx2 := (hx l hr).1
             have h7 := add_1 hj (by omega)
             refine ⟨⟨[], [], [0, 5, 23, 24, 25], [], 0⟩, rfl, ⟨i + 1, real.bin .add .i64 j 1, A, _, _, h7, by omega, hA, hA2, hx2, (gL_add hg).1, Nat.le_trans (gL_add hg).2 (by omega), rfl⟩, ?_⟩
             show (20 - real.bin .add .i64 j 1).toNat < (20 - j).toNat
             rw [h7]; omega))
       | exact (s_cut _ 200).1
       | exact ⟨l, hr, hg⟩
       | (have e := hx l hr
          have h1 := chB_len hg
          have h2 := (s_cut s 200).2
          subst e
          first
          | exact scok_i (by omega) (Nat.le_trans h2 (by decide))
          | exact s_cut2 _ _ (by omega)))
    | skip
  refine ⟨fun st => ∃ (i : Nat) (j : Int) (T : List (List D)), j = i ∧ i ≤ 3 ∧ T.length = 3 ∧ (∀ q ∈ T, ∃ t, q = [.str t] ∧ t.length ≤ 1000000) ∧
      st = ⟨mkF 127 0 [(68, .d (.imm T)), (69, .d (.int .i64 (oLen T))), (70, .d (.int .i64 j))], 0, []⟩,
    fun st => (3 - ctr 70 st).toNat, ⟨[], [], [68, 69, 70], [], 0⟩, ?_, ?_, ?_⟩
  · cbv
  · cases ho
    refine ⟨0, 0, [[.str (real.ssub s 0 (real.minI (real.slen s) 200))], [.str (real.scat x (real.ssub s 0 (real.minI (real.slen s) 200)))], [.str (real.ssub x 0 (real.bin .sub .i64 (real.slen x) (real.minI (real.slen x) (real.slen (real.ssub s 0 (real.minI (real.slen s) 200))))))]], rfl, Nat.zero_le _, rfl, ?_, rfl⟩
    have e := hx l hr
    have h1 := chB_len hg
    have h2 := (s_cut s 200).2
    subst e
    intro q hq
    simp only [List.mem_cons, List.not_mem_nil, or_false] at hq
    rcases hq with rfl | rfl | rfl
    · exact ⟨_, rfl, Nat.le_trans h2 (by decide)⟩
    · refine ⟨_, rfl, ?_⟩
      show (chB l ++ _).length ≤ 1000000
      rw [List.length_append]
      exact Nat.le_trans (Nat.add_le_add h1 h2) (by decide)
    · exact ⟨_, rfl, Nat.le_trans (ss_len _ _ _) (by omega)⟩
  clear hx hg hl hr hA2 hA hj hi
  rintro st1 ⟨i2, j2, T, hj, hi, hT, hT2, rfl⟩
  cbv
  (repeat (any_goals (first
    | with_reducible refine And.intro ?_ ?_
    | exact True.intro
    | with_reducible exact rfl
    | (with_reducible refine Nd.mk ?_; try dsimp only)
    | (with_reducible refine Pz.mk ?_; cbv)
    | (with_reducible refine RgOK.mk ?_; kernel_rfl)
    | (with_reducible refine OrOK.mk ?_; kernel_rfl)
    | (with_reducible refine Al.mk (fun x hx => ?_); cbv)
    | (with_reducible refine hK' _ ?_; clear hK' K'; cbv)
    | (with_reducible refine brA.yes (by first | assumption | exact rfl | (simp only [show oCmp = real.cmp from congrArg Ar.cmp ho, show oBin = real.bin from congrArg Ar.bin ho, show oScmp = real.scmp from congrArg Ar.scmp ho, show oPickB = real.pickB from congrArg Ar.pickB ho, show oBnot = real.bnot from congrArg Ar.bnot ho]; decide)) ?_; cbv)
    | (with_reducible refine brA.no (by first | assumption | exact rfl | (simp only [show oCmp = real.cmp from congrArg Ar.cmp ho, show oBin = real.bin from congrArg Ar.bin ho, show oScmp = real.scmp from congrArg Ar.scmp ho, show oPickB = real.pickB from congrArg Ar.pickB ho, show oBnot = real.bnot from congrArg Ar.bnot ho]; decide)) ?_; cbv)
    | (with_reducible refine bcase (fun hb => ?_) (fun hb => ?_) <;> cbv)
    | (intro K' hK'; cbv))))
  all_goals ((try clear hK' K'); cases ho; (try simp only [nc1] at *); (try simp only [Int.ofNat_eq_natCast] at *))
  all_goals first
    | decide
    | (have h5 := lt_R hj ‹real.cmp .lss j2 (real.len T) = true›
       have h6 := T_at hT2 hj h5
       first
       | with_reducible exact in_R hj h5
       | with_reducible exact T_wf hT2
       | with_reducible exact T_ok hT2 hj h5
       | exact h6
       | exact cd_same (by assumption) (by assumption)
       | exact (cd_no1 (by assumption) (by assumption)).elim
       | exact (cd_no2 (by assumption) (by assumption)).elim
       | exact (cd_left h6 (by assumption) (by assumption) (by assumption) (by assumption)).elim
       | (have h7 := add_1 hj (by omega)
          refine ⟨⟨[], [], [68, 69, 70], [], 0⟩, rfl, ⟨i2 + 1, real.bin .add .i64 j2 1, T, h7, by omega, hT, hT2, rfl⟩, ?_⟩
          show (3 - real.bin .add .i64 j2 1).toNat < (3 - j2).toNat
          rw [h7]; omega))
    | exact fin_b rfl
    | trace_state
end Go.Proofs.Yteakfibolfapiaa.Ab
