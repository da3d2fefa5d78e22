/- Several texts in one: RrA, Co1. -/
import Derived.Test.YteakfibolfapiaaTrPk10
import Derived.Test.YteakfibolfapiaaTrPk14
import Derived.Test.YteakfibolfapiaaTrPk15
section
namespace Go.Proofs.Yteakfibolfapiaa.Ab
open Go Go.RowKit Go.Sort
set_option linter.unusedVariables false
set_option linter.unusedSimpArgs false
set_option maxRecDepth 100000
set_option maxHeartbeats 8000000
theorem call_recv {f i n : Nat} {h : Hp} {rest l : List AV} {K0 K : CallK} (hc : CallE Try.prog f (.ptr 0 0 :: rest) 1 [(0, .cells l)] K0) (hr : idsVs rest = []) (hl : idsVs l = []) (hi : i < n) (hg : hget h i = some (.cells l))
    (hK : ∀ v n1 h1, K0 v n1 h1 → 1 ≤ n1 → K (renV (lift (fun _ => i) 1 n) v) (n + (n1 - 1)) (outs (fun _ => i) 1 h ++ renH (lift (fun _ => i) 1 n) h1)) : CallE Try.prog f (.ptr i 0 :: rest) n h K := by
  refine call_frame (g := fun _ => i) hc ?_ rfl (fun a b ha hb _ => by omega) (fun _ _ => hi) ?_ ?_ (fun v n1 h1 hn h2 => hK v n1 h1 h2 hn)
  · simp only [renVs, renV]
    rw [renVs_none rest hr]
  · intro j o hm
    simp only [List.mem_singleton, Prod.mk.injEq] at hm
    obtain ⟨rfl, rfl⟩ := hm
    refine ⟨?_, fun j hj => ?_⟩
    · have := hget_mem hg
      simp only [renO]
      rw [renVs_none l hl]
      exact this
    · rw [show idsO (.cells l) = idsVs l from rfl, hl] at hj
      cases hj
  · intro j hj
    rw [show idsVs (.ptr 0 0 :: rest) = [0] ++ idsVs rest from rfl, hr] at hj
    simp at hj
    omega
/-! numbers and bytes -/
def S_Fits (a k : Int) (K : CallK) (n : Nat) (h : Hp) : Prop := Nd (fun _ => 1 ≤ k ∧ k ≤ 8 ∧ 0 ≤ a ∧ a < 256 ^ k.toNat) ∧ K (.d (.bool true)) n h
theorem L_Fits {a k : Int} {n : Nat} {h : Hp} {K : CallK} (hK : S_Fits a k K n h) : CallE Try.prog 74 [.d (.int .u64 a), .d (.int .i64 k)] n h K :=
  call_old (v := .bool true) Try.func74 (by kernel_rfl) (by kernel_rfl) (vals := [.int .u64 a, .int .i64 k]) (by intro ρ w M vs h; simpa [RelVs, RelV, RelD] using h) (by intro ρ w M; simp [RelV, RelD]) (fun w hJ => by
    obtain ⟨⟨h1, h2, h3, h4⟩, -⟩ := hK
    obtain ⟨a, rfl⟩ := Int.eq_ofNat_of_zero_le h3
    obtain ⟨k, rfl⟩ := Int.eq_ofNat_of_zero_le (a := k) (by omega)
    exact C_BeFits_yes a k (by rw [Int.toNat_natCast] at h4; exact_mod_cast h4) (by omega) (by omega) w) hK.2
def S_BGet (s : List UInt8) (K : CallK) (n : Nat) (h : Hp) : Prop := Nd (fun _ => s.length ≤ 8) ∧ Al (fun x : Int => x = NUM s) fun x => K (.d (.int .u64 x)) n h
theorem L_BGet {s : List UInt8} {n : Nat} {h : Hp} {K : CallK} (hK : S_BGet s K n h) : CallE Try.prog 76 [.d (.str s)] n h K :=
  call_old (v := .int .u64 (NUM s)) Try.func76 (by kernel_rfl) (by kernel_rfl) (vals := [.string ⟨s.toArray⟩]) (by intro ρ w M vs h; simpa [RelVs, RelV, RelD] using h) (by intro ρ w M; simp [RelV, RelD]) (fun w hJ => C_BeGet s hK.1.h w) (hK.2.h _ rfl)
/-! the reader's place -/
def patR (h : Hp) (i : Nat) (p : List UInt8 → Bool → Prop) : Prop := match hget h i with
  | some (.cells [.d (.str s), .d (.bool b)]) => p s b
  | _ => False
theorem patR_elim {h : Hp} {i : Nat} {p : List UInt8 → Bool → Prop} (hp : patR h i p) : ∃ s b, hget h i = some (.cells [.d (.str s), .d (.bool b)]) ∧ p s b := by
  unfold patR at hp
  split at hp
  · rename_i s b h1
    exact ⟨s, b, h1, hp⟩
  · exact hp.elim
def rdo (s : List UInt8) (b : Bool) : Ob := .cells [.d (.str s), .d (.bool b)]
def outR (i : Nat) (h : Hp) (s : List UInt8) (b : Bool) : Hp := outs (fun _ => i) 1 h ++ [(i, .cells [.d (.str s), .d (.bool b)])]
theorem K_fail0 (s : List UInt8) (b : Bool) : CallE Try.prog 88 [.ptr 0 0] 1 [(0, .cells [.d (.str s), .d (.bool b)])] (fun v n h => Nd (fun _ => v = .tup [] ∧ n = 1 ∧ h = [(0, .cells [.d (.str []), .d (.bool true)])])) := by
  refine call_fn tysOK orders (C := C0) C0_ok H0 Try.func88 (by kernel_rfl) (by kernel_rfl) ?_
  intro oBin oCmp oWrap oNeg oCom oBnot oBeq oPickB oPickI oPickS oInb oSub2 oMinI oMaxI oSlen oSidx oScat oSsub oScmp oScok oLen oCI oCB oCS oCL oOkR oApp oApok oSub oSetc oRep oMkok oNthI oNthB oNthS oIteI oIteB oIteS oB2s oS2b oAllB oWf oDeq oMlen oMhas oMI oMB oMS oMok oMput oMdel oSgo oSru oSnx ho; cbv
  (repeat (any_goals (first
    | with_reducible refine And.intro ?_ ?_
    | exact True.intro
    | with_reducible exact rfl
    | (with_reducible refine Nd.mk ?_; try dsimp only)
    | (with_reducible refine Nd0.mk ?_; try dsimp only)
    | (with_reducible refine Pz.mk ?_; cbv)
    | (with_reducible refine RgOK.mk ?_; kernel_rfl)
    | (with_reducible refine OrOK.mk ?_; kernel_rfl)
    | (with_reducible refine Al.mk (fun x hx => ?_); cbv)
    | (with_reducible refine hK' _ ?_; clear hK' K'; cbv)
    | (with_reducible refine brA.yes (by first | assumption | exact rfl | (simp only [show oCmp = real.cmp from congrArg Ar.cmp ho, show oBin = real.bin from congrArg Ar.bin ho, show oScmp = real.scmp from congrArg Ar.scmp ho, show oPickB = real.pickB from congrArg Ar.pickB ho, show oBnot = real.bnot from congrArg Ar.bnot ho]; decide)) ?_; cbv)
    | (with_reducible refine brA.no (by first | assumption | exact rfl | (simp only [show oCmp = real.cmp from congrArg Ar.cmp ho, show oBin = real.bin from congrArg Ar.bin ho, show oScmp = real.scmp from congrArg Ar.scmp ho, show oPickB = real.pickB from congrArg Ar.pickB ho, show oBnot = real.bnot from congrArg Ar.bnot ho]; decide)) ?_; cbv)
    | (with_reducible refine bcase (fun hb => ?_) (fun hb => ?_) <;> cbv)
    | (intro K' hK'; cbv))))
  all_goals ((try clear hK' K'); cases ho; (try simp only [nc1] at *); (try simp only [Int.ofNat_eq_natCast] at *))
  all_goals first
    | exact ⟨rfl, rfl, rfl⟩
    | trace_state
def S_fail (i : Nat) (K : CallK) (n : Nat) (h : Hp) : Prop := patR h i fun s b => Nd (fun _ => i < n) ∧ K (.tup []) n (outR i h [] true)
theorem L_fail {i n : Nat} {h : Hp} {K : CallK} (hK : S_fail i K n h) : CallE Try.prog 88 [.ptr i 0] n h K := by
  obtain ⟨s, b, hg, ⟨hi⟩, hk⟩ := patR_elim hK
  refine call_recv (K_fail0 s b) rfl rfl hi hg ?_
  rintro v n1 h1 ⟨rfl, rfl, rfl⟩ -
  exact hk
theorem K_failN0 : CallE Try.prog 88 [.d .nilp] 0 [] (fun v n h => Nd (fun _ => Fin 0 (Gets fun v => v = .tup []) v n h)) := by
  refine call_fn tysOK orders (C := C0) C0_ok H0 Try.func88 (by kernel_rfl) (by kernel_rfl) ?_
  intro oBin oCmp oWrap oNeg oCom oBnot oBeq oPickB oPickI oPickS oInb oSub2 oMinI oMaxI oSlen oSidx oScat oSsub oScmp oScok oLen oCI oCB oCS oCL oOkR oApp oApok oSub oSetc oRep oMkok oNthI oNthB oNthS oIteI oIteB oIteS oB2s oS2b oAllB oWf oDeq oMlen oMhas oMI oMB oMS oMok oMput oMdel oSgo oSru oSnx ho; cbv
  (repeat (any_goals (first
    | with_reducible refine And.intro ?_ ?_
    | exact True.intro
    | with_reducible exact rfl
    | (with_reducible refine Nd.mk ?_; try dsimp only)
    | (with_reducible refine Nd0.mk ?_; try dsimp only)
    | (with_reducible refine Pz.mk ?_; cbv)
    | (with_reducible refine RgOK.mk ?_; kernel_rfl)
    | (with_reducible refine OrOK.mk ?_; kernel_rfl)
    | (with_reducible refine Al.mk (fun x hx => ?_); cbv)
    | (with_reducible refine hK' _ ?_; clear hK' K'; cbv)
    | (with_reducible refine brA.yes (by first | assumption | exact rfl | (simp only [show oCmp = real.cmp from congrArg Ar.cmp ho, show oBin = real.bin from congrArg Ar.bin ho, show oScmp = real.scmp from congrArg Ar.scmp ho, show oPickB = real.pickB from congrArg Ar.pickB ho, show oBnot = real.bnot from congrArg Ar.bnot ho]; decide)) ?_; cbv)
    | (with_reducible refine brA.no (by first | assumption | exact rfl | (simp only [show oCmp = real.cmp from congrArg Ar.cmp ho, show oBin = real.bin from congrArg Ar.bin ho, show oScmp = real.scmp from congrArg Ar.scmp ho, show oPickB = real.pickB from congrArg Ar.pickB ho, show oBnot = real.bnot from congrArg Ar.bnot ho]; decide)) ?_; cbv)
    | (with_reducible refine bcase (fun hb => ?_) (fun hb => ?_) <;> cbv)
    | (intro K' hK'; cbv))))
  all_goals ((try clear hK' K'); cases ho; (try simp only [nc1] at *); (try simp only [Int.ofNat_eq_natCast] at *))
  all_goals first
    | exact ⟨⟨[], [], [0], [], 0⟩, _, 0, _, rfl, rfl, ⟨rfl⟩, rfl, rfl, rfl⟩
    | trace_state
def S_failN (K : CallK) (n : Nat) (h : Hp) : Prop := K (.tup []) n h
theorem L_failN {n : Nat} {h : Hp} {K : CallK} (hK : S_failN K n h) : CallE Try.prog 88 [.d .nilp] n h K := call_data (CallE.fin K_failN0) rfl (by rintro v rfl; exact hK)
/-! take -/
def tkS (s : List UInt8) (b : Bool) (k : Int) : List UInt8 × Bool × List UInt8 × Bool := if b = false ∧ 0 ≤ k ∧ k ≤ s.length then (s.take k.toNat, true, s.drop k.toNat, false) else ([], false, [], true)
def R1 : CallS := fun f args n h K => match f with
  | 88 => (match args with | [.ptr i 0] => S_fail i K n h | [.d .nilp] => S_failN K n h | _ => False)
  | _ => False
theorem R1_ok : ∀ f args n h K, R1 f args n h K → CallE Try.prog f args n h K := by
  intro f args n h K hc
  unfold R1 at hc
  split at hc
  · split at hc
    · exact L_fail hc
    · exact L_failN hc
    · exact hc.elim
  · exact hc.elim
theorem fin_tk {s s1 s2 : List UInt8} {b b1 b2 : Bool} {k : Int} (h : (s1, b1, s2, b2) = tkS s b k) : Fin 1 (fun v n h => v = .tup [.d (.str (tkS s b k).1), .d (.bool (tkS s b k).2.1)] ∧ n = 1 ∧ h = [(0, .cells [.d (.str (tkS s b k).2.2.1), .d (.bool (tkS s b k).2.2.2)])]) (.tup [.d (.str s1), .d (.bool b1)]) 1 [(0, .cells [.d (.str s2), .d (.bool b2)])] := by
  rw [← h]
  exact ⟨⟨[], [], [0], [0], 1⟩, _, 1, _, rfl, rfl, rfl, rfl, rfl⟩
theorem tk_no {s : List UInt8} {b : Bool} {k : Int} (h : b = true ∨ k < 0 ∨ k > s.length) : (([] : List UInt8), false, ([] : List UInt8), true) = tkS s b k := by
  unfold tkS
  rw [if_neg]
  rintro ⟨h1, h2, h3⟩
  rcases h with h | h | h
  · rw [h1] at h; cases h
  · omega
  · omega
theorem tk_yes {s : List UInt8} {b : Bool} {k : Int} (hb : b = false) (h0 : ¬ k < 0) (h1 : ¬ k > s.length) : (real.ssub s 0 k, true, real.ssub s k (real.slen s), false) = tkS s b k := by
  unfold tkS
  rw [if_pos ⟨hb, by omega, by omega⟩]
  simp [real]
theorem pk_t {x y : Bool} : real.pickB x true y = (x || y) := by cases x <;> rfl
theorem K_take0 (s : List UInt8) (b : Bool) (k : Int) : CallE Try.prog 75 [.ptr 0 0, .d (.int .i64 k)] 1 [(0, .cells [.d (.str s), .d (.bool b)])]
    (fun v n h => Nd (fun _ => Fin 1 (fun v n h => v = .tup [.d (.str (tkS s b k).1), .d (.bool (tkS s b k).2.1)] ∧ n = 1 ∧ h = [(0, .cells [.d (.str (tkS s b k).2.2.1), .d (.bool (tkS s b k).2.2.2)])]) v n h)) := by
  refine call_fn tysOK orders (C := R1) R1_ok H0 Try.func75 (by kernel_rfl) (by kernel_rfl) ?_
  intro oBin oCmp oWrap oNeg oCom oBnot oBeq oPickB oPickI oPickS oInb oSub2 oMinI oMaxI oSlen oSidx oScat oSsub oScmp oScok oLen oCI oCB oCS oCL oOkR oApp oApok oSub oSetc oRep oMkok oNthI oNthB oNthS oIteI oIteB oIteS oB2s oS2b oAllB oWf oDeq oMlen oMhas oMI oMB oMS oMok oMput oMdel oSgo oSru oSnx ho; cbv
  (repeat (any_goals (first
    | with_reducible refine And.intro ?_ ?_
    | exact True.intro
    | with_reducible exact rfl
    | (with_reducible refine Nd.mk ?_; try dsimp only)
    | (with_reducible refine Nd0.mk ?_; try dsimp only)
    | (with_reducible refine Pz.mk ?_; cbv)
    | (with_reducible refine RgOK.mk ?_; kernel_rfl)
    | (with_reducible refine OrOK.mk ?_; kernel_rfl)
    | (with_reducible refine Al.mk (fun x hx => ?_); cbv)
    | (with_reducible refine hK' _ ?_; clear hK' K'; cbv)
    | (with_reducible refine brA.yes (by first | assumption | exact rfl | (simp only [show oCmp = real.cmp from congrArg Ar.cmp ho, show oBin = real.bin from congrArg Ar.bin ho, show oScmp = real.scmp from congrArg Ar.scmp ho, show oPickB = real.pickB from congrArg Ar.pickB ho, show oBnot = real.bnot from congrArg Ar.bnot ho]; decide)) ?_; cbv)
    | (with_reducible refine brA.no (by first | assumption | exact rfl | (simp only [show oCmp = real.cmp from congrArg Ar.cmp ho, show oBin = real.bin from congrArg Ar.bin ho, show oScmp = real.scmp from congrArg Ar.scmp ho, show oPickB = real.pickB from congrArg Ar.pickB ho, show oBnot = real.bnot from congrArg Ar.bnot ho]; decide)) ?_; cbv)
    | (with_reducible refine bcase (fun hb => ?_) (fun hb => ?_) <;> cbv)
    | (intro K' hK'; cbv))))
  all_goals ((try clear hK' K'); cases ho; (try simp only [nc1] at *); (try simp only [Int.ofNat_eq_natCast] at *))
  all_goals (try simp only [pk_t, Bool.or_eq_true, Bool.or_eq_false_iff, lssI, gtrI, decide_eq_true_eq, decide_eq_false_iff_not, Bool.false_or, Bool.true_or, show real.slen s = (s.length : Int) from rfl] at *)
  all_goals first
    | exact Nat.one_pos
    | exact fin_tk (tk_no (by simp [*]))
    | (simp only [real, decide_eq_true_eq]; omega)
    | (cases ‹b = false›; exact fin_tk (tk_yes rfl (by assumption) (by assumption)))
    | trace_state
def S_take (i : Nat) (k : Int) (K : CallK) (n : Nat) (h : Hp) : Prop := patR h i fun s b => Nd (fun _ => i < n) ∧ Al (fun q : List UInt8 × Bool × List UInt8 × Bool => q = tkS s b k) fun q => K (.tup [.d (.str q.1), .d (.bool q.2.1)]) n (outR i h q.2.2.1 q.2.2.2)
theorem L_take {i n : Nat} {k : Int} {h : Hp} {K : CallK} (hK : S_take i k K n h) : CallE Try.prog 75 [.ptr i 0, .d (.int .i64 k)] n h K := by
  obtain ⟨s, b, hg, ⟨hi⟩, hk⟩ := patR_elim hK
  refine call_recv (CallE.fin (K_take0 s b k)) rfl rfl hi hg ?_
  rintro v n1 h1 ⟨rfl, rfl, rfl⟩ -
  exact hk.h _ rfl
theorem K_takeN0 (k : Int) : CallE Try.prog 75 [.d .nilp, .d (.int .i64 k)] 0 [] (fun v n h => Nd (fun _ => Fin 0 (Gets fun v => v = .tup [.d (.str []), .d (.bool false)]) v n h)) := by
  refine call_fn tysOK orders (C := R1) R1_ok H0 Try.func75 (by kernel_rfl) (by kernel_rfl) ?_
  intro oBin oCmp oWrap oNeg oCom oBnot oBeq oPickB oPickI oPickS oInb oSub2 oMinI oMaxI oSlen oSidx oScat oSsub oScmp oScok oLen oCI oCB oCS oCL oOkR oApp oApok oSub oSetc oRep oMkok oNthI oNthB oNthS oIteI oIteB oIteS oB2s oS2b oAllB oWf oDeq oMlen oMhas oMI oMB oMS oMok oMput oMdel oSgo oSru oSnx ho; cbv
  (repeat (any_goals (first
    | with_reducible refine And.intro ?_ ?_
    | exact True.intro
    | with_reducible exact rfl
    | (with_reducible refine Nd.mk ?_; try dsimp only)
    | (with_reducible refine Nd0.mk ?_; try dsimp only)
    | (with_reducible refine Pz.mk ?_; cbv)
    | (with_reducible refine RgOK.mk ?_; kernel_rfl)
    | (with_reducible refine OrOK.mk ?_; kernel_rfl)
    | (with_reducible refine Al.mk (fun x hx => ?_); cbv)
    | (with_reducible refine hK' _ ?_; clear hK' K'; cbv)
    | (with_reducible refine brA.yes (by first | assumption | exact rfl | (simp only [show oCmp = real.cmp from congrArg Ar.cmp ho, show oBin = real.bin from congrArg Ar.bin ho, show oScmp = real.scmp from congrArg Ar.scmp ho, show oPickB = real.pickB from congrArg Ar.pickB ho, show oBnot = real.bnot from congrArg Ar.bnot ho]; decide)) ?_; cbv)
    | (with_reducible refine brA.no (by first | assumption | exact rfl | (simp only [show oCmp = real.cmp from congrArg Ar.cmp ho, show oBin = real.bin from congrArg Ar.bin ho, show oScmp = real.scmp from congrArg Ar.scmp ho, show oPickB = real.pickB from congrArg Ar.pickB ho, show oBnot = real.bnot from congrArg Ar.bnot ho]; decide)) ?_; cbv)
    | (with_reducible refine bcase (fun hb => ?_) (fun hb => ?_) <;> cbv)
    | (intro K' hK'; cbv))))
  all_goals ((try clear hK' K'); cases ho; (try simp only [nc1] at *); (try simp only [Int.ofNat_eq_natCast] at *))
  all_goals first
    | exact ⟨⟨[], [], [0], [], 0⟩, _, 0, _, rfl, rfl, ⟨rfl⟩, rfl, rfl, rfl⟩
    | trace_state
def S_takeN (K : CallK) (n : Nat) (h : Hp) : Prop := K (.tup [.d (.str []), .d (.bool false)]) n h
theorem L_takeN {k : Int} {n : Nat} {h : Hp} {K : CallK} (hK : S_takeN K n h) : CallE Try.prog 75 [.d .nilp, .d (.int .i64 k)] n h K := call_data (CallE.fin (K_takeN0 k)) rfl (by rintro v rfl; exact hK)
/-! Number, Text -/
def R2 : CallS := fun f args n h K => match f with
  | 74 => (match args with | [.d (.int .u64 a), .d (.int .i64 k)] => S_Fits a k K n h | _ => False)
  | 76 => (match args with | [.d (.str s)] => S_BGet s K n h | _ => False)
  | 75 => (match args with | [.ptr i 0, .d (.int .i64 k)] => S_take i k K n h | [.d .nilp, .d (.int .i64 _)] => S_takeN K n h | _ => False)
  | _ => False
theorem R2_ok : ∀ f args n h K, R2 f args n h K → CallE Try.prog f args n h K := by
  intro f args n h K hc
  unfold R2 at hc
  split at hc
  · split at hc
    · exact L_Fits hc
    · exact hc.elim
  · split at hc
    · exact L_BGet hc
    · exact hc.elim
  · split at hc
    · exact L_take hc
    · exact L_takeN hc
    · exact hc.elim
  · exact hc.elim
theorem tk_len {s : List UInt8} {b : Bool} {k : Int} : ((tkS s b k).1.length : Int) ≤ max 0 k := by
  unfold tkS
  split
  · simp; omega
  · simp; omega
theorem tk_len8 {s : List UInt8} {b : Bool} {k : Int} {q : List UInt8 × Bool × List UInt8 × Bool} (h : q = tkS s b k) (h8 : k ≤ 8) : q.1.length ≤ 8 := by
  subst h
  have := tk_len (s := s) (b := b) (k := k)
  omega
/-- A number read, and what is left. -/
def nmS (s : List UInt8) (b : Bool) (k : Int) : Int × List UInt8 × Bool := let q := tkS s b k; ((NUM q.1 : Int), q.2.2.1, q.2.2.2)
theorem fits0 {k : Int} (h1 : 1 ≤ k) (h2 : k ≤ 8) : 1 ≤ k ∧ k ≤ 8 ∧ (0 : Int) ≤ 0 ∧ (0 : Int) < 256 ^ k.toNat := ⟨h1, h2, Int.le_refl _, Int.pow_pos (by decide)⟩
theorem fin_nm {s : List UInt8} {b : Bool} {k x : Int} {q : List UInt8 × Bool × List UInt8 × Bool} (h : q = tkS s b k) (hx : x = NUM q.1) : Fin 1 (fun v n h => v = .d (.int .u64 (nmS s b k).1) ∧ n = 1 ∧ h = [(0, .cells [.d (.str (nmS s b k).2.1), .d (.bool (nmS s b k).2.2)])]) (.d (.int .u64 x)) 1 [(0, .cells [.d (.str q.2.2.1), .d (.bool q.2.2.2)])] := by
  subst h hx
  exact ⟨⟨[], [], [0], [0], 1⟩, _, 1, _, rfl, rfl, rfl, rfl, rfl⟩
theorem K_Number0 (s : List UInt8) (b : Bool) (k : Int) (h1 : 1 ≤ k) (h2 : k ≤ 8) : CallE Try.prog 52 [.ptr 0 0, .d (.int .i64 k)] 1 [(0, .cells [.d (.str s), .d (.bool b)])]
    (fun v n h => Nd (fun _ => Fin 1 (fun v n h => v = .d (.int .u64 (nmS s b k).1) ∧ n = 1 ∧ h = [(0, .cells [.d (.str (nmS s b k).2.1), .d (.bool (nmS s b k).2.2)])]) v n h)) := by
  refine call_fn tysOK orders (C := R2) R2_ok H0 Try.func52 (by kernel_rfl) (by kernel_rfl) ?_
  intro oBin oCmp oWrap oNeg oCom oBnot oBeq oPickB oPickI oPickS oInb oSub2 oMinI oMaxI oSlen oSidx oScat oSsub oScmp oScok oLen oCI oCB oCS oCL oOkR oApp oApok oSub oSetc oRep oMkok oNthI oNthB oNthS oIteI oIteB oIteS oB2s oS2b oAllB oWf oDeq oMlen oMhas oMI oMB oMS oMok oMput oMdel oSgo oSru oSnx ho; cbv
  (repeat (any_goals (first
    | with_reducible refine And.intro ?_ ?_
    | exact True.intro
    | with_reducible exact rfl
    | (with_reducible refine Nd.mk ?_; try dsimp only)
    | (with_reducible refine Nd0.mk ?_; try dsimp only)
    | (with_reducible refine Pz.mk ?_; cbv)
    | (with_reducible refine RgOK.mk ?_; kernel_rfl)
    | (with_reducible refine OrOK.mk ?_; kernel_rfl)
    | (with_reducible refine Al.mk (fun x hx => ?_); cbv)
    | (with_reducible refine hK' _ ?_; clear hK' K'; cbv)
    | (with_reducible refine brA.yes (by first | assumption | exact rfl | (simp only [show oCmp = real.cmp from congrArg Ar.cmp ho, show oBin = real.bin from congrArg Ar.bin ho, show oScmp = real.scmp from congrArg Ar.scmp ho, show oPickB = real.pickB from congrArg Ar.pickB ho, show oBnot = real.bnot from congrArg Ar.bnot ho]; decide)) ?_; cbv)
    | (with_reducible refine brA.no (by first | assumption | exact rfl | (simp only [show oCmp = real.cmp from congrArg Ar.cmp ho, show oBin = real.bin from congrArg Ar.bin ho, show oScmp = real.scmp from congrArg Ar.scmp ho, show oPickB = real.pickB from congrArg Ar.pickB ho, show oBnot = real.bnot from congrArg Ar.bnot ho]; decide)) ?_; cbv)
    | (with_reducible refine bcase (fun hb => ?_) (fun hb => ?_) <;> cbv)
    | (intro K' hK'; cbv))))
  all_goals ((try clear hK' K'); cases ho; (try simp only [nc1] at *); (try simp only [Int.ofNat_eq_natCast] at *))
  all_goals first
    | exact Nat.one_pos
    | exact h1
    | exact h2
    | exact Int.le_refl _
    | exact Int.pow_pos (by decide)
    | exact tk_len8 (by assumption) h2
    | exact fin_nm (by assumption) (by assumption)
    | exact absurd ‹real.bnot true = true› (by decide)
    | trace_state
def S_RNum (i : Nat) (k : Int) (K : CallK) (n : Nat) (h : Hp) : Prop := patR h i fun s b => Nd (fun _ => i < n ∧ 1 ≤ k ∧ k ≤ 8) ∧ Al (fun q : Int × List UInt8 × Bool => q = nmS s b k) fun q => K (.d (.int .u64 q.1)) n (outR i h q.2.1 q.2.2)
theorem L_RNum {i n : Nat} {k : Int} {h : Hp} {K : CallK} (hK : S_RNum i k K n h) : CallE Try.prog 52 [.ptr i 0, .d (.int .i64 k)] n h K := by
  obtain ⟨s, b, hg, ⟨⟨hi, h1, h2⟩⟩, hk⟩ := patR_elim hK
  refine call_recv (CallE.fin (K_Number0 s b k h1 h2)) rfl rfl hi hg ?_
  rintro v n1 h1 ⟨rfl, rfl, rfl⟩ -
  exact hk.h _ rfl
theorem K_NumberN0 : CallE Try.prog 52 [.d .nilp, .d (.int .i64 1)] 0 [] (fun v n h => Nd (fun _ => Fin 0 (Gets fun v => v = .d (.int .u64 0)) v n h)) := by
  refine call_fn tysOK orders (C := R2) R2_ok H0 Try.func52 (by kernel_rfl) (by kernel_rfl) ?_
  intro oBin oCmp oWrap oNeg oCom oBnot oBeq oPickB oPickI oPickS oInb oSub2 oMinI oMaxI oSlen oSidx oScat oSsub oScmp oScok oLen oCI oCB oCS oCL oOkR oApp oApok oSub oSetc oRep oMkok oNthI oNthB oNthS oIteI oIteB oIteS oB2s oS2b oAllB oWf oDeq oMlen oMhas oMI oMB oMS oMok oMput oMdel oSgo oSru oSnx ho; cbv
  (repeat (any_goals (first
    | with_reducible refine And.intro ?_ ?_
    | exact True.intro
    | with_reducible exact rfl
    | (with_reducible refine Nd.mk ?_; try dsimp only)
    | (with_reducible refine Nd0.mk ?_; try dsimp only)
    | (with_reducible refine Pz.mk ?_; cbv)
    | (with_reducible refine RgOK.mk ?_; kernel_rfl)
    | (with_reducible refine OrOK.mk ?_; kernel_rfl)
    | (with_reducible refine Al.mk (fun x hx => ?_); cbv)
    | (with_reducible refine hK' _ ?_; clear hK' K'; cbv)
    | (with_reducible refine brA.yes (by first | assumption | exact rfl | (simp only [show oCmp = real.cmp from congrArg Ar.cmp ho, show oBin = real.bin from congrArg Ar.bin ho, show oScmp = real.scmp from congrArg Ar.scmp ho, show oPickB = real.pickB from congrArg Ar.pickB ho, show oBnot = real.bnot from congrArg Ar.bnot ho]; decide)) ?_; cbv)
    | (with_reducible refine brA.no (by first | assumption | exact rfl | (simp only [show oCmp = real.cmp from congrArg Ar.cmp ho, show oBin = real.bin from congrArg Ar.bin ho, show oScmp = real.scmp from congrArg Ar.scmp ho, show oPickB = real.pickB from congrArg Ar.pickB ho, show oBnot = real.bnot from congrArg Ar.bnot ho]; decide)) ?_; cbv)
    | (with_reducible refine bcase (fun hb => ?_) (fun hb => ?_) <;> cbv)
    | (intro K' hK'; cbv))))
  all_goals ((try clear hK' K'); cases ho; (try simp only [nc1] at *); (try simp only [Int.ofNat_eq_natCast] at *))
  all_goals first
    | exact Nat.one_pos
    | decide
    | exact Int.pow_pos (by decide)
    | exact Nat.zero_le 8
    | (subst_vars; exact ⟨⟨[], [], [0], [], 0⟩, _, 0, _, rfl, rfl, ⟨rfl⟩, rfl, rfl, rfl⟩)
    | exact absurd ‹real.bnot true = true› (by decide)
    | trace_state
def S_RNumN (K : CallK) (n : Nat) (h : Hp) : Prop := K (.d (.int .u64 0)) n h
theorem L_RNumN {n : Nat} {h : Hp} {K : CallK} (hK : S_RNumN K n h) : CallE Try.prog 52 [.d .nilp, .d (.int .i64 1)] n h K := call_data (CallE.fin K_NumberN0) rfl (by rintro v rfl; exact hK)
def R3 : CallS := fun f args n h K => match f with
  | 52 => (match args with | [.ptr i 0, .d (.int .i64 k)] => S_RNum i k K n h | _ => False)
  | 75 => (match args with | [.ptr i 0, .d (.int .i64 k)] => S_take i k K n h | _ => False)
  | _ => False
theorem R3_ok : ∀ f args n h K, R3 f args n h K → CallE Try.prog f args n h K := by
  intro f args n h K hc
  unfold R3 at hc
  split at hc
  · split at hc
    · exact L_RNum hc
    · exact hc.elim
  · split at hc
    · exact L_take hc
    · exact hc.elim
  · exact hc.elim
theorem nm_bd {s : List UInt8} {b : Bool} {k : Int} {q : Int × List UInt8 × Bool} (h : q = nmS s b k) (h1 : 0 ≤ k) : 0 ≤ q.1 ∧ q.1 < 256 ^ k.toNat := by
  subst h
  refine ⟨Int.natCast_nonneg _, ?_⟩
  have h2 := tk_len (s := s) (b := b) (k := k)
  have h3 := NUM_lt (tkS s b k).1 k.toNat (by omega)
  show ((NUM (tkS s b k).1 : Nat) : Int) < _
  exact_mod_cast h3
theorem nm_w {s : List UInt8} {b : Bool} {q : Int × List UInt8 × Bool} (h : q = nmS s b 1) : real.wrap .i64 q.1 = q.1 := by
  have h3 := nm_bd h (by decide)
  have h4 : q.1 < 256 := h3.2
  exact wrap_i64 _ (by omega) (by omega)
def txS (s : List UInt8) (b : Bool) : List UInt8 × List UInt8 × Bool := let q := nmS s b 1; let r := tkS q.2.1 q.2.2 q.1; (r.1, r.2.2.1, r.2.2.2)
theorem fin_tx {s : List UInt8} {b : Bool} {q : Int × List UInt8 × Bool} {r : List UInt8 × Bool × List UInt8 × Bool} {x : Int} (h : q = nmS s b 1) (hr : r = tkS q.2.1 q.2.2 x) (hx : x = q.1) : Fin 1 (fun v n h => v = .d (.str (txS s b).1) ∧ n = 1 ∧ h = [(0, .cells [.d (.str (txS s b).2.1), .d (.bool (txS s b).2.2)])]) (.d (.str r.1)) 1 [(0, .cells [.d (.str r.2.2.1), .d (.bool r.2.2.2)])] := by
  subst hx hr h
  exact ⟨⟨[], [], [0], [0], 1⟩, _, 1, _, rfl, rfl, rfl, rfl, rfl⟩
theorem K_Text0 (s : List UInt8) (b : Bool) : CallE Try.prog 53 [.ptr 0 0] 1 [(0, .cells [.d (.str s), .d (.bool b)])]
    (fun v n h => Nd (fun _ => Fin 1 (fun v n h => v = .d (.str (txS s b).1) ∧ n = 1 ∧ h = [(0, .cells [.d (.str (txS s b).2.1), .d (.bool (txS s b).2.2)])]) v n h)) := by
  refine call_fn tysOK orders (C := R3) R3_ok H0 Try.func53 (by kernel_rfl) (by kernel_rfl) ?_
  intro oBin oCmp oWrap oNeg oCom oBnot oBeq oPickB oPickI oPickS oInb oSub2 oMinI oMaxI oSlen oSidx oScat oSsub oScmp oScok oLen oCI oCB oCS oCL oOkR oApp oApok oSub oSetc oRep oMkok oNthI oNthB oNthS oIteI oIteB oIteS oB2s oS2b oAllB oWf oDeq oMlen oMhas oMI oMB oMS oMok oMput oMdel oSgo oSru oSnx ho; cbv
  (repeat (any_goals (first
    | with_reducible refine And.intro ?_ ?_
    | exact True.intro
    | with_reducible exact rfl
    | (with_reducible refine Nd.mk ?_; try dsimp only)
    | (with_reducible refine Nd0.mk ?_; try dsimp only)
    | (with_reducible refine Pz.mk ?_; cbv)
    | (with_reducible refine RgOK.mk ?_; kernel_rfl)
    | (with_reducible refine OrOK.mk ?_; kernel_rfl)
    | (with_reducible refine Al.mk (fun x hx => ?_); cbv)
    | (with_reducible refine hK' _ ?_; clear hK' K'; cbv)
    | (with_reducible refine brA.yes (by first | assumption | exact rfl | (simp only [show oCmp = real.cmp from congrArg Ar.cmp ho, show oBin = real.bin from congrArg Ar.bin ho, show oScmp = real.scmp from congrArg Ar.scmp ho, show oPickB = real.pickB from congrArg Ar.pickB ho, show oBnot = real.bnot from congrArg Ar.bnot ho]; decide)) ?_; cbv)
    | (with_reducible refine brA.no (by first | assumption | exact rfl | (simp only [show oCmp = real.cmp from congrArg Ar.cmp ho, show oBin = real.bin from congrArg Ar.bin ho, show oScmp = real.scmp from congrArg Ar.scmp ho, show oPickB = real.pickB from congrArg Ar.pickB ho, show oBnot = real.bnot from congrArg Ar.bnot ho]; decide)) ?_; cbv)
    | (with_reducible refine bcase (fun hb => ?_) (fun hb => ?_) <;> cbv)
    | (intro K' hK'; cbv))))
  all_goals ((try clear hK' K'); cases ho; (try simp only [nc1] at *); (try simp only [Int.ofNat_eq_natCast] at *))
  all_goals first
    | exact Nat.one_pos
    | decide
    | (refine fin_tx (by assumption) (by assumption) ?_
       exact nm_w ‹_ = nmS s b 1›)
    | trace_state
def S_RText (i : Nat) (K : CallK) (n : Nat) (h : Hp) : Prop := patR h i fun s b => Nd (fun _ => i < n) ∧ Al (fun q : List UInt8 × List UInt8 × Bool => q = txS s b) fun q => K (.d (.str q.1)) n (outR i h q.2.1 q.2.2)
theorem L_RText {i n : Nat} {h : Hp} {K : CallK} (hK : S_RText i K n h) : CallE Try.prog 53 [.ptr i 0] n h K := by
  obtain ⟨s, b, hg, ⟨hi⟩, hk⟩ := patR_elim hK
  refine call_recv (CallE.fin (K_Text0 s b)) rfl rfl hi hg ?_
  rintro v n1 h1 ⟨rfl, rfl, rfl⟩ -
  exact hk.h _ rfl
/-! Left, Wrong, Read -/
theorem K_Left0 (s : List UInt8) (b : Bool) : CallE Try.prog 25 [.ptr 0 0] 1 [(0, .cells [.d (.str s), .d (.bool b)])]
    (fun v n h => Nd (fun _ => Fin 1 (fun v n h => v = .d (.int .i64 s.length) ∧ n = 1 ∧ h = [(0, .cells [.d (.str s), .d (.bool b)])]) v n h)) := by
  refine call_fn tysOK orders (C := C0) C0_ok H0 Try.func25 (by kernel_rfl) (by kernel_rfl) ?_
  intro oBin oCmp oWrap oNeg oCom oBnot oBeq oPickB oPickI oPickS oInb oSub2 oMinI oMaxI oSlen oSidx oScat oSsub oScmp oScok oLen oCI oCB oCS oCL oOkR oApp oApok oSub oSetc oRep oMkok oNthI oNthB oNthS oIteI oIteB oIteS oB2s oS2b oAllB oWf oDeq oMlen oMhas oMI oMB oMS oMok oMput oMdel oSgo oSru oSnx ho; cbv
  (repeat (any_goals (first
    | with_reducible refine And.intro ?_ ?_
    | exact True.intro
    | with_reducible exact rfl
    | (with_reducible refine Nd.mk ?_; try dsimp only)
    | (with_reducible refine Nd0.mk ?_; try dsimp only)
    | (with_reducible refine Pz.mk ?_; cbv)
    | (with_reducible refine RgOK.mk ?_; kernel_rfl)
    | (with_reducible refine OrOK.mk ?_; kernel_rfl)
    | (with_reducible refine Al.mk (fun x hx => ?_); cbv)
    | (with_reducible refine hK' _ ?_; clear hK' K'; cbv)
    | (with_reducible refine brA.yes (by first | assumption | exact rfl | (simp only [show oCmp = real.cmp from congrArg Ar.cmp ho, show oBin = real.bin from congrArg Ar.bin ho, show oScmp = real.scmp from congrArg Ar.scmp ho, show oPickB = real.pickB from congrArg Ar.pickB ho, show oBnot = real.bnot from congrArg Ar.bnot ho]; decide)) ?_; cbv)
    | (with_reducible refine brA.no (by first | assumption | exact rfl | (simp only [show oCmp = real.cmp from congrArg Ar.cmp ho, show oBin = real.bin from congrArg Ar.bin ho, show oScmp = real.scmp from congrArg Ar.scmp ho, show oPickB = real.pickB from congrArg Ar.pickB ho, show oBnot = real.bnot from congrArg Ar.bnot ho]; decide)) ?_; cbv)
    | (with_reducible refine bcase (fun hb => ?_) (fun hb => ?_) <;> cbv)
    | (intro K' hK'; cbv))))
  all_goals ((try clear hK' K'); cases ho; (try simp only [nc1] at *); (try simp only [Int.ofNat_eq_natCast] at *))
  all_goals first
    | exact ⟨⟨[], [], [0], [0], 1⟩, _, 1, _, rfl, rfl, rfl, rfl, rfl⟩
    | trace_state
def S_RLeft (i : Nat) (K : CallK) (n : Nat) (h : Hp) : Prop := patR h i fun s b => Nd (fun _ => i < n) ∧ Al (fun x : Int => x = s.length) fun x => K (.d (.int .i64 x)) n (outR i h s b)
theorem L_RLeft {i n : Nat} {h : Hp} {K : CallK} (hK : S_RLeft i K n h) : CallE Try.prog 25 [.ptr i 0] n h K := by
  obtain ⟨s, b, hg, ⟨hi⟩, hk⟩ := patR_elim hK
  refine call_recv (CallE.fin (K_Left0 s b)) rfl rfl hi hg ?_
  rintro v n1 h1 ⟨rfl, rfl, rfl⟩ -
  exact hk.h _ rfl
theorem K_Wrong0 (s : List UInt8) (b : Bool) : CallE Try.prog 54 [.ptr 0 0] 1 [(0, .cells [.d (.str s), .d (.bool b)])]
    (fun v n h => Nd (fun _ => Fin 1 (fun v n h => v = .d (.bool b) ∧ n = 1 ∧ h = [(0, .cells [.d (.str s), .d (.bool b)])]) v n h)) := by
  refine call_fn tysOK orders (C := C0) C0_ok H0 Try.func54 (by kernel_rfl) (by kernel_rfl) ?_
  intro oBin oCmp oWrap oNeg oCom oBnot oBeq oPickB oPickI oPickS oInb oSub2 oMinI oMaxI oSlen oSidx oScat oSsub oScmp oScok oLen oCI oCB oCS oCL oOkR oApp oApok oSub oSetc oRep oMkok oNthI oNthB oNthS oIteI oIteB oIteS oB2s oS2b oAllB oWf oDeq oMlen oMhas oMI oMB oMS oMok oMput oMdel oSgo oSru oSnx ho; cbv
  (repeat (any_goals (first
    | with_reducible refine And.intro ?_ ?_
    | exact True.intro
    | with_reducible exact rfl
    | (with_reducible refine Nd.mk ?_; try dsimp only)
    | (with_reducible refine Nd0.mk ?_; try dsimp only)
    | (with_reducible refine Pz.mk ?_; cbv)
    | (with_reducible refine RgOK.mk ?_; kernel_rfl)
    | (with_reducible refine OrOK.mk ?_; kernel_rfl)
    | (with_reducible refine Al.mk (fun x hx => ?_); cbv)
    | (with_reducible refine hK' _ ?_; clear hK' K'; cbv)
    | (with_reducible refine brA.yes (by first | assumption | exact rfl | (simp only [show oCmp = real.cmp from congrArg Ar.cmp ho, show oBin = real.bin from congrArg Ar.bin ho, show oScmp = real.scmp from congrArg Ar.scmp ho, show oPickB = real.pickB from congrArg Ar.pickB ho, show oBnot = real.bnot from congrArg Ar.bnot ho]; decide)) ?_; cbv)
    | (with_reducible refine brA.no (by first | assumption | exact rfl | (simp only [show oCmp = real.cmp from congrArg Ar.cmp ho, show oBin = real.bin from congrArg Ar.bin ho, show oScmp = real.scmp from congrArg Ar.scmp ho, show oPickB = real.pickB from congrArg Ar.pickB ho, show oBnot = real.bnot from congrArg Ar.bnot ho]; decide)) ?_; cbv)
    | (with_reducible refine bcase (fun hb => ?_) (fun hb => ?_) <;> cbv)
    | (intro K' hK'; cbv))))
  all_goals ((try clear hK' K'); cases ho; (try simp only [nc1] at *); (try simp only [Int.ofNat_eq_natCast] at *))
  all_goals first
    | exact ⟨⟨[], [], [0], [0], 1⟩, _, 1, _, rfl, rfl, rfl, rfl, rfl⟩
    | trace_state
def S_RWrong (i : Nat) (K : CallK) (n : Nat) (h : Hp) : Prop := patR h i fun s b => Nd (fun _ => i < n) ∧ K (.d (.bool b)) n (outR i h s b)
theorem L_RWrong {i n : Nat} {h : Hp} {K : CallK} (hK : S_RWrong i K n h) : CallE Try.prog 54 [.ptr i 0] n h K := by
  obtain ⟨s, b, hg, ⟨hi⟩, hk⟩ := patR_elim hK
  refine call_recv (CallE.fin (K_Wrong0 s b)) rfl rfl hi hg ?_
  rintro v n1 h1 ⟨rfl, rfl, rfl⟩ -
  exact hk
theorem K_WrongN0 : CallE Try.prog 54 [.d .nilp] 0 [] (fun v n h => Nd (fun _ => Fin 0 (Gets fun v => v = .d (.bool true)) v n h)) := by
  refine call_fn tysOK orders (C := C0) C0_ok H0 Try.func54 (by kernel_rfl) (by kernel_rfl) ?_
  intro oBin oCmp oWrap oNeg oCom oBnot oBeq oPickB oPickI oPickS oInb oSub2 oMinI oMaxI oSlen oSidx oScat oSsub oScmp oScok oLen oCI oCB oCS oCL oOkR oApp oApok oSub oSetc oRep oMkok oNthI oNthB oNthS oIteI oIteB oIteS oB2s oS2b oAllB oWf oDeq oMlen oMhas oMI oMB oMS oMok oMput oMdel oSgo oSru oSnx ho; cbv
  (repeat (any_goals (first
    | with_reducible refine And.intro ?_ ?_
    | exact True.intro
    | with_reducible exact rfl
    | (with_reducible refine Nd.mk ?_; try dsimp only)
    | (with_reducible refine Nd0.mk ?_; try dsimp only)
    | (with_reducible refine Pz.mk ?_; cbv)
    | (with_reducible refine RgOK.mk ?_; kernel_rfl)
    | (with_reducible refine OrOK.mk ?_; kernel_rfl)
    | (with_reducible refine Al.mk (fun x hx => ?_); cbv)
    | (with_reducible refine hK' _ ?_; clear hK' K'; cbv)
    | (with_reducible refine brA.yes (by first | assumption | exact rfl | (simp only [show oCmp = real.cmp from congrArg Ar.cmp ho, show oBin = real.bin from congrArg Ar.bin ho, show oScmp = real.scmp from congrArg Ar.scmp ho, show oPickB = real.pickB from congrArg Ar.pickB ho, show oBnot = real.bnot from congrArg Ar.bnot ho]; decide)) ?_; cbv)
    | (with_reducible refine brA.no (by first | assumption | exact rfl | (simp only [show oCmp = real.cmp from congrArg Ar.cmp ho, show oBin = real.bin from congrArg Ar.bin ho, show oScmp = real.scmp from congrArg Ar.scmp ho, show oPickB = real.pickB from congrArg Ar.pickB ho, show oBnot = real.bnot from congrArg Ar.bnot ho]; decide)) ?_; cbv)
    | (with_reducible refine bcase (fun hb => ?_) (fun hb => ?_) <;> cbv)
    | (intro K' hK'; cbv))))
  all_goals ((try clear hK' K'); cases ho; (try simp only [nc1] at *); (try simp only [Int.ofNat_eq_natCast] at *))
  all_goals first
    | exact ⟨⟨[], [], [0], [], 0⟩, _, 0, _, rfl, rfl, ⟨rfl⟩, rfl, rfl, rfl⟩
    | trace_state
def S_RWrongN (K : CallK) (n : Nat) (h : Hp) : Prop := K (.d (.bool true)) n h
theorem L_RWrongN {n : Nat} {h : Hp} {K : CallK} (hK : S_RWrongN K n h) : CallE Try.prog 54 [.d .nilp] n h K := call_data (CallE.fin K_WrongN0) rfl (by rintro v rfl; exact hK)
theorem K_CRead0 (s : List UInt8) : CallE Try.prog 21 [.d (.str s)] 0 [] (fun v n h => Nd (fun _ => v = .ptr 0 0 ∧ n = 1 ∧ h = [(0, .cells [.d (.str s), .d (.bool false)])])) := by
  refine call_fn tysOK orders (C := C0) C0_ok H0 Try.func21 (by kernel_rfl) (by kernel_rfl) ?_
  intro oBin oCmp oWrap oNeg oCom oBnot oBeq oPickB oPickI oPickS oInb oSub2 oMinI oMaxI oSlen oSidx oScat oSsub oScmp oScok oLen oCI oCB oCS oCL oOkR oApp oApok oSub oSetc oRep oMkok oNthI oNthB oNthS oIteI oIteB oIteS oB2s oS2b oAllB oWf oDeq oMlen oMhas oMI oMB oMS oMok oMput oMdel oSgo oSru oSnx ho; cbv
  (repeat (any_goals (first
    | with_reducible refine And.intro ?_ ?_
    | exact True.intro
    | with_reducible exact rfl
    | (with_reducible refine Nd.mk ?_; try dsimp only)
    | (with_reducible refine Nd0.mk ?_; try dsimp only)
    | (with_reducible refine Pz.mk ?_; cbv)
    | (with_reducible refine RgOK.mk ?_; kernel_rfl)
    | (with_reducible refine OrOK.mk ?_; kernel_rfl)
    | (with_reducible refine Al.mk (fun x hx => ?_); cbv)
    | (with_reducible refine hK' _ ?_; clear hK' K'; cbv)
    | (with_reducible refine brA.yes (by first | assumption | exact rfl | (simp only [show oCmp = real.cmp from congrArg Ar.cmp ho, show oBin = real.bin from congrArg Ar.bin ho, show oScmp = real.scmp from congrArg Ar.scmp ho, show oPickB = real.pickB from congrArg Ar.pickB ho, show oBnot = real.bnot from congrArg Ar.bnot ho]; decide)) ?_; cbv)
    | (with_reducible refine brA.no (by first | assumption | exact rfl | (simp only [show oCmp = real.cmp from congrArg Ar.cmp ho, show oBin = real.bin from congrArg Ar.bin ho, show oScmp = real.scmp from congrArg Ar.scmp ho, show oPickB = real.pickB from congrArg Ar.pickB ho, show oBnot = real.bnot from congrArg Ar.bnot ho]; decide)) ?_; cbv)
    | (with_reducible refine bcase (fun hb => ?_) (fun hb => ?_) <;> cbv)
    | (intro K' hK'; cbv))))
  all_goals ((try clear hK' K'); cases ho; (try simp only [nc1] at *); (try simp only [Int.ofNat_eq_natCast] at *))
  all_goals first
    | exact ⟨rfl, rfl, rfl⟩
    | trace_state
def S_CRead (s : List UInt8) (K : CallK) (n : Nat) (h : Hp) : Prop := K (.ptr n 0) (n + 1) (h ++ [(n, .cells [.d (.str s), .d (.bool false)])])
theorem L_CRead {s : List UInt8} {n : Nat} {h : Hp} {K : CallK} (hK : S_CRead s K n h) : CallE Try.prog 21 [.d (.str s)] n h K := by
  refine call_frame (g := fun i => i) (K_CRead0 s) rfl rfl (fun i j hi => absurd hi (Nat.not_lt_zero _)) (fun i hi => absurd hi (Nat.not_lt_zero _)) (fun i o hm => by cases hm) (by intro j hj; cases hj) ?_
  rintro v n1 h1 - ⟨⟨rfl, rfl, rfl⟩⟩
  rw [outs_zero]
  have e0 : lift (fun i => i) 0 n 0 = n := by simp [lift]; rfl
  simp only [renH, renV, renO, renVs, e0]
  exact hK
def rgt (a : It.Acc) : Bool := rightB a.c a.k a.s
def lastC (l : List It.Acc) : Int := (l.getLast?.map (fun a => a.c)).getD 0
def bt (s : List UInt8) (i : Nat) : Nat := (s.getD i 0).toNat
def rdOK (s : List UInt8) : Bool := decide (4 ≤ s.length ∧ 4 + bt s 3 ≤ s.length)
def rdA (s : List UInt8) : It.Acc := ⟨256 * bt s 0 + bt s 1, bt s 2, (s.drop 4).take (bt s 3)⟩
def rdGo : Nat → List UInt8 → List It.Acc → Option (List It.Acc × List UInt8)
  | 0, s, l => some (l, s)
  | n + 1, s, l => if rdOK s = true ∧ lastC l < (rdA s).c ∧ rgt (rdA s) = true ∧ l.length < 64 then rdGo n (s.drop (4 + bt s 3)) (l ++ [rdA s]) else none
def rdC (s : List UInt8) : Option (List It.Acc × List UInt8) := if 1 ≤ s.length then rdGo (bt s 0) (s.drop 1) [] else none
/-- What has been read so far. -/
structure gL (l : List It.Acc) : Prop where
  up : l.Pairwise fun x y => x.c < y.c
  rg : ∀ a ∈ l, rgt a = true
  ln : l.length ≤ 64
theorem gL_nil : gL [] := ⟨List.Pairwise.nil, (fun a h => by cases h), Nat.zero_le _⟩
theorem up_last : ∀ {l : List It.Acc}, (l.Pairwise fun x y => x.c < y.c) → ∀ a ∈ l, a.c ≤ lastC l := by
  intro l h a ha
  have hne : l ≠ [] := fun e => by subst e; cases ha
  have hl : lastC l = (l.getLast hne).c := by simp [lastC, List.getLast?_eq_some_getLast hne]
  rw [hl]
  obtain ⟨i, hi, rfl⟩ := List.getElem_of_mem ha
  rw [List.getLast_eq_getElem hne]
  by_cases h1 : i = l.length - 1
  · subst h1; exact Int.le_refl _
  · exact Int.le_of_lt (List.pairwise_iff_getElem.1 h i (l.length - 1) hi (by omega) (by omega))
theorem lastC_snoc (l : List It.Acc) (a : It.Acc) : lastC (l ++ [a]) = a.c := by simp [lastC]
theorem gL.snoc {l : List It.Acc} {a : It.Acc} (h : gL l) (h1 : lastC l < a.c) (h2 : rgt a = true) (h3 : l.length < 64) : gL (l ++ [a]) := by
  refine ⟨?_, ?_, by simp; omega⟩
  · rw [List.pairwise_append]
    refine ⟨h.up, by simp, fun x hx y hy => ?_⟩
    simp only [List.mem_singleton] at hy
    subst hy
    have := up_last h.up x hx
    omega
  · intro x hx
    rcases List.mem_append.1 hx with hx | hx
    · exact h.rg x hx
    · simp only [List.mem_singleton] at hx; subst hx; exact h2
/-- The entries of a list of accounts. -/
def pm (l : List It.Acc) : ML := l.map It.pr
theorem gC_pm (l : List It.Acc) : gC (pm l) := ⟨fun p hp => by
  obtain ⟨a, -, rfl⟩ := List.mem_map.1 hp
  exact ⟨_, _, rfl⟩⟩
theorem look_pm : ∀ (l : List It.Acc) (x : Int), (∀ a ∈ l, a.c ≠ x) → Mk.look (pm l) x = none
  | [], x, _ => rfl
  | a :: l, x, h => by
    have ih := look_pm l x (fun b hb => h b (by simp [hb]))
    unfold Mk.look pm at ih ⊢
    rw [List.map_cons, List.find?_cons]
    have h' : ((It.pr a).1 == x) = false := by
      have : a.c ≠ x := h a (by simp)
      simpa [It.pr] using this
    rw [h', ih]
theorem put_new {m : ML} {x : Int} {v : Value} (h : Mk.look m x = none) : Mk.put m x v = m ++ [(x, v)] := by
  unfold Mk.put
  have : m.findIdx? (fun p => p.1 == x) = none := by
    unfold Mk.look at h
    simp only [Option.map_eq_none_iff, List.find?_eq_none] at h
    rw [List.findIdx?_eq_none_iff]
    intro p hp
    simpa using h p hp
  rw [this]
theorem add_pm {l : List It.Acc} {a : It.Acc} (h : gL l) (h1 : lastC l < a.c) : (addE (pm l) a.c a.k a.s = 0 ↔ rgt a = true ∧ l.length < 64) ∧ (addE (pm l) a.c a.k a.s = 0 → addC (pm l) a.c a.k a.s = pm (l ++ [a])) := by
  have hl : Mk.look (pm l) a.c = none := look_pm l a.c fun b hb e => by
    have := up_last h.up b hb
    omega
  refine ⟨?_, fun e => ?_⟩
  · simp only [addE, hl, rgt, Option.isSome_none, cond_false]
    have e : (pm l).length = l.length := by simp [pm]
    rw [e]
    cases rightB a.c a.k a.s
    · simp
    · simp only [cond_true, true_and]
      split <;> simp <;> omega
  · rw [addC, if_pos e, put_new hl]
    simp [pm, It.pr, acV]
    rfl
/-! one account of bytes -/
theorem nm_ok {s : List UInt8} {k : Nat} (h : k ≤ s.length) : nmS s false (k : Int) = ((NUM (s.take k) : Int), s.drop k, false) := by
  simp only [nmS, tkS, Int.toNat_natCast, true_and, Int.natCast_nonneg]
  rw [if_pos (by omega)]
theorem nm_short {s : List UInt8} {k : Nat} (h : s.length < k) : nmS s false (k : Int) = (0, [], true) := by
  simp only [nmS, tkS, Int.toNat_natCast, true_and, Int.natCast_nonneg]
  rw [if_neg (by omega)]
  rfl
theorem nm_bad {s : List UInt8} {k : Int} : nmS s true k = (0, [], true) := by
  simp only [nmS, tkS]
  rw [if_neg (fun h => by cases h.1)]
  rfl
theorem tx_bad {s : List UInt8} : txS s true = ([], [], true) := by
  simp only [txS, nm_bad, tkS]
  rw [if_neg (fun h => by cases h.1)]
theorem take_getD1 {s : List UInt8} (h : 1 ≤ s.length) : NUM (s.take 1) = bt s 0 := by
  match s, h with
  | a :: s, _ => simp [NUM, bt]
theorem take_getD2 {s : List UInt8} (h : 2 ≤ s.length) : NUM (s.take 2) = 256 * bt s 0 + bt s 1 := by
  match s, h with
  | a :: b :: s, _ => simp [NUM, bt]
theorem bt_lt (s : List UInt8) (i : Nat) : bt s i < 256 := (s.getD i 0).toNat_lt
theorem bt_drop (s : List UInt8) (i j : Nat) : bt (s.drop i) j = bt s (i + j) := by
  simp [bt, List.getD_eq_getElem?_getD, List.getElem?_drop]
theorem tx_ok {s : List UInt8} (h : 1 ≤ s.length) (h2 : 1 + bt s 0 ≤ s.length) : txS s false = ((s.drop 1).take (bt s 0), s.drop (1 + bt s 0), false) := by
  have h1 := nm_ok (s := s) (k := 1) h
  simp only [txS]
  rw [show (1 : Int) = ((1 : Nat) : Int) from rfl, h1, take_getD1 h]
  simp only [tkS, Int.toNat_natCast, true_and, Int.natCast_nonneg]
  rw [if_pos (by simp; omega)]
  simp only [List.drop_drop]
theorem tx_no {s : List UInt8} (h : ¬ (1 ≤ s.length ∧ 1 + bt s 0 ≤ s.length)) : (txS s false).1 = [] := by
  simp only [txS]
  by_cases h1 : 1 ≤ s.length
  · rw [show (1 : Int) = ((1 : Nat) : Int) from rfl, nm_ok (s := s) (k := 1) h1, take_getD1 h1]
    simp only [tkS, Int.toNat_natCast, true_and, Int.natCast_nonneg]
    rw [if_neg (by simp; omega)]
  · rw [show (1 : Int) = ((1 : Nat) : Int) from rfl, nm_short (s := s) (k := 1) (by omega)]
    simp only [tkS]
    rw [if_neg (fun h => by cases h.1)]
/-- The three fields of an account, as the reader gives them. -/
theorem three {s : List UInt8} {q1 q2 : Int × List UInt8 × Bool} {q3 : List UInt8 × List UInt8 × Bool} (h1 : q1 = nmS s false 2) (h2 : q2 = nmS q1.2.1 q1.2.2 1) (h3 : q3 = txS q2.2.1 q2.2.2) :
    (0 ≤ q1.1 ∧ q1.1 ≤ 65535 ∧ 0 ≤ q2.1 ∧ q2.1 ≤ 255) ∧ (rdOK s = true → q1.1 = (rdA s).c ∧ q2.1 = (rdA s).k ∧ q3.1 = (rdA s).s ∧ q3.2.1 = s.drop (4 + bt s 3) ∧ q3.2.2 = false) ∧ (rdOK s = false → rightB q1.1 q2.1 q3.1 = false) := by
  have b1 := nm_bd h1 (by decide)
  have b2 := nm_bd h2 (by decide)
  have b1' : q1.1 < 65536 := b1.2
  have b2' : q2.1 < 256 := b2.2
  refine ⟨⟨b1.1, by omega, b2.1, by omega⟩, fun ho => ?_, fun ho => ?_⟩
  · simp only [rdOK, decide_eq_true_eq] at ho
    rw [show (2 : Int) = ((2 : Nat) : Int) from rfl, nm_ok (k := 2) (by omega), take_getD2 (by omega)] at h1
    subst h1
    rw [show (1 : Int) = ((1 : Nat) : Int) from rfl, nm_ok (k := 1) (by simp; omega), take_getD1 (by simp; omega)] at h2
    subst h2
    rw [tx_ok (by simp; omega) (by simp [bt_drop]; omega)] at h3
    subst h3
    simp only [rdA, bt_drop, List.drop_drop]
    have e30 : bt s (2 + 1 + 0) = bt s 3 := rfl
    refine ⟨by simp, by simp, by simp, ?_, trivial⟩
    rw [e30, show 2 + 1 + (1 + bt s 3) = 4 + bt s 3 by omega]
  · by_cases h4 : s.length < 2
    · rw [show (2 : Int) = ((2 : Nat) : Int) from rfl, nm_short (k := 2) h4] at h1
      subst h1
      simp [rightB]
    rw [show (2 : Int) = ((2 : Nat) : Int) from rfl, nm_ok (k := 2) (by omega)] at h1
    by_cases h5 : s.length < 3
    · subst h1
      rw [show (1 : Int) = ((1 : Nat) : Int) from rfl, nm_short (k := 1) (by simp; omega)] at h2
      subst h2
      simp [rightB]
    subst h1
    rw [show (1 : Int) = ((1 : Nat) : Int) from rfl, nm_ok (k := 1) (by simp; omega)] at h2
    subst h2
    have : q3.1 = [] := by
      rw [h3]
      refine tx_no ?_
      simp only [List.drop_drop, List.length_drop, bt_drop]
      simp only [rdOK, decide_eq_false_iff_not] at ho
      rw [show 2 + 1 + 0 = 3 from rfl]
      omega
    rw [this]
    simp [rightB, rightN]
/-- A round of reading. -/
theorem go_step {n : Nat} {s : List UInt8} {l : List It.Acc} {q1 q2 : Int × List UInt8 × Bool} {q3 : List UInt8 × List UInt8 × Bool} (hl : gL l) (h1 : q1 = nmS s false 2) (h2 : q2 = nmS q1.2.1 q1.2.2 1) (h3 : q3 = txS q2.2.1 q2.2.2) :
    ((q1.1 ≤ lastC l ∨ addE (pm l) q1.1 q2.1 q3.1 ≠ 0) → rdGo (n + 1) s l = none) ∧
    (¬ q1.1 ≤ lastC l → addE (pm l) q1.1 q2.1 q3.1 = 0 → gL (l ++ [rdA s]) ∧ q1.1 = lastC (l ++ [rdA s]) ∧ addC (pm l) q1.1 q2.1 q3.1 = pm (l ++ [rdA s]) ∧ q3.2.2 = false ∧ rdGo (n + 1) s l = rdGo n q3.2.1 (l ++ [rdA s])) := by
  obtain ⟨hb, hy, hn⟩ := three h1 h2 h3
  cases ho : rdOK s with
  | false =>
    have hr := hn ho
    refine ⟨fun _ => ?_, fun _ e => ?_⟩
    · rw [rdGo, if_neg (fun h => by rw [ho] at h; cases h.1)]
    · simp [addE, hr] at e
  | true =>
    obtain ⟨e1, e2, e3, e4, e5⟩ := hy ho
    rw [e1, e2, e3, e4]
    refine ⟨fun h => ?_, fun h e => ?_⟩
    · rw [rdGo, if_neg]
      rintro ⟨-, h5, h6, h7⟩
      rcases h with h | h
      · omega
      · exact h ((add_pm hl h5).1.2 ⟨h6, h7⟩)
    · obtain ⟨h6, h7⟩ := (add_pm hl (by omega)).1.1 e
      refine ⟨hl.snoc (by omega) h6 h7, (lastC_snoc _ _).symm, (add_pm hl (by omega)).2 e, e5, ?_⟩
      rw [rdGo, if_pos ⟨ho, by omega, h6, h7⟩]
def aR (xs : List It.Acc) : List (List D) := xs.map rowA
/-- Rows that are some accounts'. -/
def isAR (r : List (List D)) : Prop := ∃ xs, r = aR xs
theorem aR_len (xs : List It.Acc) : (aR xs).length = xs.length := by simp [aR]
theorem aR_at {xs : List It.Acc} {i : Nat} (hi : i < xs.length) : (aR xs).getD i [] = rowA xs[i] := by
  rw [List.getD_eq_getElem?_getD, List.getElem?_eq_getElem (by rw [aR_len]; exact hi)]
  simp [aR]
theorem aR_wf (xs : List It.Acc) : real.wf (aR xs) 3 = true := by
  simp only [real, rWf, List.all_eq_true]
  intro r hr
  obtain ⟨a, -, rfl⟩ := List.mem_map.1 hr
  rfl
theorem aR_ok3 {xs : List It.Acc} {j : Int} {i : Nat} (hj : j = i) (hi : i < xs.length) : real.okR (aR xs) j 0 [.int .i64, .int .u8, .str] = true := by
  subst hj
  simp only [real, Int.toNat_natCast, aR_at hi, aR_len]
  simp [rowOk, kdOk, rowA]
  omega
theorem aR_ok1 {xs : List It.Acc} {j : Int} {i : Nat} (hj : j = i) (hi : i < xs.length) : real.okR (aR xs) j 0 [.int .i64] = true := by
  subst hj
  simp only [real, Int.toNat_natCast, aR_at hi, aR_len]
  simp [rowOk, kdOk, rowA]
  omega
theorem aR_okk {xs : List It.Acc} {j : Int} {i : Nat} (hj : j = i) (hi : i < xs.length) : real.okR (aR xs) j 1 [.int .u8] = true := by
  subst hj
  simp only [real, Int.toNat_natCast, aR_at hi, aR_len]
  simp [rowOk, kdOk, rowA]
  omega
theorem aR_oks {xs : List It.Acc} {j : Int} {i : Nat} (hj : j = i) (hi : i < xs.length) : real.okR (aR xs) j 2 [.str] = true := by
  subst hj
  simp only [real, Int.toNat_natCast, aR_at hi, aR_len]
  simp [rowOk, kdOk, rowA]
  omega
theorem aR_c {xs : List It.Acc} {j : Int} {i : Nat} (hj : j = i) (hi : i < xs.length) : real.cI (aR xs) j 0 = xs[i].c := by
  subst hj
  show (match rCell (aR xs) (i : Int) 0 with | .int _ n => n | _ => 0) = _
  unfold rCell
  rw [Int.toNat_natCast, aR_at hi]
  rfl
theorem aR_k {xs : List It.Acc} {j : Int} {i : Nat} (hj : j = i) (hi : i < xs.length) : real.cI (aR xs) j 1 = xs[i].k := by
  subst hj
  show (match rCell (aR xs) (i : Int) 1 with | .int _ n => n | _ => 0) = _
  unfold rCell
  rw [Int.toNat_natCast, aR_at hi]
  rfl
theorem aR_s {xs : List It.Acc} {j : Int} {i : Nat} (hj : j = i) (hi : i < xs.length) : real.cS (aR xs) j 2 = xs[i].s := by
  subst hj
  show (match rCell (aR xs) (i : Int) 2 with | .str s => s | _ => []) = _
  unfold rCell
  rw [Int.toNat_natCast, aR_at hi]
  rfl
theorem in_R {l : List (List D)} {j : Int} {i : Nat} (hj : j = i) (hi : i < l.length) : real.inb j (real.len l) = true := by
  simp only [real, decide_eq_true_eq]; omega
theorem lt_R {l : List (List D)} {j : Int} {i : Nat} (hj : j = i) (h : real.cmp .lss j (real.len l) = true) : i < l.length := by
  simp only [real, rCmp, decide_eq_true_eq] at h; omega
theorem ge_R {l : List (List D)} {j : Int} {i : Nat} (hj : j = i) (h : real.cmp .lss j (real.len l) = false) : l.length ≤ i := by
  simp only [real, rCmp, decide_eq_false_iff_not] at h; omega
theorem lt_aR {xs : List It.Acc} {j : Int} {i : Nat} (hj : j = i) (h : real.cmp .lss j (real.len (aR xs)) = true) : i < xs.length := by
  have := lt_R hj h; rwa [aR_len] at this
theorem ge_aR {xs : List It.Acc} {j : Int} {i : Nat} (hj : j = i) (h : real.cmp .lss j (real.len (aR xs)) = false) : xs.length ≤ i := by
  have := ge_R hj h; rwa [aR_len] at this
theorem in_aR {xs : List It.Acc} {j : Int} {i : Nat} (hj : j = i) (hi : i < xs.length) : real.inb j (real.len (aR xs)) = true := in_R hj (by rw [aR_len]; exact hi)
theorem add_1 {j : Int} {i : Nat} (hj : j = i) (hi : i < 1000000000) : real.bin .add .i64 j 1 = ((i + 1 : Nat) : Int) := by
  simp only [real, rBin]; rw [wrap_i64 _ (by omega) (by omega)]; omega
theorem sub_1 {j : Int} {i : Nat} (hj : j = i) (h0 : 0 < i) (hi : i < 1000000000) : real.bin .sub .i64 j 1 = ((i - 1 : Nat) : Int) := by
  simp only [real, rBin]; rw [wrap_i64 _ (by omega) (by omega)]; omega
theorem deq3 {c k c' k' : Int} {s s' : List UInt8} : real.deq [.int .i64 c, .int .u8 k, .str s] [.int .i64 c', .int .u8 k', .str s'] = true ↔ c = c' ∧ k = k' ∧ s = s' := by simp [real, deqL, deq1]
theorem aR_app (xs : List It.Acc) (a : It.Acc) : real.app (aR xs) [[.int .i64 a.c, .int .u8 a.k, .str a.s]] = aR (xs ++ [a]) := by simp [real, aR, rowA]
theorem aR_apok {xs : List It.Acc} {a : It.Acc} (h : xs.length ≤ 1000) : real.apok (aR xs) [[.int .i64 a.c, .int .u8 a.k, .str a.s]] 3 32 = true := by
  simp [real, aR, flatD, maxLen]
  omega
theorem aR_inj {xs ys : List It.Acc} (h : aR xs = aR ys) : xs = ys := by
  have key : ∀ a b : It.Acc, rowA a = rowA b → a = b := by
    rintro ⟨a, b, c⟩ ⟨d, e, f⟩ h
    simp [rowA] at h
    obtain ⟨rfl, rfl, rfl⟩ := h
    rfl
  induction xs generalizing ys with
  | nil => cases ys with
    | nil => rfl
    | cons y ys => simp [aR] at h
  | cons x xs ih => cases ys with
    | nil => simp [aR] at h
    | cons y ys =>
      simp only [aR, List.map_cons, List.cons.injEq] at h
      rw [key x y h.1, ih h.2]
/-! an account put in its place -/
theorem snocRec {p : List It.Acc → Prop} (h0 : p []) (h1 : ∀ l x, p l → p (l ++ [x])) : ∀ l, p l := by
  intro l
  have key : ∀ l : List It.Acc, p l.reverse := by
    intro l
    induction l with
    | nil => exact h0
    | cons a l ih => rw [List.reverse_cons]; exact h1 _ _ ih
  have := key l.reverse
  rwa [List.reverse_reverse] at this
def insF (a : It.Acc) (q : List It.Acc × Bool) (x : It.Acc) : List It.Acc × Bool := if q.2 = false ∧ x.c > a.c then (q.1 ++ [a, x], true) else (q.1 ++ [x], q.2)
def insS (a : It.Acc) (l : List It.Acc) : List It.Acc × Bool := l.foldl (insF a) ([], false)
def ins (l : List It.Acc) (a : It.Acc) : List It.Acc := let q := insS a l; if q.2 then q.1 else q.1 ++ [a]
theorem insS_snoc (a : It.Acc) (l : List It.Acc) (x : It.Acc) : insS a (l ++ [x]) = insF a (insS a l) x := by simp [insS]
theorem insS_take {a : It.Acc} {l : List It.Acc} {i : Nat} (hi : i < l.length) : insS a (l.take (i + 1)) = insF a (insS a (l.take i)) l[i] := by
  rw [List.take_succ_eq_append_getElem hi, insS_snoc]
theorem insS_len (a : It.Acc) (l : List It.Acc) : (insS a l).1.length ≤ l.length + 1 ∧ ((insS a l).2 = false → (insS a l).1 = l) := by
  have key : ∀ (l' : List It.Acc), ((insS a l').1.length = l'.length + (if (insS a l').2 = true then 1 else 0)) ∧ ((insS a l').2 = false → (insS a l').1 = l') := by
    intro l'
    induction l' using snocRec with
    | h0 => exact ⟨rfl, fun _ => rfl⟩
    | h1 l' x ih =>
      rw [insS_snoc]
      unfold insF
      split
      · rename_i h
        refine ⟨?_, (fun h => by cases h)⟩
        have := ih.1
        simp [h.1] at this
        simp [this]
      · refine ⟨?_, fun h => ?_⟩
        · have := ih.1
          simp [this]
          omega
        · rw [ih.2 h]
  refine ⟨?_, (key l).2⟩
  have := (key l).1
  split at this <;> omega
/-- Into a rising list, without its code: rising, and one more. -/
theorem insS_spec (a : It.Acc) : ∀ (l : List It.Acc), (l.Pairwise fun x y => x.c < y.c) → (∀ x ∈ l, x.c ≠ a.c) →
    ((insS a l).2 = false → (insS a l).1 = l ∧ ∀ x ∈ l, x.c < a.c) ∧ ((insS a l).2 = true → (insS a l).1.Perm (a :: l) ∧ ((insS a l).1.Pairwise fun x y => x.c < y.c)) := by
  intro l
  induction l using snocRec with
  | h0 => exact fun _ _ => ⟨fun _ => ⟨rfl, (fun x h => by cases h)⟩, (fun h => by cases h)⟩
  | h1 l x ih =>
    intro hp hn
    rw [List.pairwise_append] at hp
    obtain ⟨hp1, -, hp2⟩ := hp
    have hn1 : ∀ y ∈ l, y.c ≠ a.c := fun y hy => hn y (by simp [hy])
    have hnx : x.c ≠ a.c := hn x (by simp)
    have hlx : ∀ y ∈ l, y.c < x.c := fun y hy => hp2 y hy x (by simp)
    obtain ⟨i1, i2⟩ := ih hp1 hn1
    rw [insS_snoc]
    unfold insF
    split
    · rename_i h
      obtain ⟨e, hlt⟩ := i1 h.1
      refine ⟨(fun h => by cases h), fun _ => ⟨?_, ?_⟩⟩
      · rw [e]
        exact (List.perm_append_comm (l₁ := l) (l₂ := [a, x])).trans ((List.Perm.cons a (List.perm_append_comm (l₁ := [x]) (l₂ := l))))
      · rw [e, List.pairwise_append]
        refine ⟨hp1, ?_, fun y hy z hz => ?_⟩
        · simp only [List.pairwise_cons, List.mem_singleton, forall_eq, List.not_mem_nil, false_implies, implies_true, List.Pairwise.nil, and_true]
          exact h.2
        · simp only [List.mem_cons, List.not_mem_nil, or_false] at hz
          rcases hz with rfl | rfl
          · exact hlt y hy
          · exact hlx y hy
    · rename_i h
      refine ⟨fun h2 => ?_, fun h2 => ?_⟩
      · obtain ⟨e, hlt⟩ := i1 h2
        refine ⟨by rw [e], fun y hy => ?_⟩
        rcases List.mem_append.1 hy with hy | hy
        · exact hlt y hy
        · simp only [List.mem_singleton] at hy
          subst hy
          have : ¬ y.c > a.c := fun h3 => h ⟨h2, h3⟩
          omega
      · obtain ⟨p1, p2⟩ := i2 h2
        refine ⟨?_, ?_⟩
        · exact p1.append_right [x]
        · rw [List.pairwise_append]
          refine ⟨p2, by simp, fun y hy z hz => ?_⟩
          simp only [List.mem_singleton] at hz
          subst hz
          have hy' := p1.mem_iff.1 hy
          simp only [List.mem_cons] at hy'
          rcases hy' with rfl | hy'
          · by_cases h0 : l = []
            · subst h0
              have : (insS y ([] : List It.Acc)).2 = false := rfl
              rw [this] at h2
              cases h2
            · exact ins_lt hp1 hn1 h2 hlx
          · exact hlx y hy'
where
  ins_lt {a x : It.Acc} {l : List It.Acc} (hp1 : l.Pairwise fun x y => x.c < y.c) (hn1 : ∀ y ∈ l, y.c ≠ a.c) (h2 : (insS a l).2 = true) (hlx : ∀ y ∈ l, y.c < x.c) : a.c < x.c := by
    have key : ∀ l' : List It.Acc, (insS a l').2 = true → ∃ y ∈ l', a.c < y.c := by
      intro l'
      induction l' using snocRec with
      | h0 => exact fun h => by cases h
      | h1 l' z ih =>
        rw [insS_snoc]
        unfold insF
        split
        · rename_i h
          exact fun _ => ⟨z, by simp, h.2⟩
        · intro h
          obtain ⟨y, hy, h3⟩ := ih h
          exact ⟨y, by simp [hy], h3⟩
    obtain ⟨y, hy, h3⟩ := key l h2
    have := hlx y hy
    omega
theorem ins_spec {l : List It.Acc} {a : It.Acc} (hp : l.Pairwise fun x y => x.c < y.c) (hn : ∀ x ∈ l, x.c ≠ a.c) : (ins l a).Perm (a :: l) ∧ ((ins l a).Pairwise fun x y => x.c < y.c) := by
  obtain ⟨h1, h2⟩ := insS_spec a l hp hn
  unfold ins
  cases hq : (insS a l).2 with
  | true => simpa [hq] using h2 hq
  | false =>
    obtain ⟨e, hlt⟩ := h1 hq
    simp only [hq, e]
    refine ⟨?_, ?_⟩
    · exact List.perm_append_comm (l₁ := l) (l₂ := [a])
    · rw [if_neg (by simp), List.pairwise_append]
      refine ⟨hp, by simp, fun y hy z hz => ?_⟩
      simp only [List.mem_singleton] at hz
      subst hz
      exact hlt y hy
theorem ins_end {l : List It.Acc} {a : It.Acc} (hp : l.Pairwise fun x y => x.c < y.c) (h : lastC l < a.c) : ins l a = l ++ [a] := by
  have hlt : ∀ x ∈ l, x.c < a.c := fun x hx => by
    have := up_last hp x hx
    omega
  have key : ∀ l' : List It.Acc, (∀ x ∈ l', x.c < a.c) → insS a l' = (l', false) := by
    intro l'
    induction l' using snocRec with
    | h0 => exact fun _ => rfl
    | h1 l' z ih =>
      intro h
      rw [insS_snoc, ih (fun x hx => h x (by simp [hx]))]
      unfold insF
      rw [if_neg]
      rintro ⟨-, h2⟩
      have := h z (by simp)
      omega
  unfold ins
  rw [key l hlt]
  rfl
/-! what Add answers -/
def rAddE (l : List It.Acc) (a : It.Acc) : Int := if rgt a = true then (if (∃ b ∈ l, b.c = a.c) then 16 else if 64 ≤ l.length then 7 else 0) else 2
def rAddL (l : List It.Acc) (a : It.Acc) : List It.Acc := if rAddE l a = 0 then ins l a else l
end Go.Proofs.Yteakfibolfapiaa.Ab
end
section
namespace Go.Proofs.Yteakfibolfapiaa.Ab
open Go Go.RowKit Go.Sort
set_option linter.unusedVariables false
set_option linter.unusedSimpArgs false
set_option maxRecDepth 100000
set_option maxHeartbeats 8000000
def C4 : CallS := fun f args n h K => match f with
  | 8 => (match args with | [] => S_New K n h | _ => False)
  | 9 => (match args with | [.ptr i 0, .d (.agg [.int .i64 c, .int .u8 k, .str s])] => S_Add i c k s K n h | _ => False)
  | 32 => (match args with | [.ptr i 0, .d (.int .i64 c)] => S_Get i c K n h | _ => False)
  | 10 => (match args with | [.ptr i 0] => S_List i K n h | _ => False)
  | _ => False
theorem C4_ok : ∀ f args n h K, C4 f args n h K → CallE Try.prog f args n h K := by
  intro f args n h K hc
  unfold C4 at hc
  split at hc
  · split at hc
    · exact L_New hc
    · exact hc.elim
  · split at hc
    · exact L_Add hc
    · exact hc.elim
  · split at hc
    · exact L_Get hc
    · exact hc.elim
  · split at hc
    · exact L_List hc
    · exact hc.elim
  · exact hc.elim
def mCash : ML := [(10, acV 10 1 [67, 97, 115, 104])]
theorem e1 : addE [] 10 1 [67, 97, 115, 104] = 0 := by decide
theorem m1 : addC [] 10 1 [67, 97, 115, 104] = mCash := by rw [addC, if_pos e1]; rfl
theorem e2 : addE mCash 0 0 [] = 2 := by decide
theorem m2 : addC mCash 0 0 [] = mCash := by rw [addC, if_neg (by rw [e2]; decide)]
theorem gC_nil : gC [] := ⟨fun p hp => by cases hp⟩
theorem gC_cash : gC mCash := ⟨fun p hp => by
  simp only [mCash, List.mem_singleton] at hp
  subst hp
  exact ⟨_, _, rfl⟩⟩
theorem list_len {m : ML} {rows : List (List D)} (h : isList m rows) : rows.length = m.length := by
  obtain ⟨xs, h1, -, rfl⟩ := h
  have := h1.length_eq
  simpa using this
theorem K_wakes0 : CallE Try.prog 11 [] 0 [] (fun v n h => Nd (fun _ => Fin 0 (Gets fun v => v = .d (.bool true)) v n h)) := by
  refine call_fn tysOK orders (C := C4) C4_ok H0 Try.func11 (by kernel_rfl) (by kernel_rfl) ?_
  intro oBin oCmp oWrap oNeg oCom oBnot oBeq oPickB oPickI oPickS oInb oSub2 oMinI oMaxI oSlen oSidx oScat oSsub oScmp oScok oLen oCI oCB oCS oCL oOkR oApp oApok oSub oSetc oRep oMkok oNthI oNthB oNthS oIteI oIteB oIteS oB2s oS2b oAllB oWf oDeq oMlen oMhas oMI oMB oMS oMok oMput oMdel oSgo oSru oSnx ho; cbv
  (repeat (any_goals (first
    | with_reducible refine And.intro ?_ ?_
    | exact True.intro
    | with_reducible exact rfl
    | (with_reducible refine Nd.mk ?_; try dsimp only)
    | (with_reducible refine Nd0.mk ?_; try dsimp only)
    | (with_reducible refine Pz.mk ?_; cbv)
    | (with_reducible refine RgOK.mk ?_; kernel_rfl)
    | (with_reducible refine OrOK.mk ?_; kernel_rfl)
    | (with_reducible refine Al.mk (fun x hx => ?_); cbv)
    | (with_reducible refine hK' _ ?_; clear hK' K'; cbv)
    | (with_reducible refine brA.yes (by first | assumption | exact rfl | (simp only [show oCmp = real.cmp from congrArg Ar.cmp ho, show oBin = real.bin from congrArg Ar.bin ho, show oScmp = real.scmp from congrArg Ar.scmp ho, show oPickB = real.pickB from congrArg Ar.pickB ho]; decide)) ?_; cbv)
    | (with_reducible refine brA.no (by first | assumption | exact rfl | (simp only [show oCmp = real.cmp from congrArg Ar.cmp ho, show oBin = real.bin from congrArg Ar.bin ho, show oScmp = real.scmp from congrArg Ar.scmp ho, show oPickB = real.pickB from congrArg Ar.pickB ho]; decide)) ?_; cbv)
    | (with_reducible refine bcase (fun hb => ?_) (fun hb => ?_) <;> cbv)
    | (intro K' hK'; cbv))))
  all_goals ((try clear hK' K'); cases ho; (try simp only [nc1] at *); (try simp only [Int.ofNat_eq_natCast] at *))
  all_goals subst_vars
  all_goals (try simp only [e1, m1, e2, m2] at *)
  all_goals first
    | omega
    | with_reducible exact gC_nil
    | with_reducible exact gC_cash
    | exact (show mCash.length ≤ 1000 by decide)
    | (have hl := list_len hx
       refine fin_b ?_
       have e : real.len _ = 1 := show (List.length _ : Int) = 1 by rw [hl]; rfl
       rw [e]
       rfl)
    | exact absurd ‹real.cmp BinOp.eql 0 0 = false› (by decide)
    | exact absurd ‹real.pickB true (real.cmp BinOp.eql 2 2) false = false› (by decide)
    | exact absurd ‹real.pickB true (real.mhas mCash 10) false = false› (by decide)
    | exact absurd ‹real.pickB true (real.scmp BinOp.eql (real.mS mCash 10 2) [67, 97, 115, 104]) false = false› (by decide)
    | trace_state
def S_wakes (K : CallK) (n : Nat) (h : Hp) : Prop := K (.d (.bool true)) n h
theorem L_wakes {n : Nat} {h : Hp} {K : CallK} (hK : S_wakes K n h) : CallE Try.prog 11 [] n h K := call_data (CallE.fin K_wakes0) rfl (by rintro v rfl; exact hK)
end Go.Proofs.Yteakfibolfapiaa.Ab
end
