/- What CentsAdds and CentsTotals answer. -/
import Derived.Test.YtieoipmbcdfmeaaDoorTrCa5
namespace Go.Proofs.YtieoipmbcdfmeaaDoor.Ab
open Go Go.RowKit Go.Sort
set_option linter.unusedVariables false
set_option linter.unusedSimpArgs false
set_option maxRecDepth 100000
set_option maxHeartbeats 4000000
/-- An amount, or that it is none. -/
def S_amt (x : Int) (K : CallK) (n : Nat) (h : Hp) : Prop := Al (fun y => y = amt x) fun y => Al (fun e => e = amtE x) fun e => K (.tup [.d (.int .i64 y), .d (.int .i64 e)]) n h
def S_two (f : Int → Int → Int) (a b : Int) (K : CallK) (n : Nat) (h : Hp) : Prop := Nd (fun _ => I64 a ∧ I64 b) ∧ S_amt (f a b) K n h
def opAdd (a b : Int) : Int := a + b
def opSub (a b : Int) : Int := a - b
def opMul (a b : Int) : Int := a * b
def S_add (a b : Int) (K : CallK) (n : Nat) (h : Hp) : Prop := Nd (fun _ => I64 a ∧ I64 b) ∧ Al (fun y => y = amt (a + b)) fun y => Al (fun e => e = amtE (a + b)) fun e => K (.tup [.d (.int .i64 y), .d (.int .i64 e)]) n h
def S_sub (a b : Int) (K : CallK) (n : Nat) (h : Hp) : Prop := Nd (fun _ => I64 a ∧ I64 b) ∧ Al (fun y => y = amt (a - b)) fun y => Al (fun e => e = amtE (a - b)) fun e => K (.tup [.d (.int .i64 y), .d (.int .i64 e)]) n h
def S_mul (a b : Int) (K : CallK) (n : Nat) (h : Hp) : Prop := Nd (fun _ => I64 a ∧ I64 b) ∧ Al (fun y => y = amt (a * b)) fun y => Al (fun e => e = amtE (a * b)) fun e => K (.tup [.d (.int .i64 y), .d (.int .i64 e)]) n h
section
variable {a b : Int} {n : Nat} {h : Hp} {K : CallK}
theorem L_Add (hK : S_add a b K n h) : CallE Tryd.prog 17 [.d (.int .i64 a), .d (.int .i64 b)] n h K := K_Add a b hK.1.h.1 hK.1.h.2 ((hK.2.h _ rfl).h _ rfl)
theorem L_RAdd (hK : S_add a b K n h) : CallE Tryd.prog 19 [.d (.int .i64 a), .d (.int .i64 b)] n h K :=
  call_old (v := .tuple #[.int .i64 (amt (a + b)), .int .i64 (amtE (a + b))]) Tryd.func19 (by kernel_rfl) (by kernel_rfl) (vals := [.int .i64 a, .int .i64 b]) (by intro ρ w M vs h; simpa [RelVs, RelV, RelD] using h)
    (by intro ρ w M; simp [RelVs, RelV, RelD]) (fun w _ => C_R03Add a b hK.1.h.1 hK.1.h.2 w) ((hK.2.h _ rfl).h _ rfl)
theorem L_Sub (hK : S_sub a b K n h) : CallE Tryd.prog 20 [.d (.int .i64 a), .d (.int .i64 b)] n h K := call_data (K_Sub0 a b hK.1.h.1 hK.1.h.2) rfl (by rintro v rfl; exact (hK.2.h _ rfl).h _ rfl)
theorem L_RSub (hK : S_sub a b K n h) : CallE Tryd.prog 21 [.d (.int .i64 a), .d (.int .i64 b)] n h K := call_data (K_RSub0 a b hK.1.h.1 hK.1.h.2) rfl (by rintro v rfl; exact (hK.2.h _ rfl).h _ rfl)
theorem L_Times (hK : S_mul a b K n h) : CallE Tryd.prog 18 [.d (.int .i64 a), .d (.int .i64 b)] n h K := call_data (K_Times0 a b hK.1.h.1 hK.1.h.2) rfl (by rintro v rfl; exact (hK.2.h _ rfl).h _ rfl)
theorem L_RTimes (hK : S_mul a b K n h) : CallE Tryd.prog 22 [.d (.int .i64 a), .d (.int .i64 b)] n h K := call_data (K_RTimes0 a b hK.1.h.1 hK.1.h.2) rfl (by rintro v rfl; exact (hK.2.h _ rfl).h _ rfl)
def S_wakes (K : CallK) (n : Nat) (h : Hp) : Prop := K (.d (.bool true)) n h
theorem L_wakes (hK : S_wakes K n h) : CallE Tryd.prog 12 [] n h K := K_wakes hK
end
/-- A row's numbers. -/
def ints (l : List (List D)) : List Int := l.map fun r => match r with | [.int _ x] => x | _ => 0
theorem ints_iR (xs : List Int) : ints (iR xs) = xs := by simp [ints, iR, Function.comp_def]
def rowI (l : List (List D)) : Prop := ∃ xs, l = iR xs ∧ xs.length ≤ 500 ∧ ∀ x ∈ xs, I64 x
def S_tot (l : List (List D)) (K : CallK) (n : Nat) (h : Hp) : Prop := Nd (fun _ => rowI l) ∧ Al (fun y => y = amt (ints l).sum) fun y => Al (fun e => e = amtE (ints l).sum) fun e => K (.tup [.d (.int .i64 y), .d (.int .i64 e)]) n h
def S_list (l : List (List D)) (K : CallK) (n : Nat) (h : Hp) : Prop := Nd (fun _ => rowI l) ∧ K (.d (.imm l)) n h
section
variable {l : List (List D)} {n : Nat} {h : Hp} {K : CallK}
theorem L_Total (hK : S_tot l K n h) : CallE Tryd.prog 9 [.d (.imm l)] n h K := by
  obtain ⟨⟨xs, rfl, h1, h2⟩, hK⟩ := hK
  rw [ints_iR] at hK
  exact K_Total h2 h1 ((hK.h _ rfl).h _ rfl)
theorem L_RTotal (hK : S_tot l K n h) : CallE Tryd.prog 11 [.d (.imm l)] n h K := by
  obtain ⟨⟨xs, rfl, h1, h2⟩, hK⟩ := hK
  rw [ints_iR] at hK
  exact K_RTotal h2 h1 ((hK.h _ rfl).h _ rfl)
theorem L_list (hK : S_list l K n h) : CallE Tryd.prog 10 [.d (.imm l)] n h K := by
  obtain ⟨⟨xs, rfl, h1, h2⟩, hK⟩ := hK
  exact K_list h1 hK
end
def C7 : CallS := fun f args n h K => match f with
  | 17 => (match args with | [.d (.int .i64 a), .d (.int .i64 b)] => S_add a b K n h | _ => False)
  | 20 => (match args with | [.d (.int .i64 a), .d (.int .i64 b)] => S_sub a b K n h | _ => False)
  | 18 => (match args with | [.d (.int .i64 a), .d (.int .i64 b)] => S_mul a b K n h | _ => False)
  | 19 => (match args with | [.d (.int .i64 a), .d (.int .i64 b)] => S_add a b K n h | _ => False)
  | 21 => (match args with | [.d (.int .i64 a), .d (.int .i64 b)] => S_sub a b K n h | _ => False)
  | 22 => (match args with | [.d (.int .i64 a), .d (.int .i64 b)] => S_mul a b K n h | _ => False)
  | 12 => (match args with | [] => S_wakes K n h | _ => False)
  | _ => False
theorem C7_ok : ∀ f args n h K, C7 f args n h K → CallE Tryd.prog f args n h K := by
  intro f args n h K hc
  unfold C7 at hc
  split at hc
  · split at hc
    · exact L_Add hc
    · exact hc.elim
  · split at hc
    · exact L_Sub hc
    · exact hc.elim
  · split at hc
    · exact L_Times hc
    · exact hc.elim
  · split at hc
    · exact L_RAdd hc
    · exact hc.elim
  · split at hc
    · exact L_RSub hc
    · exact hc.elim
  · split at hc
    · exact L_RTimes hc
    · exact hc.elim
  · split at hc
    · exact L_wakes hc
    · exact hc.elim
  · exact hc.elim
theorem K_CentsAdds (a b c : Int) (ha : I64 a) (hb : I64 b) (hc : I64 c) : CallE Tryd.prog 7 [.d (.int .i64 a), .d (.int .i64 b), .d (.int .i64 c)] 0 [] (Gets fun v => v = .d (.bool true)) := by
  refine call_fn tysOK orders (C := C7) C7_ok H0 Tryd.func7 (by kernel_rfl) (by kernel_rfl) ?_
  intro oBin oCmp oWrap oNeg oCom oBnot oBeq oPickB oPickI oPickS oInb oSub2 oMinI oMaxI oSlen oSidx oScat oSsub oScmp oScok oLen oCI oCB oCS oCL oOkR oApp oApok oSub oSetc oRep oMkok oNthI oNthB oNthS oIteI oIteB oIteS oB2s oS2b oAllB oWf oDeq ho; cbv
  (repeat (any_goals (first
    | with_reducible refine And.intro ?_ ?_
    | exact True.intro
    | with_reducible exact rfl
    | (with_reducible refine Nd.mk ?_; try dsimp only)
    | (with_reducible refine Al.mk (fun x hx => ?_); cbv)
    | (with_reducible refine hK' _ ?_; clear hK' K'; cbv)
    | (with_reducible refine brA.yes (by first | assumption | exact rfl | (simp only [show oCmp = real.cmp from congrArg Ar.cmp ho, show oBin = real.bin from congrArg Ar.bin ho, show oScmp = real.scmp from congrArg Ar.scmp ho, show oPickB = real.pickB from congrArg Ar.pickB ho]; decide)) ?_; cbv)
    | (with_reducible refine brA.no (by first | assumption | exact rfl | (simp only [show oCmp = real.cmp from congrArg Ar.cmp ho, show oBin = real.bin from congrArg Ar.bin ho, show oScmp = real.scmp from congrArg Ar.scmp ho, show oPickB = real.pickB from congrArg Ar.pickB ho]; decide)) ?_; cbv)
    | (with_reducible refine bcase (fun hb => ?_) (fun hb => ?_) <;> cbv)
    | (intro K' hK'; cbv))))
  all_goals ((try clear hK' K'); cases ho; (try simp only [real, rBin, rCmp, Op.intArith, decide_eq_true_eq, decide_eq_false_iff_not, ge_iff_le, gt_iff_lt, Bool.cond_true, Bool.cond_false, beq_iff_eq, beq_eq_false_iff_ne, bne_iff_ne, bne_eq_false_iff_eq, ne_eq, Bool.not_eq_true, Bool.false_eq_true, Bool.true_eq_false, not_true_eq_false, not_false_eq_true] at *); (try simp only [nc1] at *); (try simp only [Int.ofNat_eq_natCast] at *))
  all_goals (try subst_vars)
  all_goals first
    | assumption
    | contradiction
    | rfl
    | (simp at *; done)
    | trace_state
def C3 : CallS := fun f args n h K => match f with
  | 10 => (match args with | [.d (.imm l)] => S_list l K n h | _ => False)
  | 9 => (match args with | [.d (.imm l)] => S_tot l K n h | _ => False)
  | 11 => (match args with | [.d (.imm l)] => S_tot l K n h | _ => False)
  | 12 => (match args with | [] => S_wakes K n h | _ => False)
  | _ => False
theorem C3_ok : ∀ f args n h K, C3 f args n h K → CallE Tryd.prog f args n h K := by
  intro f args n h K hc
  unfold C3 at hc
  split at hc
  · split at hc
    · exact L_list hc
    · exact hc.elim
  · split at hc
    · exact L_Total hc
    · exact hc.elim
  · split at hc
    · exact L_RTotal hc
    · exact hc.elim
  · split at hc
    · exact L_wakes hc
    · exact hc.elim
  · exact hc.elim
theorem iR_sub (xs : List Int) (k : Int) : real.sub (iR xs) 0 k = iR (xs.take k.toNat) := by simp [real, iR, List.map_take]
theorem rowI_take {xs : List Int} (hx : ∀ x ∈ xs, I64 x) (k : Nat) (hk : k ≤ 500) : rowI (iR (xs.take k)) :=
  ⟨_, rfl, by rw [List.length_take]; omega, fun x h => hx x (List.mem_of_mem_take h)⟩
theorem K_CentsTotals (xs : List Int) (hx : ∀ x ∈ xs, I64 x) : CallE Tryd.prog 3 [.d (.imm (iR xs))] 0 [] (Gets fun v => v = .d (.bool true)) := by
  obtain ⟨R, hR⟩ : ∃ R, R = iR xs := ⟨_, rfl⟩
  rw [← hR]
  refine call_fn tysOK orders (C := C3) C3_ok H0 Tryd.func3 (by kernel_rfl) (by kernel_rfl) ?_
  intro oBin oCmp oWrap oNeg oCom oBnot oBeq oPickB oPickI oPickS oInb oSub2 oMinI oMaxI oSlen oSidx oScat oSsub oScmp oScok oLen oCI oCB oCS oCL oOkR oApp oApok oSub oSetc oRep oMkok oNthI oNthB oNthS oIteI oIteB oIteS oB2s oS2b oAllB oWf oDeq ho; cbv
  (repeat (any_goals (first
    | with_reducible refine And.intro ?_ ?_
    | exact True.intro
    | with_reducible exact rfl
    | (with_reducible refine Nd.mk ?_; try dsimp only)
    | (with_reducible refine Al.mk (fun x hx => ?_); cbv)
    | (with_reducible refine hK' _ ?_; clear hK' K'; cbv)
    | (with_reducible refine brA.yes (by first | assumption | exact rfl | (simp only [show oCmp = real.cmp from congrArg Ar.cmp ho, show oBin = real.bin from congrArg Ar.bin ho, show oScmp = real.scmp from congrArg Ar.scmp ho, show oPickB = real.pickB from congrArg Ar.pickB ho]; decide)) ?_; cbv)
    | (with_reducible refine brA.no (by first | assumption | exact rfl | (simp only [show oCmp = real.cmp from congrArg Ar.cmp ho, show oBin = real.bin from congrArg Ar.bin ho, show oScmp = real.scmp from congrArg Ar.scmp ho, show oPickB = real.pickB from congrArg Ar.pickB ho]; decide)) ?_; cbv)
    | (with_reducible refine bcase (fun hb => ?_) (fun hb => ?_) <;> cbv)
    | (intro K' hK'; cbv))))
  all_goals ((try clear hK' K'); cases ho; (try simp only [nc1] at *); (try simp only [Int.ofNat_eq_natCast] at *))
  all_goals (try subst_vars)
  all_goals (try simp only [iR_sub, iR_rlen] at *)
  all_goals first
    | exact iR_wf _
    | exact rowI_take hx _ (by simp only [real]; omega)
    | (simp only [real]; exact decide_eq_true (by omega))
    | (simp [real, rCmp] at *; done)
end Go.Proofs.YtieoipmbcdfmeaaDoor.Ab
