/- What CentsTells answers. -/
import Derived.Test.YtieoipmbcdfmeaaDoorTrCa9
namespace Go.Proofs.YtieoipmbcdfmeaaDoor.Ab
open Go Go.RowKit Go.Sort
set_option linter.unusedVariables false
set_option linter.unusedSimpArgs false
set_option maxRecDepth 100000
set_option maxHeartbeats 4000000
def S_P (s : List UInt8) (K : CallK) (n : Nat) (h : Hp) : Prop := Nd (fun _ => s.length ≤ 100) ∧ Al (fun c => I64 c) (fun c => Al (fun _ : Unit => T03 c = s) fun _ => K (.tup [.d (.int .i64 c), .d (.int .i64 0)]) n h) ∧ Al (fun _ : Unit => noT s) fun _ => K (.tup [.d (.int .i64 0), .d (.int .i64 4)]) n h
theorem L_Parse {s : List UInt8} {n : Nat} {h : Hp} {K : CallK} (hK : S_P s K n h) : CallE Tryd.prog 14 [.d (.str s)] n h K :=
  K_Parse (by have := hK.1.h; omega) (by rintro v (⟨c, h1, h2, rfl⟩ | ⟨h1, rfl⟩); exact (hK.2.1.h c h1).h () h2; exact hK.2.2.h () h1)
theorem L_RParse {s : List UInt8} {n : Nat} {h : Hp} {K : CallK} (hK : S_P s K n h) : CallE Tryd.prog 15 [.d (.str s)] n h K :=
  call_data (K_RParse0 s hK.1.h) rfl (by rintro v (⟨c, h1, h2, rfl⟩ | ⟨h1, rfl⟩); exact (hK.2.1.h c h1).h () h2; exact hK.2.2.h () h1)
theorem T03_inj' {c c' : Int} (h : T03 c = T03 c') (hc : I64 c) (hc' : I64 c') : c = c' := T03_inj hc hc' h
theorem T03_ne {a c : Int} (h : ¬ a = c) (e : T03 a = T03 c) (ha : I64 a) (hc : I64 c) : False := h (T03_inj ha hc e)
def C4 : CallS := fun f args n h K => match f with
  | 13 => (match args with | [.d (.int .i64 c)] => S_Text c K n h | _ => False)
  | 14 => (match args with | [.d (.str s)] => S_P s K n h | _ => False)
  | 15 => (match args with | [.d (.str s)] => S_P s K n h | _ => False)
  | 16 => (match args with | [.d (.int .i64 c)] => S_Text c K n h | _ => False)
  | 12 => (match args with | [] => S_wakes K n h | _ => False)
  | _ => False
theorem C4_ok : ∀ f args n h K, C4 f args n h K → CallE Tryd.prog f args n h K := by
  intro f args n h K hc
  unfold C4 at hc
  split at hc
  · split at hc
    · exact K_Text1 hc
    · exact hc.elim
  · split at hc
    · exact L_Parse hc
    · exact hc.elim
  · split at hc
    · exact L_RParse hc
    · exact hc.elim
  · split at hc
    · exact L_RText hc
    · exact hc.elim
  · split at hc
    · exact L_wakes hc
    · exact hc.elim
  · exact hc.elim
theorem cut40 (s : List UInt8) : real.sub2 0 (real.minI (real.slen s) 40) (real.slen s) = true ∧ (real.ssub s 0 (real.minI (real.slen s) 40)).length ≤ 40 := by
  simp only [real]
  exact ⟨decide_eq_true (by omega), by simp; omega⟩
theorem K_CentsTells (c : Int) (hc : I64 c) (s : List UInt8) : CallE Tryd.prog 4 [.d (.int .i64 c), .d (.str s)] 0 [] (Gets fun v => v = .d (.bool true)) := by
  obtain ⟨h1, h2⟩ := cut40 s
  have hl := T03_len c hc
  refine call_fn tysOK orders (C := C4) C4_ok H0 Tryd.func4 (by kernel_rfl) (by kernel_rfl) ?_
  intro oBin oCmp oWrap oNeg oCom oBnot oBeq oPickB oPickI oPickS oInb oSub2 oMinI oMaxI oSlen oSidx oScat oSsub oScmp oScok oLen oCI oCB oCS oCL oOkR oApp oApok oSub oSetc oRep oMkok oNthI oNthB oNthS oIteI oIteB oIteS oB2s oS2b oAllB oWf oDeq ho; cbv
  (repeat (any_goals (first
    | with_reducible refine And.intro ?_ ?_
    | exact True.intro
    | with_reducible exact rfl
    | (with_reducible refine Nd.mk ?_; try dsimp only)
    | (with_reducible refine Al.mk (fun x hx => ?_); cbv)
    | (with_reducible refine hK' _ ?_; clear hK' K'; cbv)
    | (with_reducible refine brA.yes (by first | assumption | exact rfl | (simp only [show oCmp = real.cmp from congrArg Ar.cmp ho, show oBin = real.bin from congrArg Ar.bin ho, show oScmp = real.scmp from congrArg Ar.scmp ho, show oPickB = real.pickB from congrArg Ar.pickB ho]; decide)) ?_; cbv)
    | (with_reducible refine brA.no (by first | assumption | exact rfl | (simp only [show oCmp = real.cmp from congrArg Ar.cmp ho, show oBin = real.bin from congrArg Ar.bin ho, show oScmp = real.scmp from congrArg Ar.scmp ho, show oPickB = real.pickB from congrArg Ar.pickB ho]; decide)) ?_; cbv)
    | (with_reducible refine bcase (fun hb => ?_) (fun hb => ?_) <;> cbv)
    | (intro K' hK'; cbv))))
  all_goals ((try clear hK' K'); cases ho; (try simp only [nc1] at *); (try simp only [Int.ofNat_eq_natCast] at *))
  all_goals (generalize real.ssub s 0 (real.minI (real.slen s) 40) = u at *)
  all_goals (try first | exact h1 | exact hc | assumption | (simp only [real] at *; omega) | (subst_vars; omega))
  all_goals (simp only [real, rCmp, rScmp, Bool.cond_true, Bool.cond_false, bne_iff_ne, ne_eq, bne_eq_false_iff_eq, beq_iff_eq, beq_eq_false_iff_ne, Bool.not_true, Bool.true_eq_false, Bool.false_eq_true, not_true_eq_false, not_false_eq_true] at *)
  all_goals (try contradiction)
  all_goals (clear hl h1 h2)
  all_goals (try subst_vars)
  all_goals first
    | exact absurd rfl ((by assumption : noT (T03 c)) c hc)
    | exact absurd rfl ((by assumption : noT (T03 _)) _ (by assumption))
    | exact (T03_ne (by assumption) (by assumption) (by assumption) hc).elim
    | (have e1 := T03_inj' (by assumption) (by assumption) (by assumption)
       subst e1
       simp at *; done)
    | (simp at *; done)
    | trace_state
end Go.Proofs.YtieoipmbcdfmeaaDoor.Ab
