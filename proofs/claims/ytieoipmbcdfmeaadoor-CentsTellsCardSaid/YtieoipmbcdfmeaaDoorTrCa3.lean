/- The reference's product; both differences. -/
import Derived.Test.YtieoipmbcdfmeaaDoorTrCa2
namespace Go.Proofs.YtieoipmbcdfmeaaDoor.Ab
open Go Go.RowKit Go.Sort
set_option linter.unusedVariables false
set_option linter.unusedSimpArgs false
set_option maxRecDepth 100000
set_option maxHeartbeats 4000000
def amtR (x : Int) (v : AV) : Prop := v = .tup [.d (.int .i64 (amt x)), .d (.int .i64 (amtE x))]
theorem i64_id {x : Int} (h : I64 x) : IntKind.i64.wrap x = x := wrap_i64 x h.1 h.2
theorem t_zero {a b : Int} (h : a = 0 ∨ b = 0) : amtR (a * b) (.tup [.d (.int .i64 0), .d (.int .i64 0)]) := by
  have e : a * b = 0 := by rcases h with rfl | rfl <;> simp
  rw [e]
  rfl
theorem t_over {x : Int} (h : ¬ I64 x) : amtR x (.tup [.d (.int .i64 0), .d (.int .i64 6)]) := by
  unfold amtR
  rw [(amt_no h).1, (amt_no h).2]
theorem t_fits {x : Int} (h : I64 x) : amtR x (.tup [.d (.int .i64 (IntKind.i64.wrap x)), .d (.int .i64 0)]) := by
  unfold amtR
  rw [(amt_yes h).1, (amt_yes h).2, i64_id h]
theorem t_div {a b : Int} (ha : I64 a) (hb : b ≠ 0) (h : ¬ IntKind.i64.wrap ((IntKind.i64.wrap (a * b)).tdiv b) = a) : ¬ I64 (a * b) := by
  intro hi
  rw [i64_id hi, Int.mul_tdiv_cancel _ hb, i64_id ha] at h
  exact h rfl
theorem t_mod {a b : Int} (h : ¬ (IntKind.i64.wrap (a * b)).tmod b = 0) : ¬ I64 (a * b) := by
  intro hi
  rw [i64_id hi, Int.mul_tmod_left] at h
  exact h rfl
theorem t_ok {a b : Int} (hb : b ≠ 0) (h1 : IntKind.i64.wrap ((IntKind.i64.wrap (a * b)).tdiv b) = a) (h2 : (IntKind.i64.wrap (a * b)).tmod b = 0) (h3 : ¬ (a = -9223372036854775808 ∧ b = -1)) : I64 (a * b) := by
  have hp := wrap_I64 (a * b)
  generalize IntKind.i64.wrap (a * b) = p at *
  have e : p = b * p.tdiv b := by
    have := Int.mul_tdiv_add_tmod p b
    omega
  by_cases hq : I64 (p.tdiv b)
  · rw [i64_id hq] at h1
    rw [h1] at e
    rw [Int.mul_comm, ← e]
    exact hp
  · exfalso
    have hle : (p.tdiv b).natAbs ≤ p.natAbs := by rw [Int.natAbs_tdiv p b]; exact Nat.div_le_self _ _
    unfold I64 at hp hq
    generalize hQ : p.tdiv b = q at *
    have hm : q.natAbs = 9223372036854775808 ∧ p = -9223372036854775808 := by omega
    obtain ⟨hm, hpm⟩ := hm
    have hq2 : q = 9223372036854775808 := by
      rcases Int.lt_or_le q 0 with h0 | h0
      · exfalso; omega
      · omega
    have hb1 : b = -1 := by
      rw [hq2, hpm] at e
      omega
    refine h3 ⟨?_, hb1⟩
    rw [hq2] at h1
    rw [← h1]
    decide
theorem K_RTimes0 (a b : Int) (ha : I64 a) (hb : I64 b) : CallE Tryd.prog 22 [.d (.int .i64 a), .d (.int .i64 b)] 0 [] (Gets fun v => amtR (a * b) v) := by
  refine call_fn tysOK orders (C := C0) C0_ok H0 Tryd.func22 (by kernel_rfl) (by kernel_rfl) ?_
  intro oBin oCmp oWrap oNeg oCom oBnot oBeq oPickB oPickI oPickS oInb oSub2 oMinI oMaxI oSlen oSidx oScat oSsub oScmp oScok oLen oCI oCB oCS oCL oOkR oApp oApok oSub oSetc oRep oMkok oNthI oNthB oNthS oIteI oIteB oIteS oB2s oS2b oAllB oWf oDeq ho; cbv
  (repeat (any_goals (first
    | with_reducible refine And.intro ?_ ?_
    | exact True.intro
    | with_reducible exact rfl
    | (with_reducible refine Nd.mk ?_; try dsimp only)
    | (with_reducible refine Al.mk (fun x hx => ?_); cbv)
    | (with_reducible refine hK' _ ?_; clear hK' K'; cbv)
    | (with_reducible refine brA.yes (by first | assumption | exact rfl | (simp only [show oCmp = real.cmp from congrArg Ar.cmp ho, show oBin = real.bin from congrArg Ar.bin ho, show oScmp = real.scmp from congrArg Ar.scmp ho, show oPickB = real.pickB from congrArg Ar.pickB ho]; decide)) ?_; cbv)
    | (with_reducible refine brA.no (by first | assumption | exact rfl | (simp only [show oCmp = real.cmp from congrArg Ar.cmp ho, show oBin = real.bin from congrArg Ar.bin ho, show oScmp = real.scmp from congrArg Ar.scmp ho, show oPickB = real.pickB from congrArg Ar.pickB ho]; decide)) ?_; cbv)
    | (with_reducible refine bcase (fun hb => ?_) (fun hb => ?_) <;> cbv)
    | (intro K' hK'; cbv))))
  all_goals ((try clear hK' K'); cases ho; (try simp only [real, rBin, rCmp, Op.intArith, decide_eq_true_eq, decide_eq_false_iff_not, ge_iff_le, gt_iff_lt, Bool.cond_true, Bool.cond_false, beq_iff_eq, beq_eq_false_iff_ne, bne_iff_ne, bne_eq_false_iff_eq, ne_eq, Bool.not_eq_true, Bool.false_eq_true, Bool.true_eq_false, not_true_eq_false, not_false_eq_true] at *); (try simp only [nc1] at *); (try simp only [Int.ofNat_eq_natCast] at *))
  all_goals (try contradiction)
  all_goals first
    | assumption
    | omega
    | exact t_zero (by omega)
    | exact t_over (t_div ha (by omega) (by assumption))
    | exact t_over (t_mod (by assumption))
    | exact t_fits (t_ok (by omega) (by assumption) (by assumption) (by omega))
    | (refine t_over ?_; subst_vars; unfold I64; omega)
    | trace_state
end Go.Proofs.YtieoipmbcdfmeaaDoor.Ab
