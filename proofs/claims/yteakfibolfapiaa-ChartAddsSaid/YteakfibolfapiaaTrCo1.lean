/- ChartOrder, by the executor: what wakes says. -/
import Derived.Test.YteakfibolfapiaaTrCh2
namespace Go.Proofs.Yteakfibolfapiaa.Ab
open Go Go.RowKit Go.Sort
set_option linter.unusedVariables false
set_option linter.unusedSimpArgs false
set_option maxRecDepth 100000
set_option maxHeartbeats 8000000
def C4 : CallS := fun f args n h K => match f with
  | 8 => (match args with | [] => S_New K n h | _ => False)
  | 9 => (match args with | [.ptr i 0, .d (.agg [.int .i64 c, .int .u8 k, .str s])] => S_Add i c k s K n h | _ => False)
  | 32 => (match args with | [.ptr i 0, .d (.int .i64 c)] => S_Get i c K n h | _ => False)
  | 10 => (match args with | [.ptr i 0] => S_List i K n h | _ => False)
  | _ => False
theorem C4_ok : ∀ f args n h K, C4 f args n h K → CallE Try.prog f args n h K := by
  intro f args n h K hc
  unfold C4 at hc
  split at hc
  · split at hc
    · exact L_New hc
    · exact hc.elim
  · split at hc
    · exact L_Add hc
    · exact hc.elim
  · split at hc
    · exact L_Get hc
    · exact hc.elim
  · split at hc
    · exact L_List hc
    · exact hc.elim
  · exact hc.elim
def mCash : ML := [(10, acV 10 1 [67, 97, 115, 104])]
theorem e1 : addE [] 10 1 [67, 97, 115, 104] = 0 := by decide
theorem m1 : addC [] 10 1 [67, 97, 115, 104] = mCash := by rw [addC, if_pos e1]; rfl
theorem e2 : addE mCash 0 0 [] = 2 := by decide
theorem m2 : addC mCash 0 0 [] = mCash := by rw [addC, if_neg (by rw [e2]; decide)]
theorem gC_nil : gC [] := ⟨fun p hp => by cases hp⟩
theorem gC_cash : gC mCash := ⟨fun p hp => by
  simp only [mCash, List.mem_singleton] at hp
  subst hp
  exact ⟨_, _, rfl⟩⟩
theorem list_len {m : ML} {rows : List (List D)} (h : isList m rows) : rows.length = m.length := by
  obtain ⟨xs, h1, -, rfl⟩ := h
  have := h1.length_eq
  simpa using this
theorem K_wakes0 : CallE Try.prog 11 [] 0 [] (fun v n h => Nd (fun _ => Fin 0 (Gets fun v => v = .d (.bool true)) v n h)) := by
  refine call_fn tysOK orders (C := C4) C4_ok H0 Try.func11 (by kernel_rfl) (by kernel_rfl) ?_
  intro oBin oCmp oWrap oNeg oCom oBnot oBeq oPickB oPickI oPickS oInb oSub2 oMinI oMaxI oSlen oSidx oScat oSsub oScmp oScok oLen oCI oCB oCS oCL oOkR oApp oApok oSub oSetc oRep oMkok oNthI oNthB oNthS oIteI oIteB oIteS oB2s oS2b oAllB oWf oDeq oMlen oMhas oMI oMB oMS oMok oMput oMdel oSgo oSru oSnx ho; cbv
  (repeat (any_goals (first
    | with_reducible refine And.intro ?_ ?_
    | exact True.intro
    | with_reducible exact rfl
    | (with_reducible refine Nd.mk ?_; try dsimp only)
    | (with_reducible refine Pz.mk ?_; cbv)
    | (with_reducible refine RgOK.mk ?_; kernel_rfl)
    | (with_reducible refine OrOK.mk ?_; kernel_rfl)
    | (with_reducible refine Al.mk (fun x hx => ?_); cbv)
    | (with_reducible refine hK' _ ?_; clear hK' K'; cbv)
    | (with_reducible refine brA.yes (by first | assumption | exact rfl | (simp only [show oCmp = real.cmp from congrArg Ar.cmp ho, show oBin = real.bin from congrArg Ar.bin ho, show oScmp = real.scmp from congrArg Ar.scmp ho, show oPickB = real.pickB from congrArg Ar.pickB ho]; decide)) ?_; cbv)
    | (with_reducible refine brA.no (by first | assumption | exact rfl | (simp only [show oCmp = real.cmp from congrArg Ar.cmp ho, show oBin = real.bin from congrArg Ar.bin ho, show oScmp = real.scmp from congrArg Ar.scmp ho, show oPickB = real.pickB from congrArg Ar.pickB ho]; decide)) ?_; cbv)
    | (with_reducible refine bcase (fun hb => ?_) (fun hb => ?_) <;> cbv)
    | (intro K' hK'; cbv))))
  all_goals ((try clear hK' K'); cases ho; (try simp only [nc1] at *); (try simp only [Int.ofNat_eq_natCast] at *))
  all_goals subst_vars
  all_goals (try simp only [e1, m1, e2, m2] at *)
  all_goals first
    | omega
    | with_reducible exact gC_nil
    | with_reducible exact gC_cash
    | exact (show mCash.length ≤ 1000 by decide)
    | (have hl := list_len hx
       refine fin_b ?_
       have e : real.len _ = 1 := show (List.length _ : Int) = 1 by rw [hl]; rfl
       rw [e]
       rfl)
    | exact absurd ‹real.cmp BinOp.eql 0 0 = false› (by decide)
    | exact absurd ‹real.pickB true (real.cmp BinOp.eql 2 2) false = false› (by decide)
    | exact absurd ‹real.pickB true (real.mhas mCash 10) false = false› (by decide)
    | exact absurd ‹real.pickB true (real.scmp BinOp.eql (real.mS mCash 10 2) [67, 97, 115, 104]) false = false› (by decide)
    | trace_state
def S_wakes (K : CallK) (n : Nat) (h : Hp) : Prop := K (.d (.bool true)) n h
theorem L_wakes {n : Nat} {h : Hp} {K : CallK} (hK : S_wakes K n h) : CallE Try.prog 11 [] n h K := call_data (CallE.fin K_wakes0) rfl (by rintro v rfl; exact hK)
end Go.Proofs.Yteakfibolfapiaa.Ab
