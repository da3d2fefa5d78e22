/- The law ShiftReports: for every input the call returns true, and the arguments read as before; no condition but what the variables of the library hold, which the card ties to the program's text. -/
import Derived.Test.YtjkfkgpdlflbhaaDoorCards
import Derived.Test.YtjkfkgpdlflbhaaDoorTie
import Derived.Test.YtjkfkgpdlflbhaaDoorTrSayShiftReports
import Derived.Test.YtjkfkgpdlflbhaaDoorTrWalkShiftReports
import Derived.Test.YtjkfkgpdlflbhaaDoorTrLaid
import Derived.SevenTiedAt
import Derived.JoinedOf
import Derived.WalkKit
import Derived.ProofKit
import Derived.OpenShut
import Derived.ShutString
import Derived.ChangeOld
import Derived.Below
import Derived.SizedLaws
namespace Go.Proofs.YtjkfkgpdlflbhaaDoor.RowShiftReports
open Go.ChangeShapes Go.WideShapes Go.ChangeAt Go.RowKit
open Go.ChangeMaps (open_string shut_string)
set_option linter.unusedVariables false
theorem own : ownKnob Tryd.prog.godebug = none := by kernel_rfl
theorem laidOut : laidOutB Tryd.prog = true := by kernel_rfl
set_option maxRecDepth 100000 in
theorem lifted (os : Os) (started : os.Started) (H : Type) (enc : TypeId × Value → H) :
    ReturnsInHanded {} Tryd.checked os 3 .any (fun w args => (Rows.shiftReportsSpec.pre enc Tryd.prog Tryd.f3 Rows.shiftReportsRow.domain false w args ∧ laidMet Tryd.prog Ab.laid5 w) ∧ sizedMet enc Tryd.prog Tryd.f3 (OpenSpec.ofChange Rows.shiftReportsSpec) false w args) (Rows.shiftReportsSpec.post enc Tryd.prog Tryd.f3 false true false false) := by
  refine returnsInHanded_of_change_and (C := Tryd.checked) (X := fun w _ => laidMet Tryd.prog Ab.laid5 w) (fun _ _ _ hh h => h.of_heap hh) own started (by kernel_rfl) Tryd.func3
    (ChangeSpec.witness_at (enc := enc) (C := Tryd.checked) (os := os) (X := fun w _ => laidMet Tryd.prog Ab.laid5 w) false (Ab.laidWorld os) #[.slice none 0 0, .int .i64 0] 8 rfl (by kernel_rfl) (by kernel_rfl) (by kernel_rfl) (by kernel_rfl) (by kernel_rfl) (Ab.laidWorld_met os _)) ?_
  intro W base args ds gs before hval0 hW hcnd hsz0 hL _
  have hJ := Ab.J_of_laid hL
  have hsz : (DataW.weightsEach Tryd.prog (Tryd.f3.params.toList ++ Rows.shiftReportsSpec.plain.varTypes Tryd.prog) (ds ++ gs)).all (· ≤ reachBytes) = true := hsz0
  have hval : ∀ (j : Nat) t v, Tryd.f3.params[j]? = some t → args[j]? = some v → Value.okWide Tryd.prog W .any base t v := hval0
  have hW' := hW
  obtain ⟨p, q, hA0, hV, rfl, hfz, hnd⟩ := hW
  have hA : DataW.TrodAll enc Tryd.prog W 0 (fun _ => true) true Tryd.f3.params.toList args.toList ds p := hA0
  rw [Tryd.params3] at hA hval hsz
  obtain ⟨v0, vs0, d0, ds0, p0, q0, hargs, rfl, rfl, h0, tt0⟩ := trodAll_cons hA
  obtain ⟨v1, vs1, d1, ds1, p1, q1, rfl, rfl, rfl, h1, tt1⟩ := trodAll_cons tt0
  obtain ⟨rfl, rfl, rfl⟩ := trodAll_nil tt1
  obtain rfl : args = #[v0, v1] := by cases args; simp_all
  obtain ⟨rfl, rfl⟩ := trodVars_none hV
  have k0 := h0
  have lt0 : ∀ x ∈ p0, x.block < W.heap.size := by obtain ⟨m, hm⟩ := k0; exact DataW.trod_lt m _ _ _ hm
  obtain ⟨a0, r0, cap0, rfl, w0⟩ := Tr.open_flat_slice (n := 8) (ks := [(.int .i64), (.int .u8), (.int .i64)]) Tryd.underlying22 (by kernel_rfl) (by kernel_rfl) (by decide) (hval 0 22 v0 rfl rfl) h0
  obtain ⟨n1, rfl, rfl, rfl, w1⟩ := open_int Tryd.underlying3 (hval 1 3 v1 rfl rfl) h1
  clear hA0 hval0 hsz0 hsz
  refine (walk_ShiftReports a0 r0 cap0 n1 W hJ w0 w1).mono fun e W' ⟨he, bel⟩ => ?_
  subst he
  exact ⟨_, rfl, _, _, _, [], _, [], hW', trodAll_mk1 (shut_bool Tryd.underlying4 _), (trodAll_cons_mk (Below.trod laidOut (by kernel_rfl) (of_decide_eq_true (by kernel_rfl)) k0 bel lt0) (trodAll_cons_mk (shut_int Tryd.underlying3 w1) trodAll_mk0)), rfl, bel.frame _, fun h => by cases h⟩
theorem over : Rows.shiftReportsRow.holds Tryd.pinned (OpenSpec.ofChange Rows.shiftReportsSpec) :=
  OpenClaim.holds_of_wide 3 Tryd.f3 rfl rfl rfl rfl rfl rfl rfl ⟨rfl, rfl, rfl, rfl, rfl⟩ rfl rfl rfl rfl rfl (by kernel_rfl) Tryd.func3 (by kernel_rfl)
    (of_decide_eq_true (by kernel_rfl)) (by unfold Func.isWrapper; first | (rw [if_pos (by decide +kernel)]; kernel_rfl) | (rw [if_neg (by decide +kernel)]; exact ⟨rfl, rfl⟩))
    (fun os started H enc _ => lifted os started H enc)
end Go.Proofs.YtjkfkgpdlflbhaaDoor.RowShiftReports
namespace Go.Proofs.YtjkfkgpdlflbhaaDoor
/-- The row, under a short name, for the claim. -/
theorem shiftReports_holds : Rows.ShiftReportsSaid := RowShiftReports.over
#print axioms shiftReports_holds
/-- THE TIED CARD. -/
theorem shiftReportsCard_holds : Rows.ShiftReportsCardSaid :=
  Claim7.holds_tied_plain_at .later [] [.data, .data, .data] true (true, "c7f23d383bdaa1de86169a0f52fbba1b25e49da28cfeb89dcb0ebc724adf48bc") false
    shiftReports_holds (fun _ h => by cases h) (by kernel_rfl) (fun _ h => by cases h) shiftReports_row_tie rfl ⟨rfl, rfl⟩ (by kernel_rfl) rfl
    (fun f fn hf hfn => by
      obtain rfl : f = 3 := Option.some.inj ((show Tryd.prog.funcNamed Rows.shiftReportsRow.func = some 3 by kernel_rfl).symm.trans hf) |>.symm
      obtain rfl : fn = Tryd.f3 := (Option.some.inj (Tryd.func3.symm.trans hfn)).symm
      refine ⟨by kernel_rfl, fun j t ht => ?_⟩
      have ha : (Tryd.f3.params.toList.all fun t => !Tryd.prog.wantsStandIn t) = true := by kernel_rfl
      have hm : (!Tryd.prog.wantsStandIn t) = true := List.all_eq_true.1 ha t (List.mem_of_getElem? (by rw [Array.getElem?_toList]; exact ht))
      show Tryd.prog.wantsStandIn t = false
      cases hq : Tryd.prog.wantsStandIn t
      · rfl
      · rw [hq] at hm; cases hm)
    (by kernel_rfl)
#print axioms shiftReportsCard_holds
end Go.Proofs.YtjkfkgpdlflbhaaDoor
