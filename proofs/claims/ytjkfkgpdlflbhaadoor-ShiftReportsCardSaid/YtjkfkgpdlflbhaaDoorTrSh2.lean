/- Shifts, by the executor: New, End, Add. -/
import Derived.Test.YtjkfkgpdlflbhaaDoorTrSh1
namespace Go.Proofs.YtjkfkgpdlflbhaaDoor.Ab
open Go Go.RowKit Go.Sort
set_option linter.unusedVariables false
set_option linter.unusedSimpArgs false
set_option maxRecDepth 100000
set_option maxHeartbeats 4000000
def S_Totals (i : Nat) (m : Int) (K : CallK) (n : Nat) (h : Hp) : Prop := pat h i fun q => Nd (fun _ => i < n ∧ gQ q ∧ I64 m) ∧ Al (fun r => r = (totOf q m).1) fun r => Al (fun b => b = (totOf q m).2) fun b => K (.tup [.d (.agg (rD r)), .d (.bool b)]) n (outI i h q)
theorem L_Totals {i n : Nat} {m : Int} {h : Hp} {K : CallK} (hK : S_Totals i m K n h) : CallE Tryd.prog 11 [.ptr i 0, .d (.int .i64 m)] n h K := by
  obtain ⟨q, hg, ⟨⟨hi, g, hm⟩⟩, hk⟩ := pat_elim hK
  refine call_recv (K_Totals0 q g m hm) rfl (qC_ids q) hi hg ?_
  rintro v n1 h1 ⟨⟨rfl⟩, rfl, rfl⟩ -
  exact (hk.h _ rfl).h _ rfl
/-! New -/
def q0 : Q := ⟨1, false, 0, 0, 0, 0, 0, 0, .nilsl⟩
theorem q0_g : gQ q0 := ⟨⟨by decide, by decide⟩, ⟨by decide, by decide⟩, by unfold I64 q0; simp, .inl rfl, by simp [q0, rowsD], by simp [q0, rowsD]⟩
theorem K_New0 : CallE Tryd.prog 4 [.d (.int .i64 3)] 0 [] (fun v n h => Nd (fun _ => v = .tup [.ptr 0 0, .d (.int .i64 0)]) ∧ n = 1 ∧ h = [(0, .cells (qC q0))]) := by
  refine call_fn tysOK orders (C := C0) C0_ok H0 Tryd.func4 (by kernel_rfl) (by kernel_rfl) ?_
  intro oBin oCmp oWrap oNeg oCom oBnot oBeq oPickB oPickI oPickS oInb oSub2 oMinI oMaxI oSlen oSidx oScat oSsub oScmp oScok oLen oCI oCB oCS oCL oOkR oApp oApok oSub oSetc oRep oMkok oNthI oNthB oNthS oIteI oIteB oIteS oB2s oS2b oAllB oWf oDeq ho; cbv
  (repeat (any_goals (first
    | with_reducible refine And.intro ?_ ?_
    | exact True.intro
    | with_reducible exact rfl
    | (with_reducible refine Nd.mk ?_; try dsimp only)
    | (with_reducible refine Pz.mk ?_; cbv)
    | (with_reducible refine RgOK.mk ?_; kernel_rfl)
    | (with_reducible refine OrOK.mk ?_; kernel_rfl)
    | (with_reducible refine Al.mk (fun x hx => ?_); cbv)
    | (with_reducible refine hK' _ ?_; clear hK' K'; cbv)
    | (with_reducible refine brA.yes (by first | assumption | exact rfl | (simp only [show oCmp = real.cmp from congrArg Ar.cmp ho, show oBin = real.bin from congrArg Ar.bin ho, show oScmp = real.scmp from congrArg Ar.scmp ho, show oPickB = real.pickB from congrArg Ar.pickB ho]; decide)) ?_; cbv)
    | (with_reducible refine brA.no (by first | assumption | exact rfl | (simp only [show oCmp = real.cmp from congrArg Ar.cmp ho, show oBin = real.bin from congrArg Ar.bin ho, show oScmp = real.scmp from congrArg Ar.scmp ho, show oPickB = real.pickB from congrArg Ar.pickB ho]; decide)) ?_; cbv)
    | (with_reducible refine bcase (fun hb => ?_) (fun hb => ?_) <;> cbv)
    | (intro K' hK'; cbv))))
/-! Clone -/
theorem rows_apok (l l' : List (List D)) (hl : l.length + l'.length ≤ 10) (h : ∀ r ∈ l', gR r) : real.apok l l' 6 48 = true := by
  simp only [real, Bool.and_eq_true, decide_eq_true_eq, List.all_eq_true]
  refine ⟨⟨by unfold maxLen; omega, by omega⟩, fun r hr => ?_⟩
  obtain ⟨x, a, b, c, d, e, rfl, -⟩ := h r hr
  simp [flatD]
theorem K_Clone0 (l : List (List D)) (hl : l.length ≤ 3 ∧ ∀ r ∈ l, gR r) : CallE Tryd.prog 16 [.d (.imm l)] 0 [] (fun v n h => Nd (fun _ => v = .d .nilsl ∧ l = []) ∧ n = 0 ∧ h = [] ∨ Nd (fun _ => True) ∧ v = .sl 1 ∧ n = 2 ∧ h = [(1, .row 6 l)]) := by
  refine call_fn tysOK orders (C := C0) C0_ok ⟨[], [(3, 0)], 0⟩ Tryd.func16 (by kernel_rfl) (by kernel_rfl) ?_
  intro oBin oCmp oWrap oNeg oCom oBnot oBeq oPickB oPickI oPickS oInb oSub2 oMinI oMaxI oSlen oSidx oScat oSsub oScmp oScok oLen oCI oCB oCS oCL oOkR oApp oApok oSub oSetc oRep oMkok oNthI oNthB oNthS oIteI oIteB oIteS oB2s oS2b oAllB oWf oDeq ho; cbv
  (repeat (any_goals (first
    | with_reducible refine And.intro ?_ ?_
    | exact True.intro
    | with_reducible exact rfl
    | (with_reducible refine Nd.mk ?_; try dsimp only)
    | (with_reducible refine Pz.mk ?_; cbv)
    | (with_reducible refine RgOK.mk ?_; kernel_rfl)
    | (with_reducible refine OrOK.mk ?_; kernel_rfl)
    | (with_reducible refine Al.mk (fun x hx => ?_); cbv)
    | (with_reducible refine hK' _ ?_; clear hK' K'; cbv)
    | (with_reducible refine brA.yes (by first | assumption | exact rfl | (simp only [show oCmp = real.cmp from congrArg Ar.cmp ho, show oBin = real.bin from congrArg Ar.bin ho, show oScmp = real.scmp from congrArg Ar.scmp ho, show oPickB = real.pickB from congrArg Ar.pickB ho]; decide)) ?_; cbv)
    | (with_reducible refine brA.no (by first | assumption | exact rfl | (simp only [show oCmp = real.cmp from congrArg Ar.cmp ho, show oBin = real.bin from congrArg Ar.bin ho, show oScmp = real.scmp from congrArg Ar.scmp ho, show oPickB = real.pickB from congrArg Ar.pickB ho]; decide)) ?_; cbv)
    | (with_reducible refine bcase (fun hb => ?_) (fun hb => ?_) <;> cbv)
    | (intro K' hK'; cbv))))
  all_goals ((try clear hK' K'); cases ho; (try simp only [nc1] at *); (try simp only [Int.ofNat_eq_natCast] at *))
  · exact .inl ⟨⟨trivial, hx hb⟩, trivial⟩
  · exact rows_apok [] l (by have := hl.1; simp; omega) hl.2
  · exact .inr ⟨⟨trivial⟩, by simp [real]⟩
theorem K_CloneN0 : CallE Tryd.prog 16 [.d .nilsl] 0 [] (Gets fun v => v = .d .nilsl) := by
  refine call_fn tysOK orders (C := C0) C0_ok ⟨[], [(3, 0)], 0⟩ Tryd.func16 (by kernel_rfl) (by kernel_rfl) ?_
  intro oBin oCmp oWrap oNeg oCom oBnot oBeq oPickB oPickI oPickS oInb oSub2 oMinI oMaxI oSlen oSidx oScat oSsub oScmp oScok oLen oCI oCB oCS oCL oOkR oApp oApok oSub oSetc oRep oMkok oNthI oNthB oNthS oIteI oIteB oIteS oB2s oS2b oAllB oWf oDeq ho; cbv
  (repeat (any_goals (first
    | with_reducible refine And.intro ?_ ?_
    | exact True.intro
    | with_reducible exact rfl
    | (with_reducible refine Nd.mk ?_; try dsimp only)
    | (with_reducible refine Pz.mk ?_; cbv)
    | (with_reducible refine RgOK.mk ?_; kernel_rfl)
    | (with_reducible refine OrOK.mk ?_; kernel_rfl)
    | (with_reducible refine Al.mk (fun x hx => ?_); cbv)
    | (with_reducible refine hK' _ ?_; clear hK' K'; cbv)
    | (with_reducible refine brA.yes (by first | assumption | exact rfl | (simp only [show oCmp = real.cmp from congrArg Ar.cmp ho, show oBin = real.bin from congrArg Ar.bin ho, show oScmp = real.scmp from congrArg Ar.scmp ho, show oPickB = real.pickB from congrArg Ar.pickB ho]; decide)) ?_; cbv)
    | (with_reducible refine brA.no (by first | assumption | exact rfl | (simp only [show oCmp = real.cmp from congrArg Ar.cmp ho, show oBin = real.bin from congrArg Ar.bin ho, show oScmp = real.scmp from congrArg Ar.scmp ho, show oPickB = real.pickB from congrArg Ar.pickB ho]; decide)) ?_; cbv)
    | (with_reducible refine bcase (fun hb => ?_) (fun hb => ?_) <;> cbv)
    | (intro K' hK'; cbv))))
def rowsOK (l : List (List D)) : Prop := l.length ≤ 3 ∧ ∀ r ∈ l, gR r
def S_Clone (l : List (List D)) (K : CallK) (n : Nat) (h : Hp) : Prop := Nd (fun _ => rowsOK l) ∧ (Al (fun _ : Unit => l = []) fun _ => K (.d .nilsl) n h) ∧ K (.sl (n + 1)) (n + 2) (h ++ [(n + 1, .row 6 l)])
theorem L_Clone {l : List (List D)} {n : Nat} {h : Hp} {K : CallK} (hK : S_Clone l K n h) : CallE Tryd.prog 16 [.d (.imm l)] n h K := by
  obtain ⟨⟨hl⟩, h1, h2⟩ := hK
  refine call_frame (g := fun i => i) (K_Clone0 l hl) rfl rfl (fun i j hi => absurd hi (Nat.not_lt_zero _)) (fun i hi => absurd hi (Nat.not_lt_zero _)) (fun i o hm => by cases hm) (by intro j hj; cases hj) ?_
  rintro v n1 h3 - (⟨⟨rfl, hn⟩, rfl, rfl⟩ | ⟨-, rfl, rfl, rfl⟩)
  · rw [outs_zero]
    simp only [renH, renV, List.append_nil, Nat.sub_zero, Nat.add_zero]
    exact h1.h () hn
  · rw [outs_zero]
    exact h2
def S_CloneN (K : CallK) (n : Nat) (h : Hp) : Prop := K (.d .nilsl) n h
theorem L_CloneN {n : Nat} {h : Hp} {K : CallK} (hK : S_CloneN K n h) : CallE Tryd.prog 16 [.d .nilsl] n h K := call_data K_CloneN0 rfl (by rintro v rfl; exact hK)
def C7 : CallS := fun f args n h K => match f with
  | 16 => (match args with | [.d (.imm l)] => S_Clone l K n h | [.d .nilsl] => S_CloneN K n h | _ => False)
  | _ => False
theorem C7_ok : ∀ f args n h K, C7 f args n h K → CallE Tryd.prog f args n h K := by
  intro f args n h K hc
  unfold C7 at hc
  split at hc
  · split at hc
    · exact L_Clone hc
    · exact L_CloneN hc
    · exact hc.elim
  · exact hc.elim
/-- The last three of a row. -/
def loC (R : List (List D)) : Int := real.maxI 0 (real.bin .sub .i64 (real.len R) 3)
theorem cut3 {R : List (List D)} (hR : ∀ r ∈ R, gR r) (h1 : 1 ≤ R.length) (h4 : R.length ≤ 4) : real.sub2 (loC R) (real.len R) (real.len R) = true ∧ real.sub R (loC R) (real.len R) ≠ [] ∧ (real.sub R (loC R) (real.len R)).length ≤ 3 ∧ ∀ r ∈ real.sub R (loC R) (real.len R), gR r := by
  have e : loC R = ((R.length - 3 : Nat) : Int) := by
    show max 0 (IntKind.i64.wrap ((R.length : Int) - 3)) = _
    rw [wrap_i64 _ (by omega) (by omega)]
    omega
  have es : real.sub R (loC R) (real.len R) = R.drop (R.length - 3) := by
    rw [e]
    simp only [real, Int.toNat_natCast, List.take_length]
  rw [es]
  refine ⟨?_, ?_, ?_, ?_⟩
  · rw [e]; exact decide_eq_true ⟨by omega, by show _ ≤ (R.length : Int); omega, Int.le_refl _⟩
  · intro h
    have := congrArg List.length h
    rw [List.length_drop] at this
    simp at this
    omega
  · rw [List.length_drop]; omega
  · exact fun r hr => hR r (List.mem_of_mem_drop hr)
theorem now_g {q : Q} (g : gQ q) : gR (nowR q) := ⟨_, _, _, _, _, _, rfl, by have := g.ct; unfold I64; omega, g.i64⟩
theorem app_g {q : Q} (g : gQ q) {l : List (List D)} (hl : l.length ≤ 3 ∧ ∀ r ∈ l, gR r) : (∀ r ∈ real.app l [nowR q], gR r) ∧ 1 ≤ (real.app l [nowR q]).length ∧ (real.app l [nowR q]).length ≤ 4 := by
  refine ⟨fun r hr => ?_, ?_, ?_⟩
  · have hr : r ∈ l ++ [nowR q] := hr
    rw [List.mem_append, List.mem_singleton] at hr
    rcases hr with hr | rfl
    · exact hl.2 r hr
    · exact now_g g
  · show 1 ≤ (l ++ [nowR q]).length; simp
  · show (l ++ [nowR q]).length ≤ 4; have := hl.1; simp; omega
theorem end_q {q : Q} (g : gQ q) {l : List (List D)} (hl : l.length ≤ 3 ∧ ∀ r ∈ l, gR r) : gQ { q with op := false, cl := .imm (real.sub (real.app l [nowR q]) (loC (real.app l [nowR q])) (real.len (real.app l [nowR q]))) } := by
  obtain ⟨h1, h2, h3⟩ := app_g g hl
  obtain ⟨-, k1, k2, k3⟩ := cut3 h1 h2 h3
  exact ⟨g.nx, g.ct, g.i64, .inr ⟨_, rfl, k1⟩, k2, k3⟩
theorem K_End0 (q : Q) (g : gQ q) : CallE Tryd.prog 7 [.ptr 0 0] 1 [(0, .cells (qC q))] (fun v n h => n = 1 ∧ Nd (fun _ => ∃ q', gQ q' ∧ h = [(0, .cells (qC q'))])) := by
  have g' := g
  obtain ⟨nx, op, ct, a, b, c, d, e, cl⟩ := q
  obtain ⟨hnx, hct, hi, hcl, hrows⟩ := g
  simp only at hcl hrows
  have gn := now_g g'
  rcases hcl with rfl | ⟨l, rfl, hl⟩
  · refine call_fn tysOK orders (C := C7) C7_ok H0 Tryd.func7 (by kernel_rfl) (by kernel_rfl) ?_
    intro oBin oCmp oWrap oNeg oCom oBnot oBeq oPickB oPickI oPickS oInb oSub2 oMinI oMaxI oSlen oSidx oScat oSsub oScmp oScok oLen oCI oCB oCS oCL oOkR oApp oApok oSub oSetc oRep oMkok oNthI oNthB oNthS oIteI oIteB oIteS oB2s oS2b oAllB oWf oDeq ho; cbv
    (repeat (any_goals (first
    | with_reducible refine And.intro ?_ ?_
    | exact True.intro
    | with_reducible exact rfl
    | (with_reducible refine Nd.mk ?_; try dsimp only)
    | (with_reducible refine Pz.mk ?_; cbv)
    | (with_reducible refine RgOK.mk ?_; kernel_rfl)
    | (with_reducible refine OrOK.mk ?_; kernel_rfl)
    | (with_reducible refine Al.mk (fun x hx => ?_); cbv)
    | (with_reducible refine hK' _ ?_; clear hK' K'; cbv)
    | (with_reducible refine brA.yes (by first | assumption | exact rfl | (simp only [show oCmp = real.cmp from congrArg Ar.cmp ho, show oBin = real.bin from congrArg Ar.bin ho, show oScmp = real.scmp from congrArg Ar.scmp ho, show oPickB = real.pickB from congrArg Ar.pickB ho]; decide)) ?_; cbv)
    | (with_reducible refine brA.no (by first | assumption | exact rfl | (simp only [show oCmp = real.cmp from congrArg Ar.cmp ho, show oBin = real.bin from congrArg Ar.bin ho, show oScmp = real.scmp from congrArg Ar.scmp ho, show oPickB = real.pickB from congrArg Ar.pickB ho]; decide)) ?_; cbv)
    | (with_reducible refine bcase (fun hb => ?_) (fun hb => ?_) <;> cbv)
    | (intro K' hK'; cbv))))
    all_goals ((try clear hK' K'); cases ho; (try simp only [nc1] at *); (try simp only [Int.ofNat_eq_natCast] at *))
    all_goals (have ha := app_g g' hrows)
    all_goals first
      | exact ⟨_, g', rfl⟩
      | exact rows_apok [] [nowR _] (by simp) (by intro r hr; rw [List.mem_singleton] at hr; rw [hr]; exact gn)
      | exact (cut3 ha.1 ha.2.1 ha.2.2).1
      | exact ⟨_, end_q g' hrows, rfl⟩
      | trace_state
  · have hl0 := hrows.1
    refine call_fn tysOK orders (C := C7) C7_ok H0 Tryd.func7 (by kernel_rfl) (by kernel_rfl) ?_
    intro oBin oCmp oWrap oNeg oCom oBnot oBeq oPickB oPickI oPickS oInb oSub2 oMinI oMaxI oSlen oSidx oScat oSsub oScmp oScok oLen oCI oCB oCS oCL oOkR oApp oApok oSub oSetc oRep oMkok oNthI oNthB oNthS oIteI oIteB oIteS oB2s oS2b oAllB oWf oDeq ho; cbv
    (repeat (any_goals (first
    | with_reducible refine And.intro ?_ ?_
    | exact True.intro
    | with_reducible exact rfl
    | (with_reducible refine Nd.mk ?_; try dsimp only)
    | (with_reducible refine Pz.mk ?_; cbv)
    | (with_reducible refine RgOK.mk ?_; kernel_rfl)
    | (with_reducible refine OrOK.mk ?_; kernel_rfl)
    | (with_reducible refine Al.mk (fun x hx => ?_); cbv)
    | (with_reducible refine hK' _ ?_; clear hK' K'; cbv)
    | (with_reducible refine brA.yes (by first | assumption | exact rfl | (simp only [show oCmp = real.cmp from congrArg Ar.cmp ho, show oBin = real.bin from congrArg Ar.bin ho, show oScmp = real.scmp from congrArg Ar.scmp ho, show oPickB = real.pickB from congrArg Ar.pickB ho]; decide)) ?_; cbv)
    | (with_reducible refine brA.no (by first | assumption | exact rfl | (simp only [show oCmp = real.cmp from congrArg Ar.cmp ho, show oBin = real.bin from congrArg Ar.bin ho, show oScmp = real.scmp from congrArg Ar.scmp ho, show oPickB = real.pickB from congrArg Ar.pickB ho]; decide)) ?_; cbv)
    | (with_reducible refine bcase (fun hb => ?_) (fun hb => ?_) <;> cbv)
    | (intro K' hK'; cbv))))
    all_goals ((try clear hK' K'); cases ho; (try simp only [nc1] at *); (try simp only [Int.ofNat_eq_natCast] at *))
    all_goals (have ha := app_g g' hrows)
    all_goals first
      | exact ⟨_, g', rfl⟩
      | exact hrows
      | exact rows_apok _ [nowR _] (by have h9 : l.length ≤ 3 := hl0; simp; omega) (by intro r hr; rw [List.mem_singleton] at hr; rw [hr]; exact gn)
      | exact (cut3 ha.1 ha.2.1 ha.2.2).1
      | exact ⟨_, end_q g' hrows, rfl⟩
      | (subst_vars; first
          | exact absurd rfl hl
          | exact rows_apok [] [nowR _] (by simp) (by intro r hr; rw [List.mem_singleton] at hr; rw [hr]; exact gn))
      | trace_state
def S_End (i : Nat) (K : CallK) (n : Nat) (h : Hp) : Prop := pat h i fun q => Nd (fun _ => i < n ∧ gQ q) ∧ Al gQ fun q' => K .top n (outI i h q')
theorem L_End {i n : Nat} {h : Hp} {K : CallK} (hK : S_End i K n h) : CallE Tryd.prog 7 [.ptr i 0] n h K := by
  obtain ⟨q, hg, ⟨⟨hi, g⟩⟩, hk⟩ := pat_elim hK
  refine toTop (call_recv (K_End0 q g) rfl (qC_ids q) hi hg ?_)
  rintro v n1 h1 ⟨rfl, ⟨q', g', rfl⟩⟩ -
  exact hk.h _ g'
end Go.Proofs.YtjkfkgpdlflbhaaDoor.Ab
