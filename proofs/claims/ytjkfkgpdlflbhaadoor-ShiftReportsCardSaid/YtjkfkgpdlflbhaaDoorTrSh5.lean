/- ShiftReports, by the executor. -/
import Derived.Test.YtjkfkgpdlflbhaaDoorTrSh4
namespace Go.Proofs.YtjkfkgpdlflbhaaDoor.Ab
open Go Go.RowKit Go.Sort
set_option linter.unusedVariables false
set_option linter.unusedSimpArgs false
set_option maxRecDepth 100000
set_option maxHeartbeats 8000000
def S_TotalsN (m : Int) (K : CallK) (n : Nat) (h : Hp) : Prop := K (.tup [.d (.agg [.int .i64 0, .int .i64 0, .int .i64 0, .int .i64 0, .int .i64 0, .int .i64 0]), .d (.bool false)]) n h
theorem L_TotalsN {m : Int} {n : Nat} {h : Hp} {K : CallK} (hK : S_TotalsN m K n h) : CallE Tryd.prog 11 [.d .nilp, .d (.int .i64 m)] n h K := call_data (K_TotalsN0 m) rfl (by rintro v rfl; exact hK)
def C15 : CallS := fun f args n h K => match f with
  | 11 => (match args with | [.d .nilp, .d (.int .i64 m)] => S_TotalsN m K n h | _ => False)
  | _ => False
theorem C15_ok : ∀ f args n h K, C15 f args n h K → CallE Tryd.prog f args n h K := by
  intro f args n h K hc
  unfold C15 at hc
  split at hc
  · split at hc
    · exact L_TotalsN hc
    · exact hc.elim
  · exact hc.elim
theorem K_LinesN0 (m : Int) : CallE Tryd.prog 10 [.d .nilp, .d (.int .i64 m)] 0 [] (fun v n h => Nd (fun _ => Fin 0 (Gets fun v => v = .d .nilsl) v n h)) := by
  refine call_fn tysOK orders (C := C15) C15_ok H0 Tryd.func10 (by kernel_rfl) (by kernel_rfl) ?_
  intro oBin oCmp oWrap oNeg oCom oBnot oBeq oPickB oPickI oPickS oInb oSub2 oMinI oMaxI oSlen oSidx oScat oSsub oScmp oScok oLen oCI oCB oCS oCL oOkR oApp oApok oSub oSetc oRep oMkok oNthI oNthB oNthS oIteI oIteB oIteS oB2s oS2b oAllB oWf oDeq ho; cbv
  (repeat (any_goals (first
    | with_reducible refine And.intro ?_ ?_
    | exact True.intro
    | with_reducible exact rfl
    | (with_reducible refine Nd.mk ?_; try dsimp only)
    | (with_reducible refine Pz.mk ?_; cbv)
    | (with_reducible refine RgOK.mk ?_; kernel_rfl)
    | (with_reducible refine OrOK.mk ?_; kernel_rfl)
    | (with_reducible refine Al.mk (fun x hx => ?_); cbv)
    | (with_reducible refine hK' _ ?_; clear hK' K'; cbv)
    | (with_reducible refine brA.yes (by first | assumption | exact rfl | (simp only [show oCmp = real.cmp from congrArg Ar.cmp ho, show oBin = real.bin from congrArg Ar.bin ho, show oScmp = real.scmp from congrArg Ar.scmp ho, show oPickB = real.pickB from congrArg Ar.pickB ho]; decide)) ?_; cbv)
    | (with_reducible refine brA.no (by first | assumption | exact rfl | (simp only [show oCmp = real.cmp from congrArg Ar.cmp ho, show oBin = real.bin from congrArg Ar.bin ho, show oScmp = real.scmp from congrArg Ar.scmp ho, show oPickB = real.pickB from congrArg Ar.pickB ho]; decide)) ?_; cbv)
    | (with_reducible refine bcase (fun hb => ?_) (fun hb => ?_) <;> cbv)
    | (intro K' hK'; cbv))))
  all_goals ((try clear hK' K'); cases ho; (try simp only [nc1] at *); (try simp only [Int.ofNat_eq_natCast] at *))
  all_goals first
    | exact ⟨⟨[], [], [0], [], 0⟩, .d .nilsl, 0, _, rfl, rfl, ⟨rfl⟩, rfl, rfl, rfl⟩
    | (simp [real] at hb; done)
    | trace_state
def S_LinesN (m : Int) (K : CallK) (n : Nat) (h : Hp) : Prop := K (.d .nilsl) n h
theorem L_LinesN {m : Int} {n : Nat} {h : Hp} {K : CallK} (hK : S_LinesN m K n h) : CallE Tryd.prog 10 [.d .nilp, .d (.int .i64 m)] n h K := call_data (CallE.fin (K_LinesN0 m)) rfl (by rintro v rfl; exact hK)
def S_New (k : Int) (K : CallK) (n : Nat) (h : Hp) : Prop := Nd (fun _ => k = 3) ∧ K (.tup [.ptr n 0, .d (.int .i64 0)]) (n + 1) (h ++ [(n, .cells (qC q0))])
theorem L_New {k : Int} {n : Nat} {h : Hp} {K : CallK} (hK : S_New k K n h) : CallE Tryd.prog 4 [.d (.int .i64 k)] n h K := by
  obtain ⟨⟨rfl⟩, hk⟩ := hK
  refine call_frame (g := fun i => i) K_New0 rfl rfl (fun i j hi => absurd hi (Nat.not_lt_zero _)) (fun i hi => absurd hi (Nat.not_lt_zero _)) (fun i o hm => by cases hm) (by intro j hj; cases hj) ?_
  rintro v n1 h1 - ⟨⟨rfl⟩, rfl, rfl⟩
  rw [outs_zero]
  exact hk
def S_wakes (K : CallK) (n : Nat) (h : Hp) : Prop := K (.d (.bool true)) n h
theorem L_wakes' {n : Nat} {h : Hp} {K : CallK} (hK : S_wakes K n h) : CallE Tryd.prog 5 [] n h K := L_wakes hK
def C3 : CallS := fun f args n h K => match f with
  | 4 => (match args with | [.d (.int .i64 k)] => S_New k K n h | _ => False)
  | 5 => (match args with | [] => S_wakes K n h | _ => False)
  | 6 => (match args with | [.ptr i 0] => S_Start i K n h | _ => False)
  | 7 => (match args with | [.ptr i 0] => S_End i K n h | _ => False)
  | 8 => (match args with | [.ptr i 0, .d (.int .u8 k), .d (.int .i64 a)] => S_Add i k a K n h | _ => False)
  | 9 => (match args with | [.ptr i 0] => S_Open i K n h | _ => False)
  | 10 => (match args with | [.ptr i 0, .d (.int .i64 m)] => S_Lines i m K n h | [.d .nilp, .d (.int .i64 m)] => S_LinesN m K n h | _ => False)
  | 11 => (match args with | [.ptr i 0, .d (.int .i64 m)] => S_Totals i m K n h | _ => False)
  | 12 => (match args with | [.d (.agg [.int .i64 x, .int .i64 a, .int .i64 b, .int .i64 c, .int .i64 d, .int .i64 e])] => S_of ⟨x, a, b, c, d, e⟩ K n h | _ => False)
  | 13 => (match args with | [.d (.agg [.int .i64 x, .int .i64 a, .int .i64 b, .int .i64 c, .int .i64 d, .int .i64 e])] => S_Till ⟨x, a, b, c, d, e⟩ K n h | _ => False)
  | 14 => (match args with | [.d (.int .i64 c)] => S_Text c K n h | _ => False)
  | 15 => (match args with | [.d (.int .i64 c)] => S_Itoa c K n h | _ => False)
  | _ => False
theorem C3_ok : ∀ f args n h K, C3 f args n h K → CallE Tryd.prog f args n h K := by
  intro f args n h K hc
  unfold C3 at hc
  split at hc
  · split at hc
    · exact L_New hc
    · exact hc.elim
  · split at hc
    · exact L_wakes' hc
    · exact hc.elim
  · split at hc
    · exact L_Start hc
    · exact hc.elim
  · split at hc
    · exact L_End hc
    · exact hc.elim
  · split at hc
    · exact L_Add hc
    · exact hc.elim
  · split at hc
    · exact L_Open hc
    · exact hc.elim
  · split at hc
    · exact L_Lines hc
    · exact L_LinesN hc
    · exact hc.elim
  · split at hc
    · exact L_Totals hc
    · exact hc.elim
  · split at hc
    · exact L_of (r := ⟨_, _, _, _, _, _⟩) hc
    · exact hc.elim
  · split at hc
    · exact L_RTill (r := ⟨_, _, _, _, _, _⟩) hc
    · exact hc.elim
  · split at hc
    · exact L_RText hc
    · exact hc.elim
  · split at hc
    · exact L_Itoa hc
    · exact hc.elim
  · exact hc.elim
/-- What is done to shifts. -/
def gAct (r : List D) : Prop := ∃ d k a, r = [.int .i64 d, .int .u8 k, .int .i64 a] ∧ I64 d ∧ (0 ≤ k ∧ k ≤ 255) ∧ I64 a
theorem acts_wf {l : List (List D)} (h : ∀ r ∈ l, gAct r) : real.wf l 3 = true := by
  simp only [real, rWf, List.all_eq_true]
  intro r hr
  obtain ⟨d, k, a, rfl, -⟩ := h r hr
  rfl
theorem acts_get {l : List (List D)} (h : ∀ r ∈ l, gAct r) {i : Nat} (hi : i < l.length) : gAct (l.getD i []) := by
  rw [List.getD, List.getElem?_eq_getElem hi]
  exact h _ (List.getElem_mem _)
theorem acts_ok {l : List (List D)} (h : ∀ r ∈ l, gAct r) {j : Int} {i : Nat} (hj : j = i) (hi : i < l.length) : real.okR l j 0 [.int .i64, .int .u8, .int .i64] = true := by
  subst hj
  obtain ⟨d, k, a, hr, -⟩ := acts_get h hi
  simp only [real, Int.toNat_natCast, hr]
  simp [rowOk, kdOk]
  omega
theorem acts_a {l : List (List D)} (h : ∀ r ∈ l, gAct r) {j : Int} {i : Nat} (hj : j = i) (hi : i < l.length) : I64 (real.cI l j 2) := by
  subst hj
  obtain ⟨d, k, a, hr, -, -, ha⟩ := acts_get h hi
  simp only [real, rCell, Int.toNat_natCast, hr]
  exact ha
theorem acts_cut {l : List (List D)} (h : ∀ r ∈ l, gAct r) : real.sub2 0 (real.minI (real.len l) 40) (real.len l) = true ∧ (real.sub l 0 (real.minI (real.len l) 40)).length ≤ 40 ∧ ∀ r ∈ real.sub l 0 (real.minI (real.len l) 40), gAct r := by
  simp only [real]
  refine ⟨decide_eq_true (by omega), by simp; omega, fun r hr => h r (List.mem_of_mem_take (List.mem_of_mem_drop hr))⟩
def gI (r : List D) : Prop := ∃ z, r = [.int .i64 z] ∧ I64 z
theorem sev_wf {l : List (List D)} (h : ∀ r ∈ l, gI r) : real.wf l 1 = true := by
  simp only [real, rWf, List.all_eq_true]
  intro r hr
  obtain ⟨z, rfl, -⟩ := h r hr
  rfl
theorem sev_get {l : List (List D)} (h : ∀ r ∈ l, gI r) {i : Nat} (hi : i < l.length) : gI (l.getD i []) := by
  rw [List.getD, List.getElem?_eq_getElem hi]
  exact h _ (List.getElem_mem _)
theorem sev_ok {l : List (List D)} (h : ∀ r ∈ l, gI r) {j : Int} {i : Nat} (hj : j = i) (hi : i < l.length) : real.okR l j 0 [.int .i64] = true := by
  subst hj
  obtain ⟨d, hr, -⟩ := sev_get h hi
  simp only [real, Int.toNat_natCast, hr]
  simp [rowOk, kdOk]
  omega
theorem sev_a {l : List (List D)} (h : ∀ r ∈ l, gI r) {j : Int} {i : Nat} (hj : j = i) (hi : i < l.length) : I64 (real.cI l j 0) := by
  subst hj
  obtain ⟨d, hr, ha⟩ := sev_get h hi
  simp only [real, rCell, Int.toNat_natCast, hr]
  exact ha
theorem inbL {l : List (List D)} {j : Int} {i : Nat} (hj : j = i) (hi : i < l.length) : real.inb j (real.len l) = true := by
  simp only [real, decide_eq_true_eq]; omega
theorem ltL {l : List (List D)} {j : Int} {i : Nat} (hj : j = i) (h : real.cmp .lss j (real.len l) = true) : i < l.length := by
  simp only [real, rCmp, decide_eq_true_eq] at h; omega
theorem addL {j : Int} {i : Nat} (hj : j = i) (hi : i < 1000) : real.bin .add .i64 j 1 = ((i + 1 : Nat) : Int) := by
  simp only [real, rBin]; rw [wrap_i64 _ (by omega) (by omega)]; omega
theorem sevs {m x : Int} (hm : I64 m) (hx : I64 x) : ∀ r ∈ ([[.int .i64 m], [.int .i64 x], [.int .i64 1], [.int .i64 2], [.int .i64 3], [.int .i64 4], [.int .i64 5]] : List (List D)), gI r := by
  intro r hr
  simp only [List.mem_cons, List.not_mem_nil, or_false] at hr
  rcases hr with rfl | rfl | rfl | rfl | rfl | rfl | rfl <;> exact ⟨_, rfl, by first | assumption | (unfold I64; omega)⟩
theorem opn_i64 {q : Q} (g : gQ q) : I64 (opn q) := by
  have := g.nx
  unfold opn I64
  cases q.op <;> simp <;> omega
theorem want_eq {q : Q} {M : Int} {r : R6} {w l : List UInt8} (hr : r = (totOf q M).1) (hw : w = bif M == opn q then [111, 112, 101, 110] else [99, 108, 111, 115, 101, 100])
    (hl : l = if amtE (tillV r) = 0 then [116, 105, 108, 108, 32] ++ T03 (amt (tillV r)) else [116, 105, 108, 108, 32, 111, 118, 101, 114]) :
    linesOf q M (totOf q M).1 = [[.str (real.scat (real.scat (real.scat [115, 104, 105, 102, 116, 32] (Lib.itoa M)) [32]) w)], [.str (real.scat [99, 111, 117, 110, 116, 32] (Lib.itoa (real.cI [[.int .i64 r.x, .int .i64 r.a, .int .i64 r.b, .int .i64 r.c, .int .i64 r.d, .int .i64 r.e]] 0 0)))], [.str (real.scat [115, 97, 108, 101, 115, 32] (T03 (real.cI [[.int .i64 r.x, .int .i64 r.a, .int .i64 r.b, .int .i64 r.c, .int .i64 r.d, .int .i64 r.e]] 0 1)))], [.str (real.scat [118, 111, 105, 100, 115, 32] (T03 (real.cI [[.int .i64 r.x, .int .i64 r.a, .int .i64 r.b, .int .i64 r.c, .int .i64 r.d, .int .i64 r.e]] 0 2)))], [.str (real.scat [114, 101, 102, 117, 110, 100, 115, 32] (T03 (real.cI [[.int .i64 r.x, .int .i64 r.a, .int .i64 r.b, .int .i64 r.c, .int .i64 r.d, .int .i64 r.e]] 0 3)))], [.str (real.scat [105, 110, 115, 32] (T03 (real.cI [[.int .i64 r.x, .int .i64 r.a, .int .i64 r.b, .int .i64 r.c, .int .i64 r.d, .int .i64 r.e]] 0 4)))], [.str (real.scat [111, 117, 116, 32] (T03 (real.cI [[.int .i64 r.x, .int .i64 r.a, .int .i64 r.b, .int .i64 r.c, .int .i64 r.d, .int .i64 r.e]] 0 5)))], [.str l]] := by
  rw [← hr, hw, hl]
  unfold linesOf
  have e : ∀ A : List UInt8, A ++ (bif M == opn q then [32, 111, 112, 101, 110] else [32, 99, 108, 111, 115, 101, 100]) = A ++ [32] ++ (bif M == opn q then [111, 112, 101, 110] else [99, 108, 111, 115, 101, 100]) := by
    intro A
    cases M == opn q <;> simp
  rw [e]
  rfl
theorem w_yes {q : Q} {M o : Int} (ho : o = opn q) (h : real.cmp .eql M o = true) : [111, 112, 101, 110] = bif M == opn q then [111, 112, 101, 110] else ([99, 108, 111, 115, 101, 100] : List UInt8) := by
  subst ho
  rw [cmp_eql] at h
  rw [h]; rfl
theorem w_no {q : Q} {M o : Int} (ho : o = opn q) (h : real.cmp .eql M o = false) : [99, 108, 111, 115, 101, 100] = bif M == opn q then [111, 112, 101, 110] else ([99, 108, 111, 115, 101, 100] : List UInt8) := by
  subst ho
  rw [cmp_eql] at h
  rw [h]; rfl
theorem l_over' {r : R6} {p : Int × Int} (hp : p = (amt (tillV r), amtE (tillV r))) (h : real.cmp .eql p.2 0 = false) : [116, 105, 108, 108, 32, 111, 118, 101, 114] = if amtE (tillV r) = 0 then [116, 105, 108, 108, 32] ++ T03 (amt (tillV r)) else [116, 105, 108, 108, 32, 111, 118, 101, 114] := by
  subst hp
  rw [if_neg]
  intro h0
  rw [h0] at h
  simp [real, rCmp] at h
theorem l_till' {r : R6} {p : Int × Int} {x : List UInt8} (hp : p = (amt (tillV r), amtE (tillV r))) (h : real.cmp .eql p.2 0 = true) (hx : x = T03 p.1) : real.scat [116, 105, 108, 108, 32] x = if amtE (tillV r) = 0 then [116, 105, 108, 108, 32] ++ T03 (amt (tillV r)) else [116, 105, 108, 108, 32, 111, 118, 101, 114] := by
  subst hp hx
  rw [if_pos]
  · rfl
  · simpa [real, rCmp] using h
def gS (r : List D) : Prop := ∃ s, r = [.str s]
theorem str_wf {l : List (List D)} (h : ∀ r ∈ l, gS r) : real.wf l 1 = true := by
  simp only [real, rWf, List.all_eq_true]
  intro r hr
  obtain ⟨z, rfl⟩ := h r hr
  rfl
theorem str_ok {l : List (List D)} (h : ∀ r ∈ l, gS r) {j : Int} {i : Nat} (hj : j = i) (hi : i < l.length) : real.okR l j 0 [.str] = true := by
  subst hj
  have hg : gS (l.getD i []) := by
    rw [List.getD, List.getElem?_eq_getElem hi]
    exact h _ (List.getElem_mem _)
  obtain ⟨d, hr⟩ := hg
  simp only [real, Int.toNat_natCast, hr]
  simp [rowOk, kdOk]
  omega
theorem lines_S {q : Q} {M : Int} {r : R6} : ∀ x ∈ linesOf q M r, gS x := by
  intro x hx
  unfold linesOf lns at hx
  simp only [List.mem_append, List.mem_cons, List.not_mem_nil, or_false] at hx
  rcases hx with ((rfl | rfl) | rfl | rfl | rfl | rfl | rfl) | rfl <;> exact ⟨_, rfl⟩
theorem lines_len {q : Q} {M : Int} {r : R6} : (linesOf q M r).length = 8 := rfl
theorem neq8 {q : Q} {M : Int} {r : R6} {R : List (List D)} {c : Bool} {a0 a1 a2 a3 a4 a5 a6 a7 : List D} (h : real.cmp .neq (real.len R) (real.len [a0, a1, a2, a3, a4, a5, a6, a7]) = true) (hR : c = true ∧ R = linesOf q M r) : False := by
  obtain ⟨-, rfl⟩ := hR
  rw [show real.cmp .neq (real.len (linesOf q M r)) (real.len [a0, a1, a2, a3, a4, a5, a6, a7]) = false from rfl] at h
  cases h
theorem neq_self {s : List UInt8} (h : real.scmp .neq s s = true) : False := by
  simp [real, rScmp] at h
theorem i6_0 {r : R6} (g : gR6 r) : I64 (real.cI [[.int .i64 r.x, .int .i64 r.a, .int .i64 r.b, .int .i64 r.c, .int .i64 r.d, .int .i64 r.e]] 0 0) := g.1
theorem i6_1 {r : R6} (g : gR6 r) : I64 (real.cI [[.int .i64 r.x, .int .i64 r.a, .int .i64 r.b, .int .i64 r.c, .int .i64 r.d, .int .i64 r.e]] 0 1) := g.2.1
theorem i6_2 {r : R6} (g : gR6 r) : I64 (real.cI [[.int .i64 r.x, .int .i64 r.a, .int .i64 r.b, .int .i64 r.c, .int .i64 r.d, .int .i64 r.e]] 0 2) := g.2.2.1
theorem i6_3 {r : R6} (g : gR6 r) : I64 (real.cI [[.int .i64 r.x, .int .i64 r.a, .int .i64 r.b, .int .i64 r.c, .int .i64 r.d, .int .i64 r.e]] 0 3) := g.2.2.2.1
theorem i6_4 {r : R6} (g : gR6 r) : I64 (real.cI [[.int .i64 r.x, .int .i64 r.a, .int .i64 r.b, .int .i64 r.c, .int .i64 r.d, .int .i64 r.e]] 0 4) := g.2.2.2.2.1
theorem i6_5 {r : R6} (g : gR6 r) : I64 (real.cI [[.int .i64 r.x, .int .i64 r.a, .int .i64 r.b, .int .i64 r.c, .int .i64 r.d, .int .i64 r.e]] 0 5) := g.2.2.2.2.2
theorem okr6_0 (x a b c d e : Int) : real.okR [[.int .i64 x, .int .i64 a, .int .i64 b, .int .i64 c, .int .i64 d, .int .i64 e]] 0 0 [.int .i64] = true := rfl
theorem okr6_1 (x a b c d e : Int) : real.okR [[.int .i64 x, .int .i64 a, .int .i64 b, .int .i64 c, .int .i64 d, .int .i64 e]] 0 1 [.int .i64] = true := rfl
theorem okr6_2 (x a b c d e : Int) : real.okR [[.int .i64 x, .int .i64 a, .int .i64 b, .int .i64 c, .int .i64 d, .int .i64 e]] 0 2 [.int .i64] = true := rfl
theorem okr6_3 (x a b c d e : Int) : real.okR [[.int .i64 x, .int .i64 a, .int .i64 b, .int .i64 c, .int .i64 d, .int .i64 e]] 0 3 [.int .i64] = true := rfl
theorem okr6_4 (x a b c d e : Int) : real.okR [[.int .i64 x, .int .i64 a, .int .i64 b, .int .i64 c, .int .i64 d, .int .i64 e]] 0 4 [.int .i64] = true := rfl
theorem okr6_5 (x a b c d e : Int) : real.okR [[.int .i64 x, .int .i64 a, .int .i64 b, .int .i64 c, .int .i64 d, .int .i64 e]] 0 5 [.int .i64] = true := rfl
theorem neq0 (h : real.cmp .neq (real.len []) 0 = true) : False := by
  rw [show real.cmp .neq (real.len []) 0 = false from rfl] at h
  cases h
theorem tt_ff {c b : Bool} (h3 : real.bnot b = false) (h2 : b = c) (h1 : c = false) : False := by subst h2 h1; simp [real] at h3
/-- A way that cannot be. -/
theorem gox {c b : Bool} {f : Bool → Bool} (e : f = real.bnot) (h3 : f b = false) (h2 : b = c) (h1 : c = false) : False := by subst h2 h1 e; simp [real] at h3
theorem ff_tt {c b : Bool} {p : Prop} (h3 : real.bnot b = true) (h2 : b = c) (h1 : c = true ∧ p) : False := by obtain ⟨h1, -⟩ := h1; subst h2 h1; simp [real] at h3
theorem K_Reports0 (acts : List (List D)) (ha : ∀ r ∈ acts, gAct r) (m : Int) (hm : I64 m) : CallE Tryd.prog 3 [.d (.imm acts), .d (.int .i64 m)] 0 [] (fun v n h => Nd (fun _ => Fin 0 (Gets fun v => v = .d (.bool true)) v n h)) := by
  obtain ⟨hc1, hc2, hc3⟩ := acts_cut ha
  refine call_fn tysOK orders (C := C3) C3_ok ⟨[((30, 0), [1, 2]), ((30, 1000000), [0, 8, 12, 14, 20, 22, 24, 30, 32, 34, 40, 42, 44, 50, 52, 54, 60, 62, 64, 70, 3, 4, 6, 10, 17, 18, 27, 28, 37, 38, 47, 48, 57, 58, 67, 68, 73, 74])], [], 0⟩ Tryd.func3 (by kernel_rfl) (by kernel_rfl) ?_
  intro oBin oCmp oWrap oNeg oCom oBnot oBeq oPickB oPickI oPickS oInb oSub2 oMinI oMaxI oSlen oSidx oScat oSsub oScmp oScok oLen oCI oCB oCS oCL oOkR oApp oApok oSub oSetc oRep oMkok oNthI oNthB oNthS oIteI oIteB oIteS oB2s oS2b oAllB oWf oDeq ho; cbv
  (repeat (any_goals (first
    | with_reducible refine And.intro ?_ ?_
    | exact True.intro
    | with_reducible exact rfl
    | (with_reducible refine Nd.mk ?_; try dsimp only)
    | (with_reducible refine Pz.mk ?_; cbv)
    | (with_reducible refine RgOK.mk ?_; kernel_rfl)
    | (with_reducible refine OrOK.mk ?_; kernel_rfl)
    | (with_reducible refine Al.mk (fun x hx => ?_); cbv)
    | (with_reducible refine hK' _ ?_; clear hK' K'; cbv)
    | (with_reducible refine brA.yes (by first | assumption | exact rfl | (simp only [show oCmp = real.cmp from congrArg Ar.cmp ho, show oBin = real.bin from congrArg Ar.bin ho, show oScmp = real.scmp from congrArg Ar.scmp ho, show oPickB = real.pickB from congrArg Ar.pickB ho]; decide)) ?_; cbv)
    | (with_reducible refine brA.no (by first | assumption | exact rfl | (simp only [show oCmp = real.cmp from congrArg Ar.cmp ho, show oBin = real.bin from congrArg Ar.bin ho, show oScmp = real.scmp from congrArg Ar.scmp ho, show oPickB = real.pickB from congrArg Ar.pickB ho]; decide)) ?_; cbv)
    | (with_reducible refine bcase (fun hb => ?_) (fun hb => ?_) <;> cbv)
    | (intro K' hK'; cbv))))
  · cases ho; cases hb
  · cases ho; exact hc1
  · cases ho; exact acts_wf ha
  refine ⟨fun st => ∃ (i : Nat) (j : Int) (q : Q) (A : List (List D)), j = i ∧ i ≤ A.length ∧ A.length ≤ 40 ∧ (∀ r ∈ A, gAct r) ∧ gQ q ∧ st = ⟨mkF 166 0 [(1, .d (.int .i64 m)), (5, .ptr 0 0), (40, .d (.imm A)), (41, .d (.int .i64 (oLen A))), (42, .d (.int .i64 j))], 1, [(0, .cells (qC q))]⟩, fun st => (40 - ctr 42 st).toNat, ⟨[], [], [1, 5, 40, 41, 42], [0], 1⟩, ?_, ?_, ?_⟩
  · cbv
  · cases ho
    exact ⟨0, 0, q0, _, rfl, Nat.zero_le _, hc2, hc3, q0_g, rfl⟩
  clear hc1 hc2 hc3 ha hb
  rintro st1 ⟨i, j, q, A, hj, hi, hA, hg, hq, rfl⟩
  cbv
  (repeat (any_goals (first
    | with_reducible refine And.intro ?_ ?_
    | exact True.intro
    | with_reducible exact rfl
    | (with_reducible refine Nd.mk ?_; try dsimp only)
    | (with_reducible refine Pz.mk ?_; cbv)
    | (with_reducible refine RgOK.mk ?_; kernel_rfl)
    | (with_reducible refine OrOK.mk ?_; kernel_rfl)
    | (with_reducible refine Al.mk (fun x hx => ?_); cbv)
    | (with_reducible refine hK' _ ?_; clear hK' K'; cbv)
    | (with_reducible refine brA.yes (by first | assumption | exact rfl | (simp only [show oCmp = real.cmp from congrArg Ar.cmp ho, show oBin = real.bin from congrArg Ar.bin ho, show oScmp = real.scmp from congrArg Ar.scmp ho, show oPickB = real.pickB from congrArg Ar.pickB ho]; decide)) ?_; cbv)
    | (with_reducible refine brA.no (by first | assumption | exact rfl | (simp only [show oCmp = real.cmp from congrArg Ar.cmp ho, show oBin = real.bin from congrArg Ar.bin ho, show oScmp = real.scmp from congrArg Ar.scmp ho, show oPickB = real.pickB from congrArg Ar.pickB ho]; decide)) ?_; cbv)
    | (with_reducible refine bcase (fun hb => ?_) (fun hb => ?_) <;> cbv)
    | (intro K' hK'; cbv))))
  all_goals first
    | (refine ⟨fun st => ∃ (i : Nat) (j : Int), j = i ∧ i ≤ 7 ∧ st = ⟨mkF 166 0 [(5, .ptr 0 0), (68, .d (.imm [[.int .i64 m], [.int .i64 x], [.int .i64 1], [.int .i64 2], [.int .i64 3], [.int .i64 4], [.int .i64 5]])), (69, .d (.int .i64 (oLen [[.int .i64 m], [.int .i64 x], [.int .i64 1], [.int .i64 2], [.int .i64 3], [.int .i64 4], [.int .i64 5]]))), (70, .d (.int .i64 j))], 1, [(0, .cells (qC q))]⟩, fun st => (7 - ctr 70 st).toNat, ⟨[], [], [5, 68, 69, 70], [0], 1⟩, ?_, ?_, ?_⟩
       · cbv
       · cases ho
         exact ⟨0, 0, rfl, Nat.zero_le _, rfl⟩
       clear hA hg hi hj hb i j A acts
       have hsev := sevs hm (show I64 x from hx ▸ opn_i64 hq)
       clear hm
       generalize hL : ([[.int .i64 m], [.int .i64 x], [.int .i64 1], [.int .i64 2], [.int .i64 3], [.int .i64 4], [.int .i64 5]] : List (List D)) = L at *
       have hLl : L.length = 7 := by rw [← hL]; rfl
       clear hL hx x m
       rintro st1 ⟨i, j, hj, hi, rfl⟩
       cbv
       (repeat (any_goals (first
    | with_reducible exact (gox (show oBnot = real.bnot from congrArg Ar.bnot ho) (by assumption) (by assumption) (by assumption)).elim
    | with_reducible refine And.intro ?_ ?_
    | exact True.intro
    | with_reducible exact rfl
    | (with_reducible refine Nd.mk ?_; try dsimp only)
    | (with_reducible refine Pz.mk ?_; cbv)
    | (with_reducible refine RgOK.mk ?_; kernel_rfl)
    | (with_reducible refine OrOK.mk ?_; kernel_rfl)
    | (with_reducible refine Al.mk (fun x hx => ?_); cbv)
    | (with_reducible refine hK' _ ?_; clear hK' K'; cbv)
    | (with_reducible refine brA.yes (by first | assumption | exact rfl | (simp only [show oCmp = real.cmp from congrArg Ar.cmp ho, show oBin = real.bin from congrArg Ar.bin ho, show oScmp = real.scmp from congrArg Ar.scmp ho, show oPickB = real.pickB from congrArg Ar.pickB ho]; decide)) ?_; cbv)
    | (with_reducible refine brA.no (by first | assumption | exact rfl | (simp only [show oCmp = real.cmp from congrArg Ar.cmp ho, show oBin = real.bin from congrArg Ar.bin ho, show oScmp = real.scmp from congrArg Ar.scmp ho, show oPickB = real.pickB from congrArg Ar.pickB ho]; decide)) ?_; cbv)
    | (with_reducible refine bcase (fun hb => ?_) (fun hb => ?_) <;> cbv)
    | (intro K' hK'; cbv))))
       all_goals first
         | (refine ⟨fun st => ∃ (k : Nat) (l : Int) (W : List (List D)), l = k ∧ k ≤ 8 ∧ W.length = 8 ∧ (∀ r ∈ W, gS r) ∧ st = ⟨mkF 166 0 [(5, .ptr 0 0), (11, .d (.imm W)), (19, .d (.imm W)), (68, .d (.imm L)), (69, .d (.int .i64 (oLen L))), (70, .d (.int .i64 j)), (147, .d (.int .i64 (oLen W))), (148, .d (.int .i64 l))], 1, [(0, .cells (qC q))]⟩, fun st => (8 - ctr 148 st).toNat, ⟨[], [], [5, 11, 19, 68, 69, 70, 147, 148], [0], 1⟩, ?_, ?_, ?_⟩
            · cbv
            · first
              | (rename_i hbj R hR r hr b hb0 hbn o ho' hbo p hp hbp s hs s1 hs1 s2 hs2 t1 h1 t2 h2 t3 h3 t4 h4
                 cases ho
                 have hW := lines_S (q := q) (M := real.cI L j 0) (r := (totOf q (real.cI L j 0)).1)
                 have hl8 := lines_len (q := q) (M := real.cI L j 0) (r := (totOf q (real.cI L j 0)).1)
                 rw [← hR.2] at hW hl8
                 subst hs1 hs2 h1 h2 h3 h4 hx
                 have e := hR.2.trans (want_eq hr (by first | exact w_yes ho' hbo | exact w_no ho' hbo) (l_till' hp hbp hs))
                 clear hR
                 subst e
                 exact ⟨0, 0, _, rfl, Nat.zero_le _, hl8, hW, rfl⟩)
              | (rename_i hbj R hR r hr b hb0 hbn o ho' hbo p hp hbp s1 hs1 s2 hs2 t1 h1 t2 h2 t3 h3 t4 h4
                 cases ho
                 have hW := lines_S (q := q) (M := real.cI L j 0) (r := (totOf q (real.cI L j 0)).1)
                 have hl8 := lines_len (q := q) (M := real.cI L j 0) (r := (totOf q (real.cI L j 0)).1)
                 rw [← hR.2] at hW hl8
                 subst hs1 hs2 h1 h2 h3 h4 hx
                 have e := hR.2.trans (want_eq hr (by first | exact w_yes ho' hbo | exact w_no ho' hbo) (l_over' hp hbp))
                 clear hR
                 subst e
                 exact ⟨0, 0, _, rfl, Nat.zero_le _, hl8, hW, rfl⟩)
            rintro st1 ⟨k, l, W, hl, hk, hW8, hWs, rfl⟩
            cbv
            (repeat (any_goals (first
    | with_reducible refine And.intro ?_ ?_
    | exact True.intro
    | with_reducible exact rfl
    | (with_reducible refine Nd.mk ?_; try dsimp only)
    | (with_reducible refine Pz.mk ?_; cbv)
    | (with_reducible refine RgOK.mk ?_; kernel_rfl)
    | (with_reducible refine OrOK.mk ?_; kernel_rfl)
    | (with_reducible refine Al.mk (fun x hx => ?_); cbv)
    | (with_reducible refine hK' _ ?_; clear hK' K'; cbv)
    | (with_reducible refine brA.yes (by first | assumption | exact rfl | (simp only [show oCmp = real.cmp from congrArg Ar.cmp ho, show oBin = real.bin from congrArg Ar.bin ho, show oScmp = real.scmp from congrArg Ar.scmp ho, show oPickB = real.pickB from congrArg Ar.pickB ho]; decide)) ?_; cbv)
    | (with_reducible refine brA.no (by first | assumption | exact rfl | (simp only [show oCmp = real.cmp from congrArg Ar.cmp ho, show oBin = real.bin from congrArg Ar.bin ho, show oScmp = real.scmp from congrArg Ar.scmp ho, show oPickB = real.pickB from congrArg Ar.pickB ho]; decide)) ?_; cbv)
    | (with_reducible refine bcase (fun hb => ?_) (fun hb => ?_) <;> cbv)
    | (intro K' hK'; cbv))))
            all_goals ((try clear hK' K'); cases ho; (try simp only [nc1] at *); (try simp only [Int.ofNat_eq_natCast] at *))
            all_goals first
              | with_reducible exact inbL hl (ltL hl (by assumption))
              | with_reducible exact str_wf hWs
              | with_reducible exact str_ok hWs hl (ltL hl (by assumption))
              | with_reducible exact (neq_self (by assumption)).elim
              | (have h5 : k < W.length := ltL hl (by assumption)
                 refine ⟨⟨[], [], [5, 11, 19, 68, 69, 70, 147, 148], [0], 1⟩, rfl, ⟨k + 1, real.bin .add .i64 l 1, W, addL hl (by omega), by omega, hW8, hWs, rfl⟩, ?_⟩
                 show (8 - real.bin .add .i64 l 1).toNat < (8 - l).toNat
                 rw [addL hl (by omega)]; omega)
              | (have h5 : i < L.length := ltL hj (by assumption)
                 refine ⟨⟨[], [], [5, 68, 69, 70], [0], 1⟩, rfl, ⟨i + 1, real.bin .add .i64 j 1, addL hj (by omega), by omega, rfl⟩, ?_⟩
                 show (7 - real.bin .add .i64 j 1).toNat < (7 - j).toNat
                 rw [addL hj (by omega)]; omega)
              | trace_state)
         | (((try clear hK' K'); cases ho; (try simp only [nc1] at *); (try simp only [Int.ofNat_eq_natCast] at *))
            all_goals (try (have gr' := gr_of (tot_gR6 hq _) (by assumption)))
            all_goals (try (have hM := sev_a hsev hj (ltL hj (by assumption))))
            first
            | omega
            | with_reducible exact hq
            | with_reducible exact hM
            | with_reducible exact inbL hj (ltL hj hb)
            | with_reducible exact sev_wf hsev
            | with_reducible exact sev_ok hsev hj (ltL hj hb)
            | exact gr'
            | with_reducible exact I64p (by assumption)
            | with_reducible exact okr6_0 _ _ _ _ _ _
            | with_reducible exact okr6_1 _ _ _ _ _ _
            | with_reducible exact okr6_2 _ _ _ _ _ _
            | with_reducible exact okr6_3 _ _ _ _ _ _
            | with_reducible exact okr6_4 _ _ _ _ _ _
            | with_reducible exact okr6_5 _ _ _ _ _ _
            | with_reducible exact i6_0 gr'
            | with_reducible exact i6_1 gr'
            | with_reducible exact i6_2 gr'
            | with_reducible exact i6_3 gr'
            | with_reducible exact i6_4 gr'
            | with_reducible exact i6_5 gr'
            | with_reducible exact gr'.1
            | with_reducible exact gr'.2.1
            | with_reducible exact gr'.2.2.1
            | with_reducible exact gr'.2.2.2.1
            | with_reducible exact gr'.2.2.2.2.1
            | with_reducible exact gr'.2.2.2.2.2
            | with_reducible exact (tt_ff (by assumption) (by assumption) (by assumption)).elim
            | with_reducible exact (ff_tt (by assumption) (by assumption) (by assumption)).elim
            | with_reducible exact (neq8 (by assumption) (by assumption)).elim
            | with_reducible exact (neq0 hb).elim
            | (have h5 := ltL hj (by assumption)
               refine ⟨⟨[], [], [5, 68, 69, 70], [0], 1⟩, rfl, ⟨i + 1, real.bin .add .i64 j 1, addL hj (by omega), by omega, rfl⟩, ?_⟩
               show (7 - real.bin .add .i64 j 1).toNat < (7 - j).toNat
               rw [addL hj (by omega)]; omega)
            | (refine scokI ?_
               try have hl := len_itoa (show x = _ from by assumption) hM
               try have hl := len_itoa (show x = _ from by assumption) gr'.1
               try have hl := len_T03 (show x = _ from by assumption) gr'.2.1
               try have hl := len_T03 (show x = _ from by assumption) gr'.2.2.1
               try have hl := len_T03 (show x = _ from by assumption) gr'.2.2.2.1
               try have hl := len_T03 (show x = _ from by assumption) gr'.2.2.2.2.1
               try have hl := len_T03 (show x = _ from by assumption) gr'.2.2.2.2.2
               try have hl := len_T03 (show x = T03 (Prod.fst _) from by assumption) (I64p (by assumption))
               simp only [scat_len, List.length_cons, List.length_nil]
               omega)
            | exact ⟨⟨[], [], [0], [], 0⟩, _, 0, _, rfl, rfl, ⟨rfl⟩, rfl, rfl, rfl⟩
            | trace_state))
    | (((try clear hK' K'); cases ho; (try simp only [nc1] at *); (try simp only [Int.ofNat_eq_natCast] at *))
       first
       | with_reducible exact inbL hj (ltL hj hb)
       | with_reducible exact acts_wf hg
       | with_reducible exact acts_ok hg hj (ltL hj hb)
       | with_reducible exact acts_a hg hj (ltL hj (by assumption))
       | rfl
       | with_reducible exact hq
       | omega
       | (have h5 := ltL hj (by assumption)
          refine ⟨⟨[], [], [1, 5, 40, 41, 42], [0], 1⟩, rfl, ⟨i + 1, real.bin .add .i64 j 1, _, A, addL hj (by omega), by omega, hA, hg, ?_, rfl⟩, ?_⟩
          · assumption
          · show (40 - real.bin .add .i64 j 1).toNat < (40 - j).toNat
            rw [addL hj (by omega)]; omega)
       | trace_state)
end Go.Proofs.YtjkfkgpdlflbhaaDoor.Ab
