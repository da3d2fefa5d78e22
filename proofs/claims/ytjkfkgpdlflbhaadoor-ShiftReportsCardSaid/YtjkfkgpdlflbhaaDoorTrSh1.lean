/- Shifts, by the executor: small ones. -/
import Derived.Test.YtjkfkgpdlflbhaaDoorTrAb21
import Derived.Test.YtjkfkgpdlflbhaaDoorTrAbT
import Derived.Test.YtjkfkgpdlflbhaaDoorTrCTxt
import Derived.Test.YtjkfkgpdlflbhaaDoorTrShiftWakes
import Derived.Test.YtjkfkgpdlflbhaaDoorTrRefTill
namespace Go.Proofs.YtjkfkgpdlflbhaaDoor.Ab
open Go Go.RowKit Go.Sort
set_option linter.unusedVariables false
set_option linter.unusedSimpArgs false
set_option maxRecDepth 100000
set_option maxHeartbeats 4000000
/-- What a Shifts that keeps three holds. -/
structure Q where
  nx : Int
  op : Bool
  ct : Int
  a : Int
  b : Int
  c : Int
  d : Int
  e : Int
  cl : D
def qC (q : Q) : List AV := [.d (.int .i64 3), .d (.int .i64 q.nx), .d (.bool q.op), .d (.int .i64 q.ct), .d (.int .i64 q.a), .d (.int .i64 q.b), .d (.int .i64 q.c), .d (.int .i64 q.d), .d (.int .i64 q.e), .d q.cl]
def gR (r : List D) : Prop := ∃ x a b c d e, r = [.int .i64 x, .int .i64 a, .int .i64 b, .int .i64 c, .int .i64 d, .int .i64 e] ∧ I64 x ∧ I64 a ∧ I64 b ∧ I64 c ∧ I64 d ∧ I64 e
def rowsD : D → List (List D)
  | .imm l => l
  | _ => []
structure gQ (q : Q) : Prop where
  nx : 1 ≤ q.nx ∧ q.nx ≤ 4294967296
  ct : 0 ≤ q.ct ∧ q.ct ≤ 4294967295
  i64 : I64 q.a ∧ I64 q.b ∧ I64 q.c ∧ I64 q.d ∧ I64 q.e
  cl : q.cl = .nilsl ∨ ∃ l, q.cl = .imm l ∧ l ≠ []
  rows : (rowsD q.cl).length ≤ 3 ∧ ∀ r ∈ rowsD q.cl, gR r
def opn (q : Q) : Int := bif q.op then q.nx - 1 else 0
theorem wrap_nx {x : Int} (h : -10 ≤ x ∧ x ≤ 4294967300) : IntKind.i64.wrap x = x := wrap_i64 _ (by omega) (by omega)
theorem K_Open0 (q : Q) (g : gQ q) : CallE Tryd.prog 9 [.ptr 0 0] 1 [(0, .cells (qC q))] (fun v n h => Nd (fun _ => v = .d (.int .i64 (opn q))) ∧ n = 1 ∧ h = [(0, .cells (qC q))]) := by
  obtain ⟨nx, op, ct, a, b, c, d, e, cl⟩ := q
  obtain ⟨hnx, -, -, -, -⟩ := g
  refine call_fn tysOK orders (C := C0) C0_ok H0 Tryd.func9 (by kernel_rfl) (by kernel_rfl) ?_
  intro oBin oCmp oWrap oNeg oCom oBnot oBeq oPickB oPickI oPickS oInb oSub2 oMinI oMaxI oSlen oSidx oScat oSsub oScmp oScok oLen oCI oCB oCS oCL oOkR oApp oApok oSub oSetc oRep oMkok oNthI oNthB oNthS oIteI oIteB oIteS oB2s oS2b oAllB oWf oDeq ho; cbv
  (repeat (any_goals (first
    | with_reducible refine And.intro ?_ ?_
    | exact True.intro
    | with_reducible exact rfl
    | (with_reducible refine Nd.mk ?_; try dsimp only)
    | (with_reducible refine Pz.mk ?_; cbv)
    | (with_reducible refine RgOK.mk ?_; kernel_rfl)
    | (with_reducible refine OrOK.mk ?_; kernel_rfl)
    | (with_reducible refine Al.mk (fun x hx => ?_); cbv)
    | (with_reducible refine hK' _ ?_; clear hK' K'; cbv)
    | (with_reducible refine brA.yes (by first | assumption | exact rfl | (simp only [show oCmp = real.cmp from congrArg Ar.cmp ho, show oBin = real.bin from congrArg Ar.bin ho, show oScmp = real.scmp from congrArg Ar.scmp ho, show oPickB = real.pickB from congrArg Ar.pickB ho]; decide)) ?_; cbv)
    | (with_reducible refine brA.no (by first | assumption | exact rfl | (simp only [show oCmp = real.cmp from congrArg Ar.cmp ho, show oBin = real.bin from congrArg Ar.bin ho, show oScmp = real.scmp from congrArg Ar.scmp ho, show oPickB = real.pickB from congrArg Ar.pickB ho]; decide)) ?_; cbv)
    | (with_reducible refine bcase (fun hb => ?_) (fun hb => ?_) <;> cbv)
    | (intro K' hK'; cbv))))
  all_goals ((try clear hK' K'); cases ho; (try simp only [real, rBin, rCmp, Op.intArith, decide_eq_true_eq, decide_eq_false_iff_not, ge_iff_le, gt_iff_lt, Bool.cond_true, Bool.cond_false, beq_iff_eq, beq_eq_false_iff_ne, bne_iff_ne, bne_eq_false_iff_eq, ne_eq, Bool.not_eq_true, Bool.false_eq_true, Bool.true_eq_false, not_true_eq_false, not_false_eq_true] at *); (try simp only [nc1] at *); (try simp only [Int.ofNat_eq_natCast] at *))
  all_goals (cases op <;> simp_all [opn, wrap_nx (show -10 ≤ nx - 1 ∧ nx - 1 ≤ 4294967300 by omega)])
def lst (q : Q) : Int := bif q.op then q.nx - 2 else q.nx - 1
theorem K_last0 (q : Q) (g : gQ q) : CallE Tryd.prog 21 [.ptr 0 0] 1 [(0, .cells (qC q))] (fun v n h => Nd (fun _ => v = .d (.int .i64 (lst q))) ∧ n = 1 ∧ h = [(0, .cells (qC q))]) := by
  obtain ⟨nx, op, ct, a, b, c, d, e, cl⟩ := q
  obtain ⟨hnx, -, -, -, -⟩ := g
  refine call_fn tysOK orders (C := C0) C0_ok H0 Tryd.func21 (by kernel_rfl) (by kernel_rfl) ?_
  intro oBin oCmp oWrap oNeg oCom oBnot oBeq oPickB oPickI oPickS oInb oSub2 oMinI oMaxI oSlen oSidx oScat oSsub oScmp oScok oLen oCI oCB oCS oCL oOkR oApp oApok oSub oSetc oRep oMkok oNthI oNthB oNthS oIteI oIteB oIteS oB2s oS2b oAllB oWf oDeq ho; cbv
  (repeat (any_goals (first
    | with_reducible refine And.intro ?_ ?_
    | exact True.intro
    | with_reducible exact rfl
    | (with_reducible refine Nd.mk ?_; try dsimp only)
    | (with_reducible refine Pz.mk ?_; cbv)
    | (with_reducible refine RgOK.mk ?_; kernel_rfl)
    | (with_reducible refine OrOK.mk ?_; kernel_rfl)
    | (with_reducible refine Al.mk (fun x hx => ?_); cbv)
    | (with_reducible refine hK' _ ?_; clear hK' K'; cbv)
    | (with_reducible refine brA.yes (by first | assumption | exact rfl | (simp only [show oCmp = real.cmp from congrArg Ar.cmp ho, show oBin = real.bin from congrArg Ar.bin ho, show oScmp = real.scmp from congrArg Ar.scmp ho, show oPickB = real.pickB from congrArg Ar.pickB ho]; decide)) ?_; cbv)
    | (with_reducible refine brA.no (by first | assumption | exact rfl | (simp only [show oCmp = real.cmp from congrArg Ar.cmp ho, show oBin = real.bin from congrArg Ar.bin ho, show oScmp = real.scmp from congrArg Ar.scmp ho, show oPickB = real.pickB from congrArg Ar.pickB ho]; decide)) ?_; cbv)
    | (with_reducible refine bcase (fun hb => ?_) (fun hb => ?_) <;> cbv)
    | (intro K' hK'; cbv))))
  all_goals ((try clear hK' K'); cases ho; (try simp only [real, rBin, rCmp, Op.intArith, decide_eq_true_eq, decide_eq_false_iff_not, ge_iff_le, gt_iff_lt, Bool.cond_true, Bool.cond_false, beq_iff_eq, beq_eq_false_iff_ne, bne_iff_ne, bne_eq_false_iff_eq, ne_eq, Bool.not_eq_true, Bool.false_eq_true, Bool.true_eq_false, not_true_eq_false, not_false_eq_true] at *); (try simp only [nc1] at *); (try simp only [Int.ofNat_eq_natCast] at *))
  all_goals (cases op <;> simp_all [lst, wrap_nx (show -10 ≤ nx - 1 ∧ nx - 1 ≤ 4294967300 by omega), wrap_nx (show -10 ≤ nx - 2 ∧ nx - 2 ≤ 4294967300 by omega)])
theorem K_Start0 (q : Q) (g : gQ q) : CallE Tryd.prog 6 [.ptr 0 0] 1 [(0, .cells (qC q))] (fun v n h => n = 1 ∧ Nd (fun _ => ∃ q', gQ q' ∧ h = [(0, .cells (qC q'))])) := by
  obtain ⟨nx, op, ct, a, b, c, d, e, cl⟩ := q
  refine call_fn tysOK orders (C := C0) C0_ok H0 Tryd.func6 (by kernel_rfl) (by kernel_rfl) ?_
  intro oBin oCmp oWrap oNeg oCom oBnot oBeq oPickB oPickI oPickS oInb oSub2 oMinI oMaxI oSlen oSidx oScat oSsub oScmp oScok oLen oCI oCB oCS oCL oOkR oApp oApok oSub oSetc oRep oMkok oNthI oNthB oNthS oIteI oIteB oIteS oB2s oS2b oAllB oWf oDeq ho; cbv
  (repeat (any_goals (first
    | with_reducible refine And.intro ?_ ?_
    | exact True.intro
    | with_reducible exact rfl
    | (with_reducible refine Nd.mk ?_; try dsimp only)
    | (with_reducible refine Pz.mk ?_; cbv)
    | (with_reducible refine RgOK.mk ?_; kernel_rfl)
    | (with_reducible refine OrOK.mk ?_; kernel_rfl)
    | (with_reducible refine Al.mk (fun x hx => ?_); cbv)
    | (with_reducible refine hK' _ ?_; clear hK' K'; cbv)
    | (with_reducible refine brA.yes (by first | assumption | exact rfl | (simp only [show oCmp = real.cmp from congrArg Ar.cmp ho, show oBin = real.bin from congrArg Ar.bin ho, show oScmp = real.scmp from congrArg Ar.scmp ho, show oPickB = real.pickB from congrArg Ar.pickB ho]; decide)) ?_; cbv)
    | (with_reducible refine brA.no (by first | assumption | exact rfl | (simp only [show oCmp = real.cmp from congrArg Ar.cmp ho, show oBin = real.bin from congrArg Ar.bin ho, show oScmp = real.scmp from congrArg Ar.scmp ho, show oPickB = real.pickB from congrArg Ar.pickB ho]; decide)) ?_; cbv)
    | (with_reducible refine bcase (fun hb => ?_) (fun hb => ?_) <;> cbv)
    | (intro K' hK'; cbv))))
  all_goals ((try clear hK' K'); cases ho; (try simp only [real, rBin, rCmp, Op.intArith, decide_eq_true_eq, decide_eq_false_iff_not, ge_iff_le, gt_iff_lt, Bool.cond_true, Bool.cond_false, beq_iff_eq, beq_eq_false_iff_ne, bne_iff_ne, bne_eq_false_iff_eq, ne_eq, Bool.not_eq_true, Bool.false_eq_true, Bool.true_eq_false, not_true_eq_false, not_false_eq_true] at *); (try simp only [nc1] at *); (try simp only [Int.ofNat_eq_natCast] at *))
  · exact ⟨_, g, rfl⟩
  · exact ⟨_, g, rfl⟩
  · have hn := g.nx
    have hc := g.cl
    have hr := g.rows
    refine ⟨⟨_, true, 0, 0, 0, 0, 0, 0, cl⟩, ⟨?_, ⟨Int.le_refl _, by show (0 : Int) ≤ _; omega⟩, ?_, hc, hr⟩, rfl⟩
    · show 1 ≤ IntKind.i64.wrap (nx + 1) ∧ IntKind.i64.wrap (nx + 1) ≤ 4294967296
      simp only at hn
      rw [wrap_nx (by omega)]; omega
    · unfold I64; simp
/-! as methods of a place -/
def pat (h : Hp) (i : Nat) (k : Q → Prop) : Prop := match hget h i with
  | some (.cells [.d (.int .i64 kp), .d (.int .i64 nx), .d (.bool op), .d (.int .i64 ct), .d (.int .i64 a), .d (.int .i64 b), .d (.int .i64 c), .d (.int .i64 d), .d (.int .i64 e), .d cl]) => Nd (fun _ => kp = 3) ∧ k ⟨nx, op, ct, a, b, c, d, e, cl⟩
  | _ => False
theorem pat_elim {h : Hp} {i : Nat} {k : Q → Prop} (hp : pat h i k) : ∃ q, hget h i = some (.cells (qC q)) ∧ k q := by
  unfold pat at hp
  split at hp
  · rename_i kp nx op ct a b c d e cl hg
    obtain ⟨⟨rfl⟩, hk⟩ := hp
    exact ⟨⟨nx, op, ct, a, b, c, d, e, cl⟩, hg, hk⟩
  · exact hp.elim
theorem call_recv {f i n : Nat} {h : Hp} {rest l : List AV} {K0 K : CallK} (hc : CallE Tryd.prog f (.ptr 0 0 :: rest) 1 [(0, .cells l)] K0) (hr : idsVs rest = []) (hl : idsVs l = []) (hi : i < n) (hg : hget h i = some (.cells l))
    (hK : ∀ v n1 h1, K0 v n1 h1 → 1 ≤ n1 → K (renV (lift (fun _ => i) 1 n) v) (n + (n1 - 1)) (outs (fun _ => i) 1 h ++ renH (lift (fun _ => i) 1 n) h1)) : CallE Tryd.prog f (.ptr i 0 :: rest) n h K := by
  refine call_frame (g := fun _ => i) hc ?_ rfl (fun a b ha hb _ => by omega) (fun _ _ => hi) ?_ ?_ (fun v n1 h1 hn h2 => hK v n1 h1 h2 hn)
  · simp only [renVs, renV]
    rw [renVs_none rest hr]
  · intro j o hm
    simp only [List.mem_singleton, Prod.mk.injEq] at hm
    obtain ⟨rfl, rfl⟩ := hm
    refine ⟨?_, fun j hj => ?_⟩
    · have := hget_mem hg
      simp only [renO]
      rw [renVs_none l hl]
      exact this
    · rw [show idsO (.cells l) = idsVs l from rfl, hl] at hj
      cases hj
  · intro j hj
    rw [show idsVs (.ptr 0 0 :: rest) = [0] ++ idsVs rest from rfl, hr] at hj
    simp at hj
    omega
theorem qC_ids (q : Q) : idsVs (qC q) = [] := rfl
theorem ren_qC (f : Nat → Nat) (q : Q) : renVs f (qC q) = qC q := renVs_none _ rfl
def outI (i : Nat) (h : Hp) (q : Q) : Hp := outs (fun _ => i) 1 h ++ [(i, .cells (qC q))]
def S_Open (i : Nat) (K : CallK) (n : Nat) (h : Hp) : Prop := pat h i fun q => Nd (fun _ => i < n ∧ gQ q) ∧ Al (fun x => x = opn q) fun x => K (.d (.int .i64 x)) n (outI i h q)
theorem L_Open {i n : Nat} {h : Hp} {K : CallK} (hK : S_Open i K n h) : CallE Tryd.prog 9 [.ptr i 0] n h K := by
  obtain ⟨q, hg, ⟨⟨hi, g⟩⟩, hk⟩ := pat_elim hK
  refine call_recv (K_Open0 q g) rfl (qC_ids q) hi hg ?_
  rintro v n1 h1 ⟨⟨rfl⟩, rfl, rfl⟩ -
  exact hk.h _ rfl
def S_last (i : Nat) (K : CallK) (n : Nat) (h : Hp) : Prop := pat h i fun q => Nd (fun _ => i < n ∧ gQ q) ∧ Al (fun x => x = lst q) fun x => K (.d (.int .i64 x)) n (outI i h q)
theorem L_last {i n : Nat} {h : Hp} {K : CallK} (hK : S_last i K n h) : CallE Tryd.prog 21 [.ptr i 0] n h K := by
  obtain ⟨q, hg, ⟨⟨hi, g⟩⟩, hk⟩ := pat_elim hK
  refine call_recv (K_last0 q g) rfl (qC_ids q) hi hg ?_
  rintro v n1 h1 ⟨⟨rfl⟩, rfl, rfl⟩ -
  exact hk.h _ rfl
theorem toTop {f n : Nat} {h : Hp} {args : List AV} {K : CallK} (hc : CallE Tryd.prog f args n h fun _ n h => K .top n h) : CallE Tryd.prog f args n h K :=
  hc.weaken fun v n h hk => ⟨.top, hk, fun _ _ _ _ _ => trivial⟩
def S_Start (i : Nat) (K : CallK) (n : Nat) (h : Hp) : Prop := pat h i fun q => Nd (fun _ => i < n ∧ gQ q) ∧ Al gQ fun q' => K .top n (outI i h q')
theorem L_Start {i n : Nat} {h : Hp} {K : CallK} (hK : S_Start i K n h) : CallE Tryd.prog 6 [.ptr i 0] n h K := by
  obtain ⟨q, hg, ⟨⟨hi, g⟩⟩, hk⟩ := pat_elim hK
  refine toTop (call_recv (K_Start0 q g) rfl (qC_ids q) hi hg ?_)
  rintro v n1 h1 ⟨rfl, ⟨q', g', rfl⟩⟩ -
  exact hk.h _ g'
/-! Totals -/
def nowR (q : Q) : List D := [.int .i64 q.ct, .int .i64 q.a, .int .i64 q.b, .int .i64 q.c, .int .i64 q.d, .int .i64 q.e]
def C11 : CallS := fun f args n h K => match f with
  | 9 => (match args with | [.ptr i 0] => S_Open i K n h | _ => False)
  | 21 => (match args with | [.ptr i 0] => S_last i K n h | _ => False)
  | _ => False
theorem C11_ok : ∀ f args n h K, C11 f args n h K → CallE Tryd.prog f args n h K := by
  intro f args n h K hc
  unfold C11 at hc
  split at hc
  · split at hc
    · exact L_Open hc
    · exact hc.elim
  · split at hc
    · exact L_last hc
    · exact hc.elim
  · exact hc.elim
structure R6 where
  x : Int
  a : Int
  b : Int
  c : Int
  d : Int
  e : Int
def rD (r : R6) : List D := [.int .i64 r.x, .int .i64 r.a, .int .i64 r.b, .int .i64 r.c, .int .i64 r.d, .int .i64 r.e]
def toR6 : List D → R6
  | [.int _ x, .int _ a, .int _ b, .int _ c, .int _ d, .int _ e] => ⟨x, a, b, c, d, e⟩
  | _ => ⟨0, 0, 0, 0, 0, 0⟩
theorem toR6_g {r : List D} (h : gR r) : rD (toR6 r) = r := by
  obtain ⟨x, a, b, c, d, e, rfl, -⟩ := h
  rfl
def gR6 (r : R6) : Prop := I64 r.x ∧ I64 r.a ∧ I64 r.b ∧ I64 r.c ∧ I64 r.d ∧ I64 r.e
def totI (q : Q) (m : Int) : Int := real.bin .sub .i64 (real.bin .sub .i64 (real.len (rowsD q.cl)) 1) (real.bin .sub .i64 (lst q) m)
def totOf (q : Q) (m : Int) : R6 × Bool :=
  if m < 1 then (⟨0, 0, 0, 0, 0, 0⟩, false) else if m = opn q then (⟨q.ct, q.a, q.b, q.c, q.d, q.e⟩, true)
  else if 0 ≤ totI q m ∧ totI q m < real.len (rowsD q.cl) then (toR6 ((rowsD q.cl).getD (totI q m).toNat []), true) else (⟨0, 0, 0, 0, 0, 0⟩, false)
theorem gR_get {l : List (List D)} (h : ∀ r ∈ l, gR r) {i : Int} (h0 : 0 ≤ i) (h1 : i < real.len l) : gR (l.getD i.toNat []) := by
  have h2 : i < (l.length : Int) := h1
  have h3 : i.toNat < l.length := by omega
  rw [List.getD, List.getElem?_eq_getElem h3]
  exact h _ (List.getElem_mem _)
theorem rows_wf {l : List (List D)} (h : ∀ r ∈ l, gR r) : real.wf l 6 = true := by
  simp only [real, rWf, List.all_eq_true]
  intro r hr
  obtain ⟨x, a, b, c, d, e, rfl, -⟩ := h r hr
  rfl
theorem rows_ok {l : List (List D)} (h : ∀ r ∈ l, gR r) {i : Int} (h0 : 0 ≤ i) (h1 : i < real.len l) : real.okR l i 0 [.int .i64, .int .i64, .int .i64, .int .i64, .int .i64, .int .i64] = true := by
  have h2 : i < (l.length : Int) := h1
  obtain ⟨x, a, b, c, d, e, hr, -⟩ := gR_get h h0 h1
  simp only [real, hr]
  simp [rowOk, kdOk]
  omega
theorem rows_cI {l : List (List D)} (h : ∀ r ∈ l, gR r) {i : Int} (h0 : 0 ≤ i) (h1 : i < real.len l) :
    [D.int .i64 (real.cI l i 0), .int .i64 (real.cI l i 1), .int .i64 (real.cI l i 2), .int .i64 (real.cI l i 3), .int .i64 (real.cI l i 4), .int .i64 (real.cI l i 5)] = rD (toR6 (l.getD i.toNat [])) := by
  obtain ⟨x, a, b, c, d, e, hr, -⟩ := gR_get h h0 h1
  simp only [real, rCell, hr]
  rfl
section
variable {q : Q} {m : Int}
theorem tot1 (h : real.pickB false true (real.cmp .lss m 1) = true) : totOf q m = (⟨0, 0, 0, 0, 0, 0⟩, false) := by
  have h1 : m < 1 := of_decide_eq_true h
  unfold totOf; rw [if_pos h1]
theorem m_ge (h : real.pickB false true (real.cmp .lss m 1) = false) : ¬ m < 1 := of_decide_eq_false h
theorem tot2 (h : real.pickB false true (real.cmp .lss m 1) = false) (h2 : real.cmp .eql m (opn q) = true) : totOf q m = (⟨q.ct, q.a, q.b, q.c, q.d, q.e⟩, true) := by
  have h3 : m = opn q := by simpa [real, rCmp] using h2
  unfold totOf; rw [if_neg (m_ge h), if_pos h3]
theorem op_ne (h2 : real.cmp .eql m (opn q) = false) : ¬ m = opn q := by simpa [real, rCmp] using h2
theorem tot3 (h : real.pickB false true (real.cmp .lss m 1) = false) (h2 : real.cmp .eql m (opn q) = false) (h3 : real.cmp .geq (totI q m) 0 = true) (h4 : real.pickB true (real.cmp .lss (totI q m) (real.len (rowsD q.cl))) false = true) :
    totOf q m = (toR6 ((rowsD q.cl).getD (totI q m).toNat []), true) ∧ 0 ≤ totI q m ∧ totI q m < real.len (rowsD q.cl) := by
  have h5 : 0 ≤ totI q m := of_decide_eq_true h3
  have h6 : totI q m < real.len (rowsD q.cl) := of_decide_eq_true h4
  refine ⟨?_, h5, h6⟩
  unfold totOf; rw [if_neg (m_ge h), if_neg (op_ne h2), if_pos ⟨h5, h6⟩]
theorem tot4 (h : real.pickB false true (real.cmp .lss m 1) = false) (h2 : real.cmp .eql m (opn q) = false) (h3 : real.cmp .geq (totI q m) 0 = false) : totOf q m = (⟨0, 0, 0, 0, 0, 0⟩, false) := by
  have h5 : ¬ totI q m ≥ 0 := of_decide_eq_false h3
  unfold totOf; rw [if_neg (m_ge h), if_neg (op_ne h2), if_neg (fun h => h5 h.1)]
theorem tot5 (h : real.pickB false true (real.cmp .lss m 1) = false) (h2 : real.cmp .eql m (opn q) = false) (h4 : real.pickB true (real.cmp .lss (totI q m) (real.len (rowsD q.cl))) false = false) : totOf q m = (⟨0, 0, 0, 0, 0, 0⟩, false) := by
  have h5 : ¬ totI q m < real.len (rowsD q.cl) := of_decide_eq_false h4
  unfold totOf; rw [if_neg (m_ge h), if_neg (op_ne h2), if_neg (fun h => h5 h.2)]
end
theorem K_Totals0 (q : Q) (g : gQ q) (m : Int) (hm : I64 m) : CallE Tryd.prog 11 [.ptr 0 0, .d (.int .i64 m)] 1 [(0, .cells (qC q))] (fun v n h => Nd (fun _ => v = .tup [.d (.agg (rD (totOf q m).1)), .d (.bool (totOf q m).2)]) ∧ n = 1 ∧ h = [(0, .cells (qC q))]) := by
  have g' := g
  obtain ⟨nx, op, ct, a, b, c, d, e, cl⟩ := q
  obtain ⟨hnx, hct, hi, hcl, hrows⟩ := g
  simp only at hcl hrows
  rcases hcl with rfl | ⟨l, rfl, hl⟩
  · refine call_fn tysOK orders (C := C11) C11_ok H0 Tryd.func11 (by kernel_rfl) (by kernel_rfl) ?_
    intro oBin oCmp oWrap oNeg oCom oBnot oBeq oPickB oPickI oPickS oInb oSub2 oMinI oMaxI oSlen oSidx oScat oSsub oScmp oScok oLen oCI oCB oCS oCL oOkR oApp oApok oSub oSetc oRep oMkok oNthI oNthB oNthS oIteI oIteB oIteS oB2s oS2b oAllB oWf oDeq ho; cbv
    (repeat (any_goals (first
    | with_reducible refine And.intro ?_ ?_
    | exact True.intro
    | with_reducible exact rfl
    | (with_reducible refine Nd.mk ?_; try dsimp only)
    | (with_reducible refine Pz.mk ?_; cbv)
    | (with_reducible refine RgOK.mk ?_; kernel_rfl)
    | (with_reducible refine OrOK.mk ?_; kernel_rfl)
    | (with_reducible refine Al.mk (fun x hx => ?_); cbv)
    | (with_reducible refine hK' _ ?_; clear hK' K'; cbv)
    | (with_reducible refine brA.yes (by first | assumption | exact rfl | (simp only [show oCmp = real.cmp from congrArg Ar.cmp ho, show oBin = real.bin from congrArg Ar.bin ho, show oScmp = real.scmp from congrArg Ar.scmp ho, show oPickB = real.pickB from congrArg Ar.pickB ho]; decide)) ?_; cbv)
    | (with_reducible refine brA.no (by first | assumption | exact rfl | (simp only [show oCmp = real.cmp from congrArg Ar.cmp ho, show oBin = real.bin from congrArg Ar.bin ho, show oScmp = real.scmp from congrArg Ar.scmp ho, show oPickB = real.pickB from congrArg Ar.pickB ho]; decide)) ?_; cbv)
    | (with_reducible refine bcase (fun hb => ?_) (fun hb => ?_) <;> cbv)
    | (intro K' hK'; cbv))))
    all_goals ((try clear hK' K'); cases ho; (try simp only [nc1] at *); (try simp only [Int.ofNat_eq_natCast] at *))
    all_goals (try first | exact g' | omega)
    all_goals (try subst_vars)
    all_goals first
      | (rw [tot1 (by assumption)]; rfl)
      | (rw [tot2 (by assumption) (by assumption)]; rfl)
      | (rw [tot4 (q := ⟨nx, op, ct, a, b, c, d, e, .nilsl⟩) (by assumption) (by assumption) (by assumption)]; rfl)
      | (rw [tot5 (q := ⟨nx, op, ct, a, b, c, d, e, .nilsl⟩) (by assumption) (by assumption) (by assumption)]; rfl)
      | (exfalso
         obtain ⟨-, h5, h6⟩ := tot3 (q := ⟨nx, op, ct, a, b, c, d, e, .nilsl⟩) (by assumption) (by assumption) (by assumption) (by assumption)
         have h7 : totI ⟨nx, op, ct, a, b, c, d, e, .nilsl⟩ m < 0 := h6
         omega)
      | trace_state
  · refine call_fn tysOK orders (C := C11) C11_ok H0 Tryd.func11 (by kernel_rfl) (by kernel_rfl) ?_
    intro oBin oCmp oWrap oNeg oCom oBnot oBeq oPickB oPickI oPickS oInb oSub2 oMinI oMaxI oSlen oSidx oScat oSsub oScmp oScok oLen oCI oCB oCS oCL oOkR oApp oApok oSub oSetc oRep oMkok oNthI oNthB oNthS oIteI oIteB oIteS oB2s oS2b oAllB oWf oDeq ho; cbv
    (repeat (any_goals (first
    | with_reducible refine And.intro ?_ ?_
    | exact True.intro
    | with_reducible exact rfl
    | (with_reducible refine Nd.mk ?_; try dsimp only)
    | (with_reducible refine Pz.mk ?_; cbv)
    | (with_reducible refine RgOK.mk ?_; kernel_rfl)
    | (with_reducible refine OrOK.mk ?_; kernel_rfl)
    | (with_reducible refine Al.mk (fun x hx => ?_); cbv)
    | (with_reducible refine hK' _ ?_; clear hK' K'; cbv)
    | (with_reducible refine brA.yes (by first | assumption | exact rfl | (simp only [show oCmp = real.cmp from congrArg Ar.cmp ho, show oBin = real.bin from congrArg Ar.bin ho, show oScmp = real.scmp from congrArg Ar.scmp ho, show oPickB = real.pickB from congrArg Ar.pickB ho]; decide)) ?_; cbv)
    | (with_reducible refine brA.no (by first | assumption | exact rfl | (simp only [show oCmp = real.cmp from congrArg Ar.cmp ho, show oBin = real.bin from congrArg Ar.bin ho, show oScmp = real.scmp from congrArg Ar.scmp ho, show oPickB = real.pickB from congrArg Ar.pickB ho]; decide)) ?_; cbv)
    | (with_reducible refine bcase (fun hb => ?_) (fun hb => ?_) <;> cbv)
    | (intro K' hK'; cbv))))
    all_goals ((try clear hK' K'); cases ho; (try simp only [nc1] at *); (try simp only [Int.ofNat_eq_natCast] at *))
    all_goals (try first | exact g' | omega)
    all_goals (try subst_vars)
    all_goals first
      | (rw [tot1 (by assumption)]; rfl)
      | (rw [tot2 (by assumption) (by assumption)]; rfl)
      | (rw [tot4 (q := ⟨nx, op, ct, a, b, c, d, e, .imm l⟩) (by assumption) (by assumption) (by assumption)]; rfl)
      | (rw [tot5 (q := ⟨nx, op, ct, a, b, c, d, e, .imm l⟩) (by assumption) (by assumption) (by assumption)]; rfl)
      | (obtain ⟨h4, h5, h6⟩ := tot3 (q := ⟨nx, op, ct, a, b, c, d, e, .imm l⟩) (by assumption) (by assumption) (by assumption) (by assumption)
         first
           | exact decide_eq_true ⟨h5, h6⟩
           | exact rows_wf hrows.2
           | exact rows_ok hrows.2 h5 h6
           | (rw [h4]; have h7 := rows_cI hrows.2 h5 h6; unfold totI at h7 ⊢; simp only [rowsD] at h7 ⊢; rw [← h7]))
      | trace_state
end Go.Proofs.YtjkfkgpdlflbhaaDoor.Ab
