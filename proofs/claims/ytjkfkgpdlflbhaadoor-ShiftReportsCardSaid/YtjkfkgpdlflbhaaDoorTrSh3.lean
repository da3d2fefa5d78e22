/- Shifts, by the executor: Add. -/
import Derived.Test.YtjkfkgpdlflbhaaDoorTrSh2
namespace Go.Proofs.YtjkfkgpdlflbhaaDoor.Ab
open Go Go.RowKit Go.Sort
set_option linter.unusedVariables false
set_option linter.unusedSimpArgs false
set_option maxRecDepth 100000
set_option maxHeartbeats 4000000
def cT6 (r : R6) : List AV := [.d (.int .i64 r.x), .d (.int .i64 r.a), .d (.int .i64 r.b), .d (.int .i64 r.c), .d (.int .i64 r.d), .d (.int .i64 r.e)]
/-- Where a kind's sum stands. -/
def kAt (k : Int) (v : AV) : Prop := (k < 1 ∨ 5 < k) ∧ v = .d .nilp ∨ k = 1 ∧ v = .ptr 0 1 ∨ k = 2 ∧ v = .ptr 0 2 ∨ k = 3 ∧ v = .ptr 0 3 ∨ k = 4 ∧ v = .ptr 0 4 ∨ k = 5 ∧ v = .ptr 0 5
theorem K_sum0 (k : Int) (r : R6) : CallE Tryd.prog 17 [.ptr 0 0, .d (.int .u8 k)] 1 [(0, .cells (cT6 r))] (fun v n h => n = 1 ∧ h = [(0, .cells (cT6 r))] ∧ Nd (fun _ => kAt k v)) := by
  obtain ⟨x, a, b, c, d, e⟩ := r
  refine call_fn tysOK orders (C := C0) C0_ok H0 Tryd.func17 (by kernel_rfl) (by kernel_rfl) ?_
  intro oBin oCmp oWrap oNeg oCom oBnot oBeq oPickB oPickI oPickS oInb oSub2 oMinI oMaxI oSlen oSidx oScat oSsub oScmp oScok oLen oCI oCB oCS oCL oOkR oApp oApok oSub oSetc oRep oMkok oNthI oNthB oNthS oIteI oIteB oIteS oB2s oS2b oAllB oWf oDeq ho; cbv
  (repeat (any_goals (first
    | with_reducible refine And.intro ?_ ?_
    | exact True.intro
    | with_reducible exact rfl
    | (with_reducible refine Nd.mk ?_; try dsimp only)
    | (with_reducible refine Pz.mk ?_; cbv)
    | (with_reducible refine RgOK.mk ?_; kernel_rfl)
    | (with_reducible refine OrOK.mk ?_; kernel_rfl)
    | (with_reducible refine Al.mk (fun x hx => ?_); cbv)
    | (with_reducible refine hK' _ ?_; clear hK' K'; cbv)
    | (with_reducible refine brA.yes (by first | assumption | exact rfl | (simp only [show oCmp = real.cmp from congrArg Ar.cmp ho, show oBin = real.bin from congrArg Ar.bin ho, show oScmp = real.scmp from congrArg Ar.scmp ho, show oPickB = real.pickB from congrArg Ar.pickB ho]; decide)) ?_; cbv)
    | (with_reducible refine brA.no (by first | assumption | exact rfl | (simp only [show oCmp = real.cmp from congrArg Ar.cmp ho, show oBin = real.bin from congrArg Ar.bin ho, show oScmp = real.scmp from congrArg Ar.scmp ho, show oPickB = real.pickB from congrArg Ar.pickB ho]; decide)) ?_; cbv)
    | (with_reducible refine bcase (fun hb => ?_) (fun hb => ?_) <;> cbv)
    | (intro K' hK'; cbv))))
  all_goals ((try clear hK' K'); cases ho; (try simp only [real, rBin, rCmp, Op.intArith, decide_eq_true_eq, decide_eq_false_iff_not, ge_iff_le, gt_iff_lt, Bool.cond_true, Bool.cond_false, beq_iff_eq, beq_eq_false_iff_ne, bne_iff_ne, bne_eq_false_iff_eq, ne_eq, Bool.not_eq_true, Bool.false_eq_true, Bool.true_eq_false, not_true_eq_false, not_false_eq_true] at *); (try simp only [nc1] at *); (try simp only [Int.ofNat_eq_natCast] at *))
  · subst hb; exact .inr (.inl ⟨rfl, rfl⟩)
  · subst hb; exact .inr (.inr (.inl ⟨rfl, rfl⟩))
  · subst hb; exact .inr (.inr (.inr (.inl ⟨rfl, rfl⟩)))
  · subst hb; exact .inr (.inr (.inr (.inr (.inl ⟨rfl, rfl⟩))))
  · subst hb; exact .inr (.inr (.inr (.inr (.inr ⟨rfl, rfl⟩))))
  · exact .inl ⟨by omega, rfl⟩
def pat6 (h : Hp) (i : Nat) (k : R6 → Prop) : Prop := match hget h i with
  | some (.cells [.d (.int .i64 x), .d (.int .i64 a), .d (.int .i64 b), .d (.int .i64 c), .d (.int .i64 d), .d (.int .i64 e)]) => k ⟨x, a, b, c, d, e⟩
  | _ => False
theorem pat6_elim {h : Hp} {i : Nat} {k : R6 → Prop} (hp : pat6 h i k) : ∃ q, hget h i = some (.cells (cT6 q)) ∧ k q := by
  unfold pat6 at hp
  split at hp
  · rename_i x a b c d e hg
    exact ⟨⟨x, a, b, c, d, e⟩, hg, hp⟩
  · exact hp.elim
def outR (i : Nat) (h : Hp) (q : R6) : Hp := outs (fun _ => i) 1 h ++ [(i, .cells (cT6 q))]
def S_sum (i : Nat) (k : Int) (K : CallK) (n : Nat) (h : Hp) : Prop := pat6 h i fun r => Nd (fun _ => i < n) ∧ Al (fun _ : Unit => k < 1 ∨ 5 < k) (fun _ => K (.d .nilp) n (outR i h r)) ∧ Al (fun _ : Unit => k = 1) (fun _ => K (.ptr i 1) n (outR i h r)) ∧ Al (fun _ : Unit => k = 2) (fun _ => K (.ptr i 2) n (outR i h r)) ∧ Al (fun _ : Unit => k = 3) (fun _ => K (.ptr i 3) n (outR i h r)) ∧ Al (fun _ : Unit => k = 4) (fun _ => K (.ptr i 4) n (outR i h r)) ∧ Al (fun _ : Unit => k = 5) (fun _ => K (.ptr i 5) n (outR i h r))
theorem L_sum {i n : Nat} {k : Int} {h : Hp} {K : CallK} (hK : S_sum i k K n h) : CallE Tryd.prog 17 [.ptr i 0, .d (.int .u8 k)] n h K := by
  obtain ⟨r, hg, ⟨hi⟩, k0, k1, k2, k3, k4, k5⟩ := pat6_elim hK
  refine call_recv (K_sum0 k r) rfl rfl hi hg ?_
  rintro v n1 h1 ⟨rfl, rfl, ⟨⟨hk, rfl⟩ | ⟨hk, rfl⟩ | ⟨hk, rfl⟩ | ⟨hk, rfl⟩ | ⟨hk, rfl⟩ | ⟨hk, rfl⟩⟩⟩ -
  · exact k0.h () hk
  · exact k1.h () hk
  · exact k2.h () hk
  · exact k3.h () hk
  · exact k4.h () hk
  · exact k5.h () hk
def S_cadd (a b : Int) (K : CallK) (n : Nat) (h : Hp) : Prop := Nd (fun _ => I64 a ∧ I64 b) ∧ Al (fun p : Int × Int => I64 p.1) fun p => K (.tup [.d (.int .i64 p.1), .d (.int .i64 p.2)]) n h
theorem L_cadd {a b : Int} {n : Nat} {h : Hp} {K : CallK} (hK : S_cadd a b K n h) : CallE Tryd.prog 18 [.d (.int .i64 a), .d (.int .i64 b)] n h K :=
  call_old (v := .tuple #[.int .i64 (amt (a + b)), .int .i64 (amtE (a + b))]) Tryd.func18 (by kernel_rfl) (by kernel_rfl) (vals := [.int .i64 a, .int .i64 b]) (by intro ρ w M vs h; simpa [RelVs, RelV, RelD] using h)
    (by intro ρ w M; exact ⟨#[.int .i64 (amt (a + b)), .int .i64 (amtE (a + b))], rfl, _, _, rfl, rfl, _, _, rfl, rfl, rfl⟩) (fun w hJ => C_Add a b hK.1.h.1 hK.1.h.2 w) (hK.2.h (amt (a + b), amtE (a + b)) (amt_in _))
def C10 : CallS := fun f args n h K => match f with
  | 18 => (match args with | [.d (.int .i64 a), .d (.int .i64 b)] => S_cadd a b K n h | _ => False)
  | 17 => (match args with | [.ptr i 0, .d (.int .u8 k)] => S_sum i k K n h | _ => False)
  | _ => False
theorem C10_ok : ∀ f args n h K, C10 f args n h K → CallE Tryd.prog f args n h K := by
  intro f args n h K hc
  unfold C10 at hc
  split at hc
  · split at hc
    · exact L_cadd hc
    · exact hc.elim
  · split at hc
    · exact L_sum hc
    · exact hc.elim
  · exact hc.elim
/-- What is left of a result's state. -/
def Fin (n0 : Nat) (K : CallK) (v : AV) (n : Nat) (h : Hp) : Prop := ∃ k v2 n2 h2, wkOK n0 k ⟨[v], n, h⟩ = true ∧ wk k ⟨[v], n, h⟩ = ⟨[v2], n2, h2⟩ ∧ K v2 n2 h2
theorem CallE.fin {P : Program} {f n : Nat} {h : Hp} {args : List AV} {K : CallK} (hc : CallE P f args n h (fun v n' h' => Nd (fun _ => Fin n K v n' h'))) : CallE P f args n h K := by
  have key : ∀ {ρ w v w'}, Done (fun v n' h' => Nd (fun _ => Fin n K v n' h')) n ρ h w v w' → Done K n ρ h w v w' := by
    rintro ρ w v w' ⟨av, ρ', n', h', ⟨k, v2, n2, h2, h1, h3, h4⟩, hr, hn, hv, hg⟩
    obtain ⟨ρ2, r2, g2, g3⟩ := wk_sound (n0 := n) (k := k) (st := ⟨[av], n', h'⟩) (a := ⟨#[v], []⟩) ⟨rfl, ⟨v, [], rfl, hv, rfl⟩, hr⟩ hn h1
    rw [h3] at r2 g2 g3
    obtain ⟨x, r, hx, hx2, -⟩ := r2.fr
    simp only [List.cons.injEq] at hx
    obtain ⟨rfl, -⟩ := hx
    exact ⟨v2, ρ2, n2, h2, h4, r2.rep, g2, hx2, hg.trans g3⟩
  cases hc with
  | enter fn hf hn hb run =>
    refine .enter fn hf hn hb (fun ρ w vs hr ha => Calls.mono (run ρ w vs hr ha) ?_)
    rintro e w' ⟨v, rfl, hd⟩
    exact ⟨v, rfl, key hd⟩
  | ext run =>
    refine .ext (fun ρ w vs hr ha => ?_)
    obtain ⟨v, w', h1, h2⟩ := run ρ w vs hr ha
    exact ⟨v, w', h1, key h2⟩
theorem opT {b : Bool} (h : (!b) = false) : b = true := by cases b <;> simp_all
theorem add_q {nx ct a b c d e : Int} {cl : D} (g : gQ ⟨nx, true, ct, a, b, c, d, e, cl⟩) {a' b' c' d' e' : Int} (hc : ct < 4294967295) (h : I64 a' ∧ I64 b' ∧ I64 c' ∧ I64 d' ∧ I64 e') : gQ ⟨nx, true, IntKind.i64.wrap (ct + 1), a', b', c', d', e', cl⟩ := by
  have h1 := g.ct
  simp only at h1
  exact ⟨g.nx, by show 0 ≤ IntKind.i64.wrap (ct + 1) ∧ IntKind.i64.wrap (ct + 1) ≤ 4294967295; rw [wrap_nx (by omega)]; omega, h, g.cl, g.rows⟩
theorem K_Add0 (q : Q) (g : gQ q) (k a : Int) (ha : I64 a) : CallE Tryd.prog 8 [.ptr 0 0, .d (.int .u8 k), .d (.int .i64 a)] 1 [(0, .cells (qC q))] (fun v n h => n = 1 ∧ Nd (fun _ => ∃ q', gQ q' ∧ h = [(0, .cells (qC q'))])) := by
  have g' := g
  obtain ⟨nx, op, ct, x1, x2, x3, x4, x5, cl⟩ := q
  obtain ⟨hnx, hct, ⟨i1, i2, i3, i4, i5⟩, hcl, hrows⟩ := g
  clear hcl hrows
  refine CallE.fin ?_
  refine call_fn tysOK orders (C := C10) C10_ok H0 Tryd.func8 (by kernel_rfl) (by kernel_rfl) ?_
  intro oBin oCmp oWrap oNeg oCom oBnot oBeq oPickB oPickI oPickS oInb oSub2 oMinI oMaxI oSlen oSidx oScat oSsub oScmp oScok oLen oCI oCB oCS oCL oOkR oApp oApok oSub oSetc oRep oMkok oNthI oNthB oNthS oIteI oIteB oIteS oB2s oS2b oAllB oWf oDeq ho; cbv
  (repeat (any_goals (first
    | with_reducible refine And.intro ?_ ?_
    | exact True.intro
    | with_reducible exact rfl
    | (with_reducible refine Nd.mk ?_; try dsimp only)
    | (with_reducible refine Pz.mk ?_; cbv)
    | (with_reducible refine RgOK.mk ?_; kernel_rfl)
    | (with_reducible refine OrOK.mk ?_; kernel_rfl)
    | (with_reducible refine Al.mk (fun x hx => ?_); cbv)
    | (with_reducible refine hK' _ ?_; clear hK' K'; cbv)
    | (with_reducible refine brA.yes (by first | assumption | exact rfl | (simp only [show oCmp = real.cmp from congrArg Ar.cmp ho, show oBin = real.bin from congrArg Ar.bin ho, show oScmp = real.scmp from congrArg Ar.scmp ho, show oPickB = real.pickB from congrArg Ar.pickB ho]; decide)) ?_; cbv)
    | (with_reducible refine brA.no (by first | assumption | exact rfl | (simp only [show oCmp = real.cmp from congrArg Ar.cmp ho, show oBin = real.bin from congrArg Ar.bin ho, show oScmp = real.scmp from congrArg Ar.scmp ho, show oPickB = real.pickB from congrArg Ar.pickB ho]; decide)) ?_; cbv)
    | (with_reducible refine bcase (fun hb => ?_) (fun hb => ?_) <;> cbv)
    | (intro K' hK'; cbv))))
  all_goals ((try clear hK' K'); cases ho; (try simp only [real, rBin, rCmp, Op.intArith, decide_eq_true_eq, decide_eq_false_iff_not, ge_iff_le, gt_iff_lt, Bool.cond_true, Bool.cond_false, beq_iff_eq, beq_eq_false_iff_ne, bne_iff_ne, bne_eq_false_iff_eq, ne_eq, Bool.not_eq_true, Bool.false_eq_true, Bool.true_eq_false, not_true_eq_false, not_false_eq_true] at *); (try simp only [nc1] at *); (try simp only [Int.ofNat_eq_natCast] at *))
  all_goals first
    | exact ⟨by assumption, ha⟩
    | omega
    | skip
  all_goals refine ⟨⟨[], [], [], [0], 1⟩, .top, _, _, rfl, rfl, rfl, ?_⟩
  all_goals first
    | exact ⟨⟨_, g', rfl⟩⟩
    | skip
  all_goals (obtain rfl : op = true := opT (by assumption))
  all_goals exact ⟨⟨_, add_q g' (by omega) ⟨by assumption, by assumption, by assumption, by assumption, by assumption⟩, rfl⟩⟩
def S_Add (i : Nat) (k a : Int) (K : CallK) (n : Nat) (h : Hp) : Prop := pat h i fun q => Nd (fun _ => i < n ∧ gQ q ∧ I64 a) ∧ Al gQ fun q' => K .top n (outI i h q')
theorem L_Add {i n : Nat} {k a : Int} {h : Hp} {K : CallK} (hK : S_Add i k a K n h) : CallE Tryd.prog 8 [.ptr i 0, .d (.int .u8 k), .d (.int .i64 a)] n h K := by
  obtain ⟨q, hg, ⟨⟨hi, g, ha⟩⟩, hk⟩ := pat_elim hK
  refine toTop (call_recv (K_Add0 q g k a ha) rfl (qC_ids q) hi hg ?_)
  rintro v n1 h1 ⟨rfl, ⟨q', g', rfl⟩⟩ -
  exact hk.h _ g'
end Go.Proofs.YtjkfkgpdlflbhaaDoor.Ab
