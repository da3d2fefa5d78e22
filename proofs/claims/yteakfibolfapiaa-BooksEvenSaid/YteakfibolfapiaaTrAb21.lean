/- How calls of functions of data are told. -/
import Derived.Test.YteakfibolfapiaaTrAb20
namespace Go.Proofs.Yteakfibolfapiaa.Ab
open Go.RowKit Go.Sort
set_option linter.unusedVariables false
set_option linter.unusedSimpArgs false

/-! the real functions behind letters, for runs on letters -/
theorem opq_elim {p : Ar → Prop} (h : ∀ (oBin : BinOp → IntKind → Int → Int → Int) (oCmp : BinOp → Int → Int → Bool) (oWrap : IntKind → Int → Int) (oNeg : IntKind → Int → Int) (oCom : IntKind → Int → Int) (oBnot : Bool → Bool) (oBeq : Bool → Bool → Bool) (oPickB : Bool → Bool → Bool → Bool) (oPickI : Bool → Int → Int → Int) (oPickS : Bool → List UInt8 → List UInt8 → List UInt8) (oInb : Int → Int → Bool) (oSub2 : Int → Int → Int → Bool) (oMinI : Int → Int → Int) (oMaxI : Int → Int → Int) (oSlen : List UInt8 → Int) (oSidx : List UInt8 → Int → Int) (oScat : List UInt8 → List UInt8 → List UInt8) (oSsub : List UInt8 → Int → Int → List UInt8) (oScmp : BinOp → List UInt8 → List UInt8 → Bool) (oScok : List UInt8 → List UInt8 → Bool) (oLen : List (List D) → Int) (oCI : List (List D) → Int → Nat → Int) (oCB : List (List D) → Int → Nat → Bool) (oCS : List (List D) → Int → Nat → List UInt8) (oCL : List (List D) → Int → Nat → List (List D)) (oOkR : List (List D) → Int → Nat → List Kd → Bool) (oApp : List (List D) → List (List D) → List (List D)) (oApok : List (List D) → List (List D) → Nat → Nat → Bool) (oSub : List (List D) → Int → Int → List (List D)) (oSetc : List (List D) → Int → Nat → List D → List (List D)) (oRep : Int → List D → List (List D)) (oMkok : Int → Int → Nat → Bool) (oNthI : List Int → Int → Int) (oNthB : List Bool → Int → Bool) (oNthS : List (List UInt8) → Int → List UInt8) (oIteI : Int → Nat → Int → Int → Int) (oIteB : Int → Nat → Bool → Bool → Bool) (oIteS : Int → Nat → List UInt8 → List UInt8 → List UInt8) (oB2s : List (List D) → List UInt8) (oS2b : List UInt8 → List (List D)) (oAllB : List (List D) → Bool) (oWf : List (List D) → Nat → Bool) (oDeq : List D → List D → Bool) (oMlen : List (Int × Value) → Int) (oMhas : List (Int × Value) → Int → Bool) (oMI : List (Int × Value) → Int → Nat → Int) (oMB : List (Int × Value) → Int → Nat → Bool) (oMS : List (Int × Value) → Int → Nat → List UInt8) (oMok : List (Int × Value) → List Kd → Bool → Bool) (oMput : List (Int × Value) → Int → Value → List (Int × Value)) (oMdel : List (Int × Value) → Int → List (Int × Value)) (oSgo : List UInt8 → Int → Bool) (oSru : List UInt8 → Int → Int) (oSnx : List UInt8 → Int → Int), (⟨oBin, oCmp, oWrap, oNeg, oCom, oBnot, oBeq, oPickB, oPickI, oPickS, oInb, oSub2, oMinI, oMaxI, oSlen, oSidx, oScat, oSsub, oScmp, oScok, oLen, oCI, oCB, oCS, oCL, oOkR, oApp, oApok, oSub, oSetc, oRep, oMkok, oNthI, oNthB, oNthS, oIteI, oIteB, oIteS, oB2s, oS2b, oAllB, oWf, oDeq, oMlen, oMhas, oMI, oMB, oMS, oMok, oMput, oMdel, oSgo, oSru, oSnx⟩ : Ar) = ⟨real.bin, real.cmp, real.wrap, real.neg, real.com, real.bnot, real.beq, real.pickB, real.pickI, real.pickS, real.inb, real.sub2, real.minI, real.maxI, real.slen, real.sidx, real.scat, real.ssub, real.scmp, real.scok, real.len, real.cI, real.cB, real.cS, real.cL, real.okR, real.app, real.apok, real.sub, real.setc, real.rep, real.mkok, real.nthI, real.nthB, real.nthS, real.iteI, real.iteB, real.iteS, real.b2s, real.s2b, real.allB, real.wf, real.deq, real.mlen, real.mhas, real.mI, real.mB, real.mS, real.mok, real.mput, real.mdel, real.sgo, real.sru, real.snx⟩ → p ⟨oBin, oCmp, oWrap, oNeg, oCom, oBnot, oBeq, oPickB, oPickI, oPickS, oInb, oSub2, oMinI, oMaxI, oSlen, oSidx, oScat, oSsub, oScmp, oScok, oLen, oCI, oCB, oCS, oCL, oOkR, oApp, oApok, oSub, oSetc, oRep, oMkok, oNthI, oNthB, oNthS, oIteI, oIteB, oIteS, oB2s, oS2b, oAllB, oWf, oDeq, oMlen, oMhas, oMI, oMB, oMS, oMok, oMput, oMdel, oSgo, oSru, oSnx⟩) : p real := h _ _ _ _ _ _ _ _ _ _ _ _ _ _ _ _ _ _ _ _ _ _ _ _ _ _ _ _ _ _ _ _ _ _ _ _ _ _ _ _ _ _ _ _ _ _ _ _ _ _ _ _ _ _ rfl
/-- Casts that 'cbv' opened. -/
theorem nc1 (n : Nat) : @NatCast.natCast Int instNatCastInt n = Int.ofNat n := rfl
/-- A condition, shut. -/
structure Nd (p : Unit → Prop) : Prop where
  h : p ()
theorem bcase {b : Bool} {f g : Unit → Prop} (h1 : b = true → f ()) (h2 : b = false → g ()) : brA b f g := by
  cases b
  · exact .no rfl (h2 rfl)
  · exact .yes rfl (h1 rfl)
mutual
theorem renV_none {f : Nat → Nat} : ∀ v : AV, idsV v = [] → renV f v = v
  | .d x, _ => rfl
  | .ptr i off, h => by simp [idsV] at h
  | .iptr l' i g, _ => rfl
  | .rptr i c j g, h => by simp [idsV] at h
  | .aptr i off n c j g, h => by simp [idsV] at h
  | .sl i, h => by simp [idsV] at h
  | .map i, h => by simp [idsV] at h
  | .iter i, h => by simp [idsV] at h
  | .agg vs, h => by rw [renV, renVs_none vs h]
  | .tup vs, h => by rw [renV, renVs_none vs h]
  | .fn g vs, h => by rw [renV, renVs_none vs h]
  | .ifc t x, h => by rw [renV, renV_none x h]
  | .top, _ => rfl
  | .raw _, _ => rfl
theorem renVs_none {f : Nat → Nat} : ∀ v : List AV, idsVs v = [] → renVs f v = v
  | [], _ => rfl
  | x :: r, h => by
    simp only [idsVs, List.append_eq_nil_iff] at h
    rw [renVs, renV_none x h.1, renVs_none r h.2]
end
theorem outs_zero (g : Nat → Nat) : ∀ h : Hp, outs g 0 h = h
  | [] => rfl
  | (i, o) :: r => by simp [outs, outs.hits, outs_zero g r]
section
variable {P : Program} {n : Nat} {h : Hp}
/-- What a function of data gives back. -/
def Gets (R : AV → Prop) : CallK := fun v n h => Nd (fun _ => R v) ∧ idsV v = [] ∧ n = 0 ∧ h = []
theorem call_data {f : Nat} {args : List AV} {R : AV → Prop} {K : CallK} (hc : CallE P f args 0 [] (Gets R)) (ha : idsVs args = []) (hK : ∀ v, R v → K v n h) : CallE P f args n h K := by
  refine call_frame (g := fun i => i) hc (renVs_none _ ha).symm rfl (fun i j hi => absurd hi (Nat.not_lt_zero _)) (fun i hi => absurd hi (Nat.not_lt_zero _)) (fun i o hm => by cases hm) (by rw [ha]; intro j hj; cases hj) ?_
  rintro v n1 h1 - ⟨⟨hr⟩, hv, rfl, rfl⟩
  rw [renV_none _ hv, outs_zero]
  simp only [renH, List.append_nil, Nat.sub_zero, Nat.add_zero]
  exact hK v hr
/-- An older contract, of values alone. -/
theorem call_old {f : Nat} {fn : Func} {args : List AV} {vals : List Value} {av : AV} {v : Value} {K : CallK} (hf : P.funcs[f]? = some fn) (hn : (fn.name == "runtime.NumGoroutine") = false) (hb : fn.body.isNone = false)
    (ha : ∀ ρ w M vs, RelVs ρ w M args vs → vs = vals) (hv : ∀ ρ w M, RelV ρ w M av v) (hc : ∀ w, J w → Calls P f vals.toArray w fun e w' => e = .returned v ∧ Below w.heap.size w w') (hK : K av n h) : CallE P f args n h K := by
  refine .enter fn hf hn hb (fun ρ w vs hr hvs => ?_)
  obtain rfl := ha _ _ _ _ hvs
  refine Calls.mono (hc w hr.old.inv) ?_
  rintro e w' ⟨rfl, hb⟩
  have hg : Grows w w' := fun b o hbo => by rw [hb.block b (lt_of_get hbo)]; exact hbo
  exact ⟨v, rfl, av, ρ, n, h, hK, hr.grow hg, Nat.le_refl _, hv _ _ _, goes_grow hg hb.os hb.tape hb.output hb.size⟩
/-- A function outside, its value. -/
theorem call_ext {f : Nat} {args : List AV} {vals : List Value} {av : AV} {v : Value} {K : CallK} (ha : ∀ ρ w M vs, RelVs ρ w M args vs → vs = vals) (hv : ∀ ρ w M, RelV ρ w M av v)
    (hc : ∀ w, (callFunc f vals.toArray).run P w = .ok (.value v) w) (hK : K av n h) : CallE P f args n h K := by
  refine .ext (fun ρ w vs hr hvs => ?_)
  obtain rfl := ha _ _ _ _ hvs
  exact ⟨v, w, hc w, av, ρ, n, h, hK, hr, Nat.le_refl _, hv _ _ _, Goes.refl _ _ _ _⟩
theorem call_fn {T : Nat → TI} (hT : TysOK P T) (hm : P.follows .mixedOrders = true) {C : CallS} (hC : ∀ f args n h K, C f args n h K → CallE P f args n h K) (H : Hints) {f : Nat} {fn : Func} {args : List AV} {hp : Hp} {K : CallK}
    (hf : P.funcs[f]? = some fn) (hn : (fn.name == "runtime.NumGoroutine") = false) (hb : fn.body.isSome = true)
    (h : ∀ (oBin : BinOp → IntKind → Int → Int → Int) (oCmp : BinOp → Int → Int → Bool) (oWrap : IntKind → Int → Int) (oNeg : IntKind → Int → Int) (oCom : IntKind → Int → Int) (oBnot : Bool → Bool) (oBeq : Bool → Bool → Bool) (oPickB : Bool → Bool → Bool → Bool) (oPickI : Bool → Int → Int → Int) (oPickS : Bool → List UInt8 → List UInt8 → List UInt8) (oInb : Int → Int → Bool) (oSub2 : Int → Int → Int → Bool) (oMinI : Int → Int → Int) (oMaxI : Int → Int → Int) (oSlen : List UInt8 → Int) (oSidx : List UInt8 → Int → Int) (oScat : List UInt8 → List UInt8 → List UInt8) (oSsub : List UInt8 → Int → Int → List UInt8) (oScmp : BinOp → List UInt8 → List UInt8 → Bool) (oScok : List UInt8 → List UInt8 → Bool) (oLen : List (List D) → Int) (oCI : List (List D) → Int → Nat → Int) (oCB : List (List D) → Int → Nat → Bool) (oCS : List (List D) → Int → Nat → List UInt8) (oCL : List (List D) → Int → Nat → List (List D)) (oOkR : List (List D) → Int → Nat → List Kd → Bool) (oApp : List (List D) → List (List D) → List (List D)) (oApok : List (List D) → List (List D) → Nat → Nat → Bool) (oSub : List (List D) → Int → Int → List (List D)) (oSetc : List (List D) → Int → Nat → List D → List (List D)) (oRep : Int → List D → List (List D)) (oMkok : Int → Int → Nat → Bool) (oNthI : List Int → Int → Int) (oNthB : List Bool → Int → Bool) (oNthS : List (List UInt8) → Int → List UInt8) (oIteI : Int → Nat → Int → Int → Int) (oIteB : Int → Nat → Bool → Bool → Bool) (oIteS : Int → Nat → List UInt8 → List UInt8 → List UInt8) (oB2s : List (List D) → List UInt8) (oS2b : List UInt8 → List (List D)) (oAllB : List (List D) → Bool) (oWf : List (List D) → Nat → Bool) (oDeq : List D → List D → Bool) (oMlen : List (Int × Value) → Int) (oMhas : List (Int × Value) → Int → Bool) (oMI : List (Int × Value) → Int → Nat → Int) (oMB : List (Int × Value) → Int → Nat → Bool) (oMS : List (Int × Value) → Int → Nat → List UInt8) (oMok : List (Int × Value) → List Kd → Bool → Bool) (oMput : List (Int × Value) → Int → Value → List (Int × Value)) (oMdel : List (Int × Value) → Int → List (Int × Value)) (oSgo : List UInt8 → Int → Bool) (oSru : List UInt8 → Int → Int) (oSnx : List UInt8 → Int → Int), (⟨oBin, oCmp, oWrap, oNeg, oCom, oBnot, oBeq, oPickB, oPickI, oPickS, oInb, oSub2, oMinI, oMaxI, oSlen, oSidx, oScat, oSsub, oScmp, oScok, oLen, oCI, oCB, oCS, oCL, oOkR, oApp, oApok, oSub, oSetc, oRep, oMkok, oNthI, oNthB, oNthS, oIteI, oIteB, oIteS, oB2s, oS2b, oAllB, oWf, oDeq, oMlen, oMhas, oMI, oMB, oMS, oMok, oMput, oMdel, oSgo, oSru, oSnx⟩ : Ar) = ⟨real.bin, real.cmp, real.wrap, real.neg, real.com, real.bnot, real.beq, real.pickB, real.pickI, real.pickS, real.inb, real.sub2, real.minI, real.maxI, real.slen, real.sidx, real.scat, real.ssub, real.scmp, real.scok, real.len, real.cI, real.cB, real.cS, real.cL, real.okR, real.app, real.apok, real.sub, real.setc, real.rep, real.mkok, real.nthI, real.nthB, real.nthS, real.iteI, real.iteB, real.iteS, real.b2s, real.s2b, real.allB, real.wf, real.deq, real.mlen, real.mhas, real.mI, real.mB, real.mS, real.mok, real.mput, real.mdel, real.sgo, real.sru, real.snx⟩ → aw T ⟨oBin, oCmp, oWrap, oNeg, oCom, oBnot, oBeq, oPickB, oPickI, oPickS, oInb, oSub2, oMinI, oMaxI, oSlen, oSidx, oScat, oSsub, oScmp, oScok, oLen, oCI, oCB, oCS, oCL, oOkR, oApp, oApok, oSub, oSetc, oRep, oMkok, oNthI, oNthB, oNthS, oIteI, oIteB, oIteS, oB2s, oS2b, oAllB, oWf, oDeq, oMlen, oMhas, oMI, oMB, oMS, oMok, oMput, oMdel, oSgo, oSru, oSnx⟩ C H n (fn.body.getD .skip) ⟨args ++ List.replicate (fn.ntmps - args.length) (.tup []), n, hp⟩ (retK T n fn.results.toList K)) : CallE P f args n hp K := by
  obtain ⟨c, hc⟩ := Option.isSome_iff_exists.1 hb
  refine call_of hT hC hm H hf hn hc ?_
  rw [hc] at h
  exact opq_elim (p := fun A => aw T A C H n ((some c).getD .skip) ⟨args ++ List.replicate (fn.ntmps - args.length) (.tup []), n, hp⟩ (retK T n fn.results.toList K)) h
end
/-- A slot's number. -/
def ctr (i : Nat) (st : St) : Int := match st.fr.getD i .top with | .d (.int _ n) => n | _ => 0
/-- A result told otherwise. -/
theorem CallE.weaken {P : Program} {f : Nat} {args : List AV} {n : Nat} {h : Hp} {K1 K : CallK} (hc : CallE P f args n h K1) (hk : ∀ v n h, K1 v n h → ∃ v', K v' n h ∧ ∀ ρ w M x, RelV ρ w M v x → RelV ρ w M v' x) : CallE P f args n h K := by
  have key : ∀ n ρ h w v w', Done K1 n ρ h w v w' → Done K n ρ h w v w' := by
    rintro n ρ h w v w' ⟨av, ρ', n', h', h1, h2, h3, h4, h5⟩
    obtain ⟨av', g1, g2⟩ := hk av n' h' h1
    exact ⟨av', ρ', n', h', g1, h2, h3, g2 _ _ _ _ h4, h5⟩
  cases hc with
  | enter fn hf hn hb run => exact .enter fn hf hn hb (fun ρ w vs hr hv => (run ρ w vs hr hv).mono fun e w' ⟨v, he, hd⟩ => ⟨v, he, key _ _ _ _ _ _ hd⟩)
  | ext run => exact .ext (fun ρ w vs hr hv => by
      obtain ⟨v, w', h1, h2⟩ := run ρ w vs hr hv
      exact ⟨v, w', h1, key _ _ _ _ _ _ h2⟩)
/-! small numbers -/
theorem wrap_i64 (x : Int) (h0 : -9223372036854775808 ≤ x) (h1 : x ≤ 9223372036854775807) : IntKind.i64.wrap x = x := by
  simp only [IntKind.wrap, IntKind.bits, IntKind.signed]; simp; omega
theorem wrap_u64 (x : Int) (h0 : 0 ≤ x) (h1 : x ≤ 18446744073709551615) : IntKind.u64.wrap x = x := by
  simp only [IntKind.wrap, IntKind.bits, IntKind.signed]; simp; omega
theorem wrap_i32 (x : Int) (h0 : -2147483648 ≤ x) (h1 : x ≤ 2147483647) : IntKind.i32.wrap x = x := by
  simp only [IntKind.wrap, IntKind.bits, IntKind.signed]; simp; omega
theorem wrap_u32 (x : Int) (h0 : 0 ≤ x) (h1 : x ≤ 4294967295) : IntKind.u32.wrap x = x := by
  simp only [IntKind.wrap, IntKind.bits, IntKind.signed]; simp; omega
theorem wrap_u8 (x : Int) (h0 : 0 ≤ x) (h1 : x ≤ 255) : IntKind.u8.wrap x = x := by
  simp only [IntKind.wrap, IntKind.bits, IntKind.signed]; simp; omega
/-- No calls. -/
def C0 : CallS := fun _ _ _ _ _ => False
theorem C0_ok {P : Program} : ∀ f args n h K, C0 f args n h K → CallE P f args n h K := fun _ _ _ _ _ h => h.elim
def H0 : Hints := ⟨[], [], 0⟩
end Go.Proofs.Yteakfibolfapiaa.Ab
