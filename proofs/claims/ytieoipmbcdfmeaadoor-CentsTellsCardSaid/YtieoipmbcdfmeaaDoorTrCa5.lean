/- Differences and products. -/
import Derived.Test.YtieoipmbcdfmeaaDoorTrCa4
namespace Go.Proofs.YtieoipmbcdfmeaaDoor.Ab
open Go Go.RowKit Go.Sort
set_option linter.unusedVariables false
set_option linter.unusedSimpArgs false
set_option maxRecDepth 100000
set_option maxHeartbeats 4000000
/-- A wide sum's value. -/
def vv (h l : Int) : Int := h * 18446744073709551616 + l
theorem vv_of (V : Int) : vv (hiW V) (loW V) = V := by unfold vv hiW loW; omega
theorem vv_hi {h l : Int} (h0 : 0 ≤ l) (h1 : l ≤ 18446744073709551615) : hiW (vv h l) = h ∧ loW (vv h l) = l := by unfold vv hiW loW; omega
def S_wadd (h l c : Int) (K : CallK) (n : Nat) (hp : Hp) : Prop := Nd (fun _ => (0 ≤ l ∧ l ≤ 18446744073709551615) ∧ Mid (vv h l) ∧ I64 c) ∧ Al (fun x => x = hiW (vv h l + c)) fun x => Al (fun y => y = loW (vv h l + c)) fun y => K (.agg [.d (.int .i64 x), .d (.int .u64 y)]) n hp
theorem K_wadd {h l c : Int} {n : Nat} {hp : Hp} {K : CallK} (hK : S_wadd h l c K n hp) : CallE Tryd.prog 31 [.agg [.d (.int .i64 h), .d (.int .u64 l)], .d (.int .i64 c)] n hp K := by
  obtain ⟨⟨h1, h2, h3⟩, hK⟩ := hK
  obtain ⟨e1, e2⟩ := vv_hi (h := h) h1.1 h1.2
  refine call_old (v := .agg #[.int .i64 (hiW (vv h l + c)), .int .u64 (loW (vv h l + c))]) Tryd.func31 (by kernel_rfl) (by kernel_rfl) (vals := [.agg #[.int .i64 h, .int .u64 l], .int .i64 c]) ?_ (by intro ρ w M; simp [RelVs, RelV, RelD]) (fun w _ => ?_) ((hK.h _ rfl).h _ rfl)
  · rintro ρ w M vs ⟨v, r, rfl, ⟨cs, rfl, hc⟩, hr⟩
    obtain ⟨c1, r1, e3, rfl, c2, r2, rfl, rfl, rfl⟩ := hc
    obtain ⟨c3, r3, rfl, rfl, rfl⟩ := hr
    obtain ⟨cs⟩ := cs
    simp only at e3
    subst e3
    rfl
  · have := C_add (vv h l) c h2 h3 w
    rw [e1, e2] at this
    exact this
def S_wcents (h l : Int) (K : CallK) (n : Nat) (hp : Hp) : Prop := Nd (fun _ => (0 ≤ l ∧ l ≤ 18446744073709551615) ∧ Mid (vv h l)) ∧ Al (fun x => x = amt (vv h l)) fun x => Al (fun y => y = amtE (vv h l)) fun y => K (.tup [.d (.int .i64 x), .d (.int .i64 y)]) n hp
theorem K_wcents {h l : Int} {n : Nat} {hp : Hp} {K : CallK} (hK : S_wcents h l K n hp) : CallE Tryd.prog 32 [.agg [.d (.int .i64 h), .d (.int .u64 l)]] n hp K := by
  obtain ⟨⟨h1, h2⟩, hK⟩ := hK
  obtain ⟨e1, e2⟩ := vv_hi (h := h) h1.1 h1.2
  refine call_old (v := .tuple #[.int .i64 (amt (vv h l)), .int .i64 (amtE (vv h l))]) Tryd.func32 (by kernel_rfl) (by kernel_rfl) (vals := [.agg #[.int .i64 h, .int .u64 l]]) ?_ (by intro ρ w M; simp [RelVs, RelV, RelD]) (fun w _ => ?_) ((hK.h _ rfl).h _ rfl)
  · rintro ρ w M vs ⟨v, r, rfl, ⟨cs, rfl, hc⟩, rfl⟩
    obtain ⟨c1, r1, e3, rfl, c2, r2, rfl, rfl, rfl⟩ := hc
    obtain ⟨cs⟩ := cs
    simp only at e3
    subst e3
    rfl
  · have := C_cents (vv h l) h2 w
    rw [e1, e2] at this
    exact this
theorem agg_D {ρ : Env} {w : World} {M : Nat → Prop} {k1 k2 : IntKind} {x y : Int} {v : Value} (h : RelV ρ w M (.d (.agg [.int k1 x, .int k2 y])) v) : RelV ρ w M (.agg [.d (.int k1 x), .d (.int k2 y)]) v := by
  obtain ⟨cs, rfl, c1, r1, e3, rfl, c2, r2, rfl, rfl, rfl⟩ := h
  exact ⟨cs, rfl, _, _, e3, rfl, _, _, rfl, rfl, rfl⟩
theorem CallE.args {P : Program} {f n : Nat} {args args' : List AV} {h : Hp} {K : CallK} (hc : CallE P f args' n h K) (ha : ∀ ρ w M vs, RelVs ρ w M args vs → RelVs ρ w M args' vs) : CallE P f args n h K := by
  cases hc with
  | enter fn hf hn hb run => exact .enter fn hf hn hb (fun ρ w vs hr hv => run ρ w vs hr (ha _ _ _ _ hv))
  | ext run => exact .ext (fun ρ w vs hr hv => run ρ w vs hr (ha _ _ _ _ hv))
theorem K_waddD {h l c : Int} {n : Nat} {hp : Hp} {K : CallK} (hK : S_wadd h l c K n hp) : CallE Tryd.prog 31 [.d (.agg [.int .i64 h, .int .u64 l]), .d (.int .i64 c)] n hp K :=
  (K_wadd hK).args (by rintro ρ w M vs ⟨v, r, rfl, h1, h2⟩; exact ⟨_, _, rfl, agg_D h1, h2⟩)
def C20 : CallS := fun f args n h K => match f with
  | 31 => (match args with | [.d (.agg [.int .i64 h1, .int .u64 l1]), .d (.int .i64 c)] => S_wadd h1 l1 c K n h | [.agg [.d (.int .i64 h1), .d (.int .u64 l1)], .d (.int .i64 c)] => S_wadd h1 l1 c K n h | _ => False)
  | 32 => (match args with | [.agg [.d (.int .i64 h1), .d (.int .u64 l1)]] => S_wcents h1 l1 K n h | _ => False)
  | _ => False
theorem C20_ok : ∀ f args n h K, C20 f args n h K → CallE Tryd.prog f args n h K := by
  intro f args n h K hc
  unfold C20 at hc
  split at hc
  · split at hc
    · exact K_waddD hc
    · exact K_wadd hc
    · exact hc.elim
  · split at hc
    · exact K_wcents hc
    · exact hc.elim
  · exact hc.elim
theorem vv_00 : vv 0 0 = 0 := rfl
theorem amtR_of {x y : Int} (h : y = x) : amtR x (.tup [.d (.int .i64 (amt y)), .d (.int .i64 (amtE y))]) := by subst h; rfl
theorem bsub_id {x y : Int} (h : I64 (x - y)) : real.bin .sub .i64 x y = x - y := i64_id h
theorem K_Sub0 (a b : Int) (ha : I64 a) (hb : I64 b) : CallE Tryd.prog 20 [.d (.int .i64 a), .d (.int .i64 b)] 0 [] (Gets fun v => amtR (a - b) v) := by
  refine call_fn tysOK orders (C := C20) C20_ok H0 Tryd.func20 (by kernel_rfl) (by kernel_rfl) ?_
  intro oBin oCmp oWrap oNeg oCom oBnot oBeq oPickB oPickI oPickS oInb oSub2 oMinI oMaxI oSlen oSidx oScat oSsub oScmp oScok oLen oCI oCB oCS oCL oOkR oApp oApok oSub oSetc oRep oMkok oNthI oNthB oNthS oIteI oIteB oIteS oB2s oS2b oAllB oWf oDeq ho; cbv
  (repeat (any_goals (first
    | with_reducible refine And.intro ?_ ?_
    | exact True.intro
    | with_reducible exact rfl
    | (with_reducible refine Nd.mk ?_; try dsimp only)
    | (with_reducible refine Al.mk (fun x hx => ?_); cbv)
    | (with_reducible refine hK' _ ?_; clear hK' K'; cbv)
    | (with_reducible refine brA.yes (by first | assumption | exact rfl | (simp only [show oCmp = real.cmp from congrArg Ar.cmp ho, show oBin = real.bin from congrArg Ar.bin ho, show oScmp = real.scmp from congrArg Ar.scmp ho, show oPickB = real.pickB from congrArg Ar.pickB ho]; decide)) ?_; cbv)
    | (with_reducible refine brA.no (by first | assumption | exact rfl | (simp only [show oCmp = real.cmp from congrArg Ar.cmp ho, show oBin = real.bin from congrArg Ar.bin ho, show oScmp = real.scmp from congrArg Ar.scmp ho, show oPickB = real.pickB from congrArg Ar.pickB ho]; decide)) ?_; cbv)
    | (with_reducible refine bcase (fun hb => ?_) (fun hb => ?_) <;> cbv)
    | (intro K' hK'; cbv))))
  all_goals ((try clear hK' K'); cases ho; (try simp only [nc1] at *); (try simp only [Int.ofNat_eq_natCast] at *))
  all_goals (have hb1 : real.bin .sub .i64 (-1) b = -1 - b := bsub_id (by unfold I64 at *; omega))
  all_goals (try subst_vars)
  all_goals (try simp only [vv_of, vv_00])
  all_goals (try rw [hb1])
  all_goals first
    | exact loW_0 _
    | exact loW_1 _
    | assumption
    | omega
    | (unfold Mid I64 at *; omega)
    | (unfold I64 at *; omega)
    | exact amtR_of (by omega)
/-! the reference's difference -/
def S_Half (a : Int) (K : CallK) (n : Nat) (hp : Hp) : Prop := Nd (fun _ => I64 a) ∧ Al (fun x => x = QU a) fun x => Al (fun y => y = RU a) fun y => K (.agg [.d (.int .i64 x), .d (.int .i64 y)]) n hp
theorem K_Half {a : Int} {n : Nat} {hp : Hp} {K : CallK} (hK : S_Half a K n hp) : CallE Tryd.prog 33 [.d (.int .i64 a)] n hp K :=
  call_old (v := .agg #[.int .i64 (QU a), .int .i64 (RU a)]) Tryd.func33 (by kernel_rfl) (by kernel_rfl) (vals := [.int .i64 a]) (by intro ρ w M vs h; simpa [RelVs, RelV, RelD] using h) (by intro ρ w M; simp [RelVs, RelV, RelD]) (fun w _ => C_HalfU a hK.1.h w) ((hK.2.h _ rfl).h _ rfl)
def bk (x : Int) : Prop := -1152921504606846976 ≤ x ∧ x ≤ 1152921504606846976
def S_Back (x y : Int) (K : CallK) (n : Nat) (hp : Hp) : Prop := Nd (fun _ => bk x ∧ bk y) ∧ Al (fun z => z = amt (x * 1000000000 + y)) fun z => Al (fun e => e = amtE (x * 1000000000 + y)) fun e => K (.tup [.d (.int .i64 z), .d (.int .i64 e)]) n hp
theorem K_Back {x y : Int} {n : Nat} {hp : Hp} {K : CallK} (hK : S_Back x y K n hp) : CallE Tryd.prog 34 [.agg [.d (.int .i64 x), .d (.int .i64 y)]] n hp K := by
  obtain ⟨⟨h1, h2⟩, hK⟩ := hK
  refine call_old (v := .tuple #[.int .i64 (amt (x * 1000000000 + y)), .int .i64 (amtE (x * 1000000000 + y))]) Tryd.func34 (by kernel_rfl) (by kernel_rfl) (vals := [.agg #[.int .i64 x, .int .i64 y]]) ?_ (by intro ρ w M; simp [RelVs, RelV, RelD]) (fun w _ => C_Back x y h1.1 h1.2 h2.1 h2.2 w) ((hK.h _ rfl).h _ rfl)
  rintro ρ w M vs ⟨v, r, rfl, ⟨cs, rfl, hc⟩, rfl⟩
  obtain ⟨c1, r1, e3, rfl, c2, r2, rfl, rfl, rfl⟩ := hc
  obtain ⟨cs⟩ := cs
  simp only at e3
  subst e3
  rfl
theorem K_BackD {x y : Int} {n : Nat} {hp : Hp} {K : CallK} (hK : S_Back x y K n hp) : CallE Tryd.prog 34 [.d (.agg [.int .i64 x, .int .i64 y])] n hp K :=
  (K_Back hK).args (by rintro ρ w M vs ⟨v, r, rfl, h1, h2⟩; exact ⟨_, _, rfl, agg_D h1, h2⟩)
def C21 : CallS := fun f args n h K => match f with
  | 34 => (match args with | [.d (.agg [.int .i64 x, .int .i64 y])] => S_Back x y K n h | [.agg [.d (.int .i64 x), .d (.int .i64 y)]] => S_Back x y K n h | _ => False)
  | 33 => (match args with | [.d (.int .i64 a)] => S_Half a K n h | _ => False)
  | _ => False
theorem C21_ok : ∀ f args n h K, C21 f args n h K → CallE Tryd.prog f args n h K := by
  intro f args n h K hc
  unfold C21 at hc
  split at hc
  · split at hc
    · exact K_BackD hc
    · exact K_Back hc
    · exact hc.elim
  · split at hc
    · exact K_Half hc
    · exact hc.elim
  · exact hc.elim
theorem K_RSub0 (a b : Int) (ha : I64 a) (hb : I64 b) : CallE Tryd.prog 21 [.d (.int .i64 a), .d (.int .i64 b)] 0 [] (Gets fun v => amtR (a - b) v) := by
  have qa := qru_facts a ha
  have qb := qru_facts b hb
  refine call_fn tysOK orders (C := C21) C21_ok H0 Tryd.func21 (by kernel_rfl) (by kernel_rfl) ?_
  intro oBin oCmp oWrap oNeg oCom oBnot oBeq oPickB oPickI oPickS oInb oSub2 oMinI oMaxI oSlen oSidx oScat oSsub oScmp oScok oLen oCI oCB oCS oCL oOkR oApp oApok oSub oSetc oRep oMkok oNthI oNthB oNthS oIteI oIteB oIteS oB2s oS2b oAllB oWf oDeq ho; cbv
  (repeat (any_goals (first
    | with_reducible refine And.intro ?_ ?_
    | exact True.intro
    | with_reducible exact rfl
    | (with_reducible refine Nd.mk ?_; try dsimp only)
    | (with_reducible refine Al.mk (fun x hx => ?_); cbv)
    | (with_reducible refine hK' _ ?_; clear hK' K'; cbv)
    | (with_reducible refine brA.yes (by first | assumption | exact rfl | (simp only [show oCmp = real.cmp from congrArg Ar.cmp ho, show oBin = real.bin from congrArg Ar.bin ho, show oScmp = real.scmp from congrArg Ar.scmp ho, show oPickB = real.pickB from congrArg Ar.pickB ho]; decide)) ?_; cbv)
    | (with_reducible refine brA.no (by first | assumption | exact rfl | (simp only [show oCmp = real.cmp from congrArg Ar.cmp ho, show oBin = real.bin from congrArg Ar.bin ho, show oScmp = real.scmp from congrArg Ar.scmp ho, show oPickB = real.pickB from congrArg Ar.pickB ho]; decide)) ?_; cbv)
    | (with_reducible refine bcase (fun hb => ?_) (fun hb => ?_) <;> cbv)
    | (intro K' hK'; cbv))))
  all_goals ((try clear hK' K'); cases ho; (try simp only [nc1] at *); (try simp only [Int.ofNat_eq_natCast] at *))
  all_goals (have h1 : real.bin .sub .i64 (QU a) (QU b) = QU a - QU b := bsub_id (by unfold I64; omega))
  all_goals (have h2 : real.bin .sub .i64 (RU a) (RU b) = RU a - RU b := bsub_id (by unfold I64; omega))
  all_goals (try subst_vars)
  all_goals (try rw [h1])
  all_goals (try rw [h2])
  all_goals first
    | assumption
    | (unfold bk; omega)
    | exact amtR_of (by omega)
/-! products -/
def S_size (a : Int) (K : CallK) (n : Nat) (hp : Hp) : Prop := Nd (fun _ => I64 a) ∧ Al (fun x : Int => x = (a.natAbs : Nat)) fun x => K (.d (.int .u64 x)) n hp
theorem K_size {a : Int} {n : Nat} {hp : Hp} {K : CallK} (hK : S_size a K n hp) : CallE Tryd.prog 35 [.d (.int .i64 a)] n hp K :=
  call_old (v := .int .u64 (a.natAbs : Nat)) Tryd.func35 (by kernel_rfl) (by kernel_rfl) (vals := [.int .i64 a]) (by intro ρ w M vs h; simpa [RelVs, RelV, RelD] using h) (by intro ρ w M; simp [RelVs, RelV, RelD]) (fun w _ => C_size' a hK.1.h w) (hK.2.h _ rfl)
def U64 (x : Int) : Prop := 0 ≤ x ∧ x ≤ 18446744073709551615
def S_Mul64 (x y : Int) (K : CallK) (n : Nat) (hp : Hp) : Prop := Nd (fun _ => U64 x ∧ U64 y) ∧ Al (fun z => z = x * y / 18446744073709551616) fun z => Al (fun u => u = x * y % 18446744073709551616) fun u => K (.tup [.d (.int .u64 z), .d (.int .u64 u)]) n hp
theorem K_Mul64 {x y : Int} {n : Nat} {hp : Hp} {K : CallK} (hK : S_Mul64 x y K n hp) : CallE Tryd.prog 42 [.d (.int .u64 x), .d (.int .u64 y)] n hp K := by
  obtain ⟨⟨h1, h2⟩, hK⟩ := hK
  unfold U64 at h1 h2
  obtain ⟨x, rfl⟩ : ∃ m : Nat, x = m := ⟨x.toNat, by omega⟩
  obtain ⟨y, rfl⟩ : ∃ m : Nat, y = m := ⟨y.toNat, by omega⟩
  refine call_old (av := .tup [.d (.int .u64 ((x : Int) * y / 18446744073709551616)), .d (.int .u64 ((x : Int) * y % 18446744073709551616))]) (v := .tuple #[.int .u64 ((x * y / 18446744073709551616 : Nat) : Int), .int .u64 ((x * y % 18446744073709551616 : Nat) : Int)]) Tryd.func42 (by kernel_rfl) (by kernel_rfl) (vals := [.int .u64 x, .int .u64 y]) (by intro ρ w M vs h; simpa [RelVs, RelV, RelD] using h) (by intro ρ w M; simp [RelVs, RelV, RelD])
    (fun w _ => (Tryd.bits_Mul64 x y (by omega) (by omega) w).mono (by rintro e w' ⟨rfl, rfl⟩; exact ⟨rfl, Below.refl _ _⟩)) ((hK.h _ rfl).h _ rfl)
def C18 : CallS := fun f args n h K => match f with
  | 35 => (match args with | [.d (.int .i64 a)] => S_size a K n h | _ => False)
  | 42 => (match args with | [.d (.int .u64 x), .d (.int .u64 y)] => S_Mul64 x y K n h | _ => False)
  | _ => False
theorem C18_ok : ∀ f args n h K, C18 f args n h K → CallE Tryd.prog f args n h K := by
  intro f args n h K hc
  unfold C18 at hc
  split at hc
  · split at hc
    · exact K_size hc
    · exact hc.elim
  · split at hc
    · exact K_Mul64 hc
    · exact hc.elim
  · exact hc.elim
theorem mul_sgn {a b : Int} : ((!decide (a < 0) == decide (b < 0)) = true → a * b = -((a.natAbs : Int) * b.natAbs)) ∧ ((!decide (a < 0) == decide (b < 0)) = false → a * b = (a.natAbs : Int) * b.natAbs) := by
  rcases Int.lt_or_le a 0 with h1 | h1 <;> rcases Int.lt_or_le b 0 with h2 | h2
  · have e1 : (a.natAbs : Int) = -a := by omega
    have e2 : (b.natAbs : Int) = -b := by omega
    rw [e1, e2]
    simp [h1, h2, Int.neg_mul_neg]
  · have e1 : (a.natAbs : Int) = -a := by omega
    have e2 : (b.natAbs : Int) = b := by omega
    rw [e1, e2]
    have h3 : ¬ b < 0 := by omega
    simp [h1, h3, Int.neg_mul]
  · have e1 : (a.natAbs : Int) = a := by omega
    have e2 : (b.natAbs : Int) = -b := by omega
    rw [e1, e2]
    have h3 : ¬ a < 0 := by omega
    simp [h2, h3, Int.mul_neg]
  · have e1 : (a.natAbs : Int) = a := by omega
    have e2 : (b.natAbs : Int) = b := by omega
    rw [e1, e2]
    have h3 : ¬ a < 0 := by omega
    have h4 : ¬ b < 0 := by omega
    simp [h3, h4]
theorem t_yes {x y : Int} (h : I64 x) (e : y = x) : amtR x (.tup [.d (.int .i64 y), .d (.int .i64 0)]) := by
  subst e
  unfold amtR
  rw [(amt_yes h).1, (amt_yes h).2]
theorem w63 : IntKind.u64.wrap (9223372036854775807 + 1) = 9223372036854775808 := by decide
theorem wneg {X : Int} (h0 : 0 ≤ X) (h : X ≤ 9223372036854775808) : IntKind.i64.wrap (IntKind.u64.wrap (0 - X)) = -X := by
  simp only [IntKind.wrap, IntKind.bits, IntKind.signed]
  simp
  omega
theorem K_Times0 (a b : Int) (ha : I64 a) (hb : I64 b) : CallE Tryd.prog 18 [.d (.int .i64 a), .d (.int .i64 b)] 0 [] (Gets fun v => amtR (a * b) v) := by
  have hs := @mul_sgn a b
  have hX : 0 ≤ (a.natAbs : Int) * b.natAbs := Int.mul_nonneg (by omega) (by omega)
  refine call_fn tysOK orders (C := C18) C18_ok H0 Tryd.func18 (by kernel_rfl) (by kernel_rfl) ?_
  intro oBin oCmp oWrap oNeg oCom oBnot oBeq oPickB oPickI oPickS oInb oSub2 oMinI oMaxI oSlen oSidx oScat oSsub oScmp oScok oLen oCI oCB oCS oCL oOkR oApp oApok oSub oSetc oRep oMkok oNthI oNthB oNthS oIteI oIteB oIteS oB2s oS2b oAllB oWf oDeq ho; cbv
  (repeat (any_goals (first
    | with_reducible refine And.intro ?_ ?_
    | exact True.intro
    | with_reducible exact rfl
    | (with_reducible refine Nd.mk ?_; try dsimp only)
    | (with_reducible refine Al.mk (fun x hx => ?_); cbv)
    | (with_reducible refine hK' _ ?_; clear hK' K'; cbv)
    | (with_reducible refine brA.yes (by first | assumption | exact rfl | (simp only [show oCmp = real.cmp from congrArg Ar.cmp ho, show oBin = real.bin from congrArg Ar.bin ho, show oScmp = real.scmp from congrArg Ar.scmp ho, show oPickB = real.pickB from congrArg Ar.pickB ho]; decide)) ?_; cbv)
    | (with_reducible refine brA.no (by first | assumption | exact rfl | (simp only [show oCmp = real.cmp from congrArg Ar.cmp ho, show oBin = real.bin from congrArg Ar.bin ho, show oScmp = real.scmp from congrArg Ar.scmp ho, show oPickB = real.pickB from congrArg Ar.pickB ho]; decide)) ?_; cbv)
    | (with_reducible refine bcase (fun hb => ?_) (fun hb => ?_) <;> cbv)
    | (intro K' hK'; cbv))))
  all_goals ((try clear hK' K'); cases ho; (try simp only [real, rBin, rCmp, Op.intArith, decide_eq_true_eq, decide_eq_false_iff_not, ge_iff_le, gt_iff_lt, Bool.cond_true, Bool.cond_false, beq_iff_eq, beq_eq_false_iff_ne, bne_iff_ne, bne_eq_false_iff_eq, ne_eq, Bool.not_eq_true, Bool.false_eq_true, Bool.true_eq_false, not_true_eq_false, not_false_eq_true] at *); (try simp only [nc1] at *); (try simp only [Int.ofNat_eq_natCast] at *))
  all_goals (try contradiction)
  all_goals (try subst_vars)
  all_goals (try simp only [w63] at *)
  all_goals (try generalize (a.natAbs : Int) * b.natAbs = X at *)
  all_goals (try (generalize a * b = Y at *))
  all_goals first
    | assumption
    | (unfold U64; unfold I64 at *; omega)
    | (have hy := hs.1 (by assumption); exact t_over (by unfold I64; omega))
    | (have hy := hs.2 (by assumption); exact t_over (by unfold I64; omega))
    | (have hy := hs.1 (by assumption); exact t_yes (by unfold I64; omega) (by rw [wneg (by omega) (by omega)]; omega))
    | (have hy := hs.2 (by assumption); exact t_yes (by unfold I64; omega) (by rw [wrap_i64 _ (by omega) (by omega)]; omega))
    | trace_state
end Go.Proofs.YtieoipmbcdfmeaaDoor.Ab
