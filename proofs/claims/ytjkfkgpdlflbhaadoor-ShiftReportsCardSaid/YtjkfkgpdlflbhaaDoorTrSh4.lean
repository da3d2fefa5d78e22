/- Shifts, by the executor: Lines. -/
import Derived.Test.YtjkfkgpdlflbhaaDoorTrSh3
namespace Go.Proofs.YtjkfkgpdlflbhaaDoor.Ab
open Go Go.RowKit Go.Sort
set_option linter.unusedVariables false
set_option linter.unusedSimpArgs false
set_option maxRecDepth 100000
set_option maxHeartbeats 4000000
/-! what is called -/
def S_Text (c : Int) (K : CallK) (n : Nat) (h : Hp) : Prop := Nd (fun _ => I64 c) ∧ Al (fun x => x = T03 c) fun x => K (.d (.str x)) n h
theorem L_Text {c : Int} {n : Nat} {h : Hp} {K : CallK} (hK : S_Text c K n h) : CallE Tryd.prog 19 [.d (.int .i64 c)] n h K :=
  call_old (v := .string ⟨(T03 c).toArray⟩) Tryd.func19 (by kernel_rfl) (by kernel_rfl) (vals := [.int .i64 c]) (by intro ρ w M vs h; simpa [RelVs, RelV, RelD] using h) (by intro ρ w M; simp [RelVs, RelV, RelD]) (fun w hJ => C_CText c hK.1.h w hJ) (hK.2.h _ rfl)
theorem L_RText {c : Int} {n : Nat} {h : Hp} {K : CallK} (hK : S_Text c K n h) : CallE Tryd.prog 14 [.d (.int .i64 c)] n h K :=
  call_old (v := .string ⟨(T03 c).toArray⟩) Tryd.func14 (by kernel_rfl) (by kernel_rfl) (vals := [.int .i64 c]) (by intro ρ w M vs h; simpa [RelVs, RelV, RelD] using h) (by intro ρ w M; simp [RelVs, RelV, RelD]) (fun w hJ => C_R03Text c hK.1.h w) (hK.2.h _ rfl)
def S_Itoa (c : Int) (K : CallK) (n : Nat) (h : Hp) : Prop := Nd (fun _ => I64 c) ∧ Al (fun x => x = Lib.itoa c) fun x => K (.d (.str x)) n h
theorem L_Itoa {c : Int} {n : Nat} {h : Hp} {K : CallK} (hK : S_Itoa c K n h) : CallE Tryd.prog 15 [.d (.int .i64 c)] n h K :=
  call_old (v := .string ⟨(Lib.itoa c).toArray⟩) Tryd.func15 (by kernel_rfl) (by kernel_rfl) (vals := [.int .i64 c]) (by intro ρ w M vs h; simpa [RelVs, RelV, RelD] using h) (by intro ρ w M; simp [RelVs, RelV, RelD]) (fun w hJ => C_Itoa c hK.1.h w hJ) (hK.2.h _ rfl)
/-- What should be in the till. -/
def tillV (r : R6) : Int := r.a - r.b - r.c + r.d - r.e
def vR6 (r : R6) : Value := .agg #[.int .i64 r.x, .int .i64 r.a, .int .i64 r.b, .int .i64 r.c, .int .i64 r.d, .int .i64 r.e]
theorem rel_R6 {r : R6} {ρ : Env} {w : World} {M : Nat → Prop} {vs : List Value} (h : RelVs ρ w M [.d (.agg (rD r))] vs) : vs = [vR6 r] := by
  obtain ⟨v, rest, rfl, ⟨cs, rfl, h1⟩, rfl⟩ := h
  obtain ⟨cs⟩ := cs
  simp only [rD, RelDs, RelD] at h1
  obtain ⟨_, _, rfl, rfl, _, _, rfl, rfl, _, _, rfl, rfl, _, _, rfl, rfl, _, _, rfl, rfl, _, _, rfl, rfl, rfl⟩ := h1
  rfl
def S_Till (r : R6) (K : CallK) (n : Nat) (h : Hp) : Prop := Nd (fun _ => gR6 r) ∧ Al (fun p : Int × Int => p = (amt (tillV r), amtE (tillV r))) fun p => K (.tup [.d (.int .i64 p.1), .d (.int .i64 p.2)]) n h
theorem L_Till {r : R6} {n : Nat} {h : Hp} {K : CallK} (hK : S_Till r K n h) : CallE Tryd.prog 20 [.d (.agg (rD r))] n h K := by
  obtain ⟨⟨-, h1, h2, h3, h4, h5⟩, hk⟩ := hK
  exact call_old (v := .tuple #[.int .i64 (amt (tillV r)), .int .i64 (amtE (tillV r))]) Tryd.func20 (by kernel_rfl) (by kernel_rfl) (vals := [vR6 r]) (fun ρ w M vs h => rel_R6 h)
    (by intro ρ w M; exact ⟨#[.int .i64 (amt (tillV r)), .int .i64 (amtE (tillV r))], rfl, _, _, rfl, rfl, _, _, rfl, rfl, rfl⟩) (fun w hJ => C_Till r.x r.a r.b r.c r.d r.e h1 h2 h3 h4 h5 w) (hk.h _ rfl)
theorem L_RTill {r : R6} {n : Nat} {h : Hp} {K : CallK} (hK : S_Till r K n h) : CallE Tryd.prog 13 [.d (.agg (rD r))] n h K := by
  obtain ⟨⟨-, h1, h2, h3, h4, h5⟩, hk⟩ := hK
  exact call_old (v := .tuple #[.int .i64 (amt (tillV r)), .int .i64 (amtE (tillV r))]) Tryd.func13 (by kernel_rfl) (by kernel_rfl) (vals := [vR6 r]) (fun ρ w M vs h => rel_R6 h)
    (by intro ρ w M; exact ⟨#[.int .i64 (amt (tillV r)), .int .i64 (amtE (tillV r))], rfl, _, _, rfl, rfl, _, _, rfl, rfl, rfl⟩) (fun w hJ => C_RTill r.x r.a r.b r.c r.d r.e h1 h2 h3 h4 h5 w) (hk.h _ rfl)
def S_of (r : R6) (K : CallK) (n : Nat) (h : Hp) : Prop := K (.d (.agg (rD r))) n h
theorem L_of {r : R6} {n : Nat} {h : Hp} {K : CallK} (hK : S_of r K n h) : CallE Tryd.prog 12 [.d (.agg (rD r))] n h K :=
  call_old (v := vR6 r) Tryd.func12 (by kernel_rfl) (by kernel_rfl) (vals := [vR6 r]) (fun ρ w M vs h => rel_R6 h)
    (by intro ρ w M; exact ⟨#[.int .i64 r.x, .int .i64 r.a, .int .i64 r.b, .int .i64 r.c, .int .i64 r.d, .int .i64 r.e], rfl, _, _, rfl, rfl, _, _, rfl, rfl, _, _, rfl, rfl, _, _, rfl, rfl, _, _, rfl, rfl, _, _, rfl, rfl, rfl⟩) (fun w hJ => C_of26 ⟨r.x, r.a, r.b, r.c, r.d, r.e⟩ w) hK
theorem L_wakes {n : Nat} {h : Hp} {K : CallK} (hK : K (.d (.bool true)) n h) : CallE Tryd.prog 5 [] n h K :=
  call_old (v := .bool true) Tryd.func5 (by kernel_rfl) (by kernel_rfl) (vals := []) (by intro ρ w M vs h; exact h) (by intro ρ w M; rfl) (fun w _ => C_wakes26 w) hK
def C14 : CallS := fun f args n h K => match f with
  | 9 => (match args with | [.ptr i 0] => S_Open i K n h | _ => False)
  | 11 => (match args with | [.ptr i 0, .d (.int .i64 m)] => S_Totals i m K n h | _ => False)
  | 19 => (match args with | [.d (.int .i64 c)] => S_Text c K n h | _ => False)
  | 15 => (match args with | [.d (.int .i64 c)] => S_Itoa c K n h | _ => False)
  | 20 => (match args with | [.d (.agg [.int .i64 x, .int .i64 a, .int .i64 b, .int .i64 c, .int .i64 d, .int .i64 e])] => S_Till ⟨x, a, b, c, d, e⟩ K n h | _ => False)
  | _ => False
theorem C14_ok : ∀ f args n h K, C14 f args n h K → CallE Tryd.prog f args n h K := by
  intro f args n h K hc
  unfold C14 at hc
  split at hc
  · split at hc
    · exact L_Open hc
    · exact hc.elim
  · split at hc
    · exact L_Totals hc
    · exact hc.elim
  · split at hc
    · exact L_Text hc
    · exact hc.elim
  · split at hc
    · exact L_Itoa hc
    · exact hc.elim
  · split at hc
    · exact L_Till (r := ⟨_, _, _, _, _, _⟩) hc
    · exact hc.elim
  · exact hc.elim
def lineB (wd : List UInt8) (v : Int) : List UInt8 := wd ++ [32] ++ T03 v
/-- The five sums' lines. -/
def lns (r : R6) : List (List D) := [[.str (lineB [115, 97, 108, 101, 115] r.a)], [.str (lineB [118, 111, 105, 100, 115] r.b)], [.str (lineB [114, 101, 102, 117, 110, 100, 115] r.c)], [.str (lineB [105, 110, 115] r.d)], [.str (lineB [111, 117, 116] r.e)]]
/-- A shift's lines. -/
def linesOf (q : Q) (m : Int) (r : R6) : List (List D) := [[.str ([115, 104, 105, 102, 116, 32] ++ Lib.itoa m ++ (bif m == opn q then [32, 111, 112, 101, 110] else [32, 99, 108, 111, 115, 101, 100]))], [.str ([99, 111, 117, 110, 116, 32] ++ Lib.itoa r.x)]] ++ lns r ++ [[.str (if amtE (tillV r) = 0 then [116, 105, 108, 108, 32] ++ T03 (amt (tillV r)) else [116, 105, 108, 108, 32, 111, 118, 101, 114])]]
def Lout (q : Q) (m : Int) (v : AV) : Prop := (totOf q m).2 = false ∧ v = .d .nilsl ∨ (totOf q m).2 = true ∧ v = .d (.imm (linesOf q m (totOf q m).1))
theorem itoa_len (n : Int) (h : I64 n) : (Lib.itoa n).length ≤ 21 := by
  unfold I64 at h
  unfold Lib.itoa
  split
  · rcases Nat.lt_or_ge n.natAbs 9223372036854775808 with h' | h'
    · have := decDigits_len20 n.natAbs (by omega)
      simp; omega
    · have e : n.natAbs = 9223372036854775808 := by omega
      rw [e]
      decide +kernel
  · have := decDigits_len20 n.toNat (by omega)
    omega
theorem T03_len (c : Int) (h : I64 c) : (T03 c).length ≤ 25 := by
  unfold I64 at h
  unfold T03
  have := decDigits_len20 (c.natAbs / 100) (by omega)
  split <;> simp <;> omega
theorem scokI {a b : List UInt8} (h : a.length + b.length ≤ 1000) : real.scok a b = true := by
  simp only [real, decide_eq_true_eq]; omega
theorem scat_len (a b : List UInt8) : (real.scat a b).length = a.length + b.length := by simp [real]
theorem tot_gR6 {q : Q} (g : gQ q) (m : Int) : gR6 (totOf q m).1 := by
  unfold totOf
  split
  · unfold gR6 I64; simp
  split
  · obtain ⟨-, hct, hi, -, -⟩ := g
    exact ⟨by unfold I64; simp only; omega, hi⟩
  split
  · rename_i h
    obtain ⟨x, a, b, c, d, e, hr, h1⟩ := gR_get g.rows.2 h.1 h.2
    simp only [hr]
    exact h1
  · unfold gR6 I64; simp
theorem nth5 {a b c d e j : Int} {i : Nat} (hj : j = i) (hi : i < 5) {P : Int → Prop} (h : P a ∧ P b ∧ P c ∧ P d ∧ P e) : P (real.nthI [a, b, c, d, e] j) := by
  subst hj
  obtain ⟨h1, h2, h3, h4, h5⟩ := h
  rcases (by omega : i = 0 ∨ i = 1 ∨ i = 2 ∨ i = 3 ∨ i = 4) with rfl | rfl | rfl | rfl | rfl <;> assumption
theorem nthS5 {j : Int} {i : Nat} (hj : j = i) (hi : i < 5) : (real.nthS [[115, 97, 108, 101, 115], [118, 111, 105, 100, 115], [114, 101, 102, 117, 110, 100, 115], [105, 110, 115], [111, 117, 116]] j).length ≤ 7 := by
  subst hj
  rcases (by omega : i = 0 ∨ i = 1 ∨ i = 2 ∨ i = 3 ∨ i = 4) with rfl | rfl | rfl | rfl | rfl <;> decide
theorem lns_len (r : R6) : (lns r).length = 5 := rfl
theorem lns_next (r : R6) {A B : List D} {j : Int} {i : Nat} (hj : j = i) (hi : i < 5) : real.app ([A, B] ++ (lns r).take i) [[.str (real.scat (real.scat (real.nthS [[115, 97, 108, 101, 115], [118, 111, 105, 100, 115], [114, 101, 102, 117, 110, 100, 115], [105, 110, 115], [111, 117, 116]] j) [32]) (T03 (real.nthI [r.a, r.b, r.c, r.d, r.e] j)))]] = [A, B] ++ (lns r).take (i + 1) := by
  subst hj
  rcases (by omega : i = 0 ∨ i = 1 ∨ i = 2 ∨ i = 3 ∨ i = 4) with rfl | rfl | rfl | rfl | rfl <;> rfl
theorem str_apok {R : List (List D)} (h : R.length ≤ 100) (s : List UInt8) : real.apok R [[.str s]] 1 16 = true := by
  simp only [real, Bool.and_eq_true, decide_eq_true_eq, List.all_eq_true]
  refine ⟨⟨by simp [maxLen]; omega, by simp; omega⟩, ?_⟩
  simp [flatD]
theorem row_len {r : R6} {A B : List D} {i : Nat} {R : List (List D)} (hi : i ≤ 5) (hR : R = [A, B] ++ (lns r).take i) : R.length ≤ 100 := by
  subst hR
  simp [lns_len]; omega
theorem cmp_eql (a b : Int) : real.cmp .eql a b = (a == b) := by
  simp only [real, rCmp]
theorem ok1 {x a b c d e : Int} (k : Nat) (h : k < 6) : real.okR [[.int .i64 x, .int .i64 a, .int .i64 b, .int .i64 c, .int .i64 d, .int .i64 e]] 0 k [.int .i64] = true := by
  rcases (by omega : k = 0 ∨ k = 1 ∨ k = 2 ∨ k = 3 ∨ k = 4 ∨ k = 5) with rfl | rfl | rfl | rfl | rfl | rfl <;> rfl
theorem ok6 {x a b c d e : Int} : real.okR [[.int .i64 x, .int .i64 a, .int .i64 b, .int .i64 c, .int .i64 d, .int .i64 e]] 0 0 [.int .i64, .int .i64, .int .i64, .int .i64, .int .i64, .int .i64] = true := rfl
theorem inb5 {j : Int} {i : Nat} (hj : j = i) (hi : i < 5) : real.inb j (5 : Nat) = true := by
  simp only [real, decide_eq_true_eq]; omega
theorem lt5 {j : Int} {i : Nat} (hj : j = i) (h : real.cmp .lss j 5 = true) : i < 5 := by
  simp only [real, rCmp, decide_eq_true_eq] at h; omega
theorem ge5 {j : Int} {i : Nat} (hj : j = i) (hi : i ≤ 5) (h : real.cmp .lss j 5 = false) : i = 5 := by
  simp only [real, rCmp, decide_eq_false_iff_not] at h; omega
theorem len_itoa {x : List UInt8} {c : Int} (h : x = Lib.itoa c) (hc : I64 c) : x.length ≤ 25 := by have := itoa_len c hc; rw [h]; omega
theorem len_T03 {x : List UInt8} {c : Int} (h : x = T03 c) (hc : I64 c) : x.length ≤ 25 := by rw [h]; exact T03_len c hc
theorem gr_of {q : Q} {m : Int} {r : R6} (gr : gR6 (totOf q m).1) (h : r = (totOf q m).1) : gR6 r := h ▸ gr
theorem I64p {p : Int × Int} {a : Int} (h : p = (amt a, amtE a)) : I64 p.1 := by rw [h]; exact amt_in _
theorem bn_t {b c : Bool} (h : real.bnot b = true) (hc : b = c) : c = false := by subst hc; cases b <;> simp_all [real]
theorem bn_f {b c : Bool} (h : real.bnot b = false) (hc : b = c) : c = true := by subst hc; cases b <;> simp_all [real]
theorem add5 {j : Int} {i : Nat} (hj : j = i) (hi : i < 5) : real.bin .add .i64 j 1 = ((i + 1 : Nat) : Int) := by
  simp only [real, rBin]; rw [wrap_i64 _ (by omega) (by omega)]; omega
theorem lines_all {q : Q} {m : Int} {r : R6} {o : Int} {s1 s2 : List UInt8} {R : List (List D)} {i : Nat} (hr : r = (totOf q m).1) (ho : o = opn q) (h1 : s1 = Lib.itoa m) (h2 : s2 = Lib.itoa r.x) (hi : i = 5)
    (hR : R = [[.str (real.scat (real.scat [115, 104, 105, 102, 116, 32] s1) (bif real.cmp .eql m o then [32, 111, 112, 101, 110] else [32, 99, 108, 111, 115, 101, 100]))], [.str (real.scat [99, 111, 117, 110, 116, 32] s2)]] ++ (lns r).take i)
    (l : List UInt8) (hl : l = if amtE (tillV r) = 0 then [116, 105, 108, 108, 32] ++ T03 (amt (tillV r)) else [116, 105, 108, 108, 32, 111, 118, 101, 114]) :
    AV.d (.imm (real.app R [[.str l]])) = AV.d (.imm (linesOf q m (totOf q m).1)) := by
  rw [← hr]
  subst ho h1 h2 hi hR
  rw [cmp_eql]
  unfold linesOf
  rw [← hl]
  rfl
theorem l_over {r : R6} {p : Int × Int} (hp : p = (amt (tillV r), amtE (tillV r))) (h : real.cmp .neq p.2 0 = true) : [116, 105, 108, 108, 32, 111, 118, 101, 114] = if amtE (tillV r) = 0 then [116, 105, 108, 108, 32] ++ T03 (amt (tillV r)) else [116, 105, 108, 108, 32, 111, 118, 101, 114] := by
  subst hp
  rw [if_neg]
  intro h0
  rw [h0] at h
  simp [real, rCmp] at h
theorem l_till {r : R6} {p : Int × Int} {x : List UInt8} (hp : p = (amt (tillV r), amtE (tillV r))) (h : real.cmp .neq p.2 0 = false) (hx : x = T03 p.1) : real.scat [116, 105, 108, 108, 32] x = if amtE (tillV r) = 0 then [116, 105, 108, 108, 32] ++ T03 (amt (tillV r)) else [116, 105, 108, 108, 32, 111, 118, 101, 114] := by
  subst hp hx
  rw [if_pos]
  · rfl
  · simpa [real, rCmp] using h
theorem K_Lines0 (q : Q) (g : gQ q) (m : Int) (hm : I64 m) : CallE Tryd.prog 10 [.ptr 0 0, .d (.int .i64 m)] 1 [(0, .cells (qC q))] (fun v n h => Lout q m v ∧ n = 1 ∧ h = [(0, .cells (qC q))]) := by
  refine CallE.fin ?_
  have g' := g
  have gr := tot_gR6 g m
  obtain ⟨nx, op, ct, qa, qb, qc, qd, qe, cl⟩ := q
  refine call_fn tysOK orders (C := C14) C14_ok ⟨[((7, 0), [1])], [(7, 9)], 0⟩ Tryd.func10 (by kernel_rfl) (by kernel_rfl) ?_
  intro oBin oCmp oWrap oNeg oCom oBnot oBeq oPickB oPickI oPickS oInb oSub2 oMinI oMaxI oSlen oSidx oScat oSsub oScmp oScok oLen oCI oCB oCS oCL oOkR oApp oApok oSub oSetc oRep oMkok oNthI oNthB oNthS oIteI oIteB oIteS oB2s oS2b oAllB oWf oDeq ho; cbv
  (repeat (any_goals (first
    | with_reducible refine And.intro ?_ ?_
    | exact True.intro
    | with_reducible exact rfl
    | (with_reducible refine Nd.mk ?_; try dsimp only)
    | (with_reducible refine Pz.mk ?_; cbv)
    | (with_reducible refine RgOK.mk ?_; kernel_rfl)
    | (with_reducible refine OrOK.mk ?_; kernel_rfl)
    | (with_reducible refine Al.mk (fun x hx => ?_); cbv)
    | (with_reducible refine hK' _ ?_; clear hK' K'; cbv)
    | (with_reducible refine brA.yes (by first | assumption | exact rfl | (simp only [show oCmp = real.cmp from congrArg Ar.cmp ho, show oBin = real.bin from congrArg Ar.bin ho, show oScmp = real.scmp from congrArg Ar.scmp ho, show oPickB = real.pickB from congrArg Ar.pickB ho]; decide)) ?_; cbv)
    | (with_reducible refine brA.no (by first | assumption | exact rfl | (simp only [show oCmp = real.cmp from congrArg Ar.cmp ho, show oBin = real.bin from congrArg Ar.bin ho, show oScmp = real.scmp from congrArg Ar.scmp ho, show oPickB = real.pickB from congrArg Ar.pickB ho]; decide)) ?_; cbv)
    | (with_reducible refine bcase (fun hb => ?_) (fun hb => ?_) <;> cbv)
    | (intro K' hK'; cbv))))
  any_goals (
    rename_i r hr b hbb hbn o ho' s1 hs1
    have hs2 := hx
    have hbo := hb
    refine ⟨fun st => ∃ (i : Nat) (j : Int) (R : List (List D)), j = i ∧ i ≤ 5 ∧ R = [[.str (oScat (oScat [115, 104, 105, 102, 116, 32] s1) (bif oCmp .eql m o then [32, 111, 112, 101, 110] else [32, 99, 108, 111, 115, 101, 100]))], [.str (oScat [99, 111, 117, 110, 116, 32] x)]] ++ (lns r).take i ∧ st = ⟨mkF 79 0 [(5, .iptr [rD r] 0 0), (8, .sl 2), (9, .ptr 3 0), (47, .d (.agg [.int .i64 r.a, .int .i64 r.b, .int .i64 r.c, .int .i64 r.d, .int .i64 r.e])), (48, .d (.int .i64 j))], 4, [(0, .cells (qC ⟨nx, op, ct, qa, qb, qc, qd, qe, cl⟩)), (2, .row 1 R), (3, .cells [.d (.str [115, 97, 108, 101, 115]), .d (.str [118, 111, 105, 100, 115]), .d (.str [114, 101, 102, 117, 110, 100, 115]), .d (.str [105, 110, 115]), .d (.str [111, 117, 116])])]⟩, fun st => (5 - ctr 48 st).toNat, ⟨[], [], [5, 8, 9, 47, 48], [0, 2, 3], 4⟩, ?_, ?_, ?_⟩
    · cbv
    · refine ⟨0, 0, _, rfl, Nat.zero_le _, rfl, ?_⟩
      rw [hb]
      cases ho
      rfl
    rintro st1 ⟨i, j, R, hj, hi, hR, rfl⟩
    cbv
    (repeat (any_goals (first
    | with_reducible refine And.intro ?_ ?_
    | exact True.intro
    | with_reducible exact rfl
    | (with_reducible refine Nd.mk ?_; try dsimp only)
    | (with_reducible refine Pz.mk ?_; cbv)
    | (with_reducible refine RgOK.mk ?_; kernel_rfl)
    | (with_reducible refine OrOK.mk ?_; kernel_rfl)
    | (with_reducible refine Al.mk (fun x hx => ?_); cbv)
    | (with_reducible refine hK' _ ?_; clear hK' K'; cbv)
    | (with_reducible refine brA.yes (by first | assumption | exact rfl | (simp only [show oCmp = real.cmp from congrArg Ar.cmp ho, show oBin = real.bin from congrArg Ar.bin ho, show oScmp = real.scmp from congrArg Ar.scmp ho, show oPickB = real.pickB from congrArg Ar.pickB ho]; decide)) ?_; cbv)
    | (with_reducible refine brA.no (by first | assumption | exact rfl | (simp only [show oCmp = real.cmp from congrArg Ar.cmp ho, show oBin = real.bin from congrArg Ar.bin ho, show oScmp = real.scmp from congrArg Ar.scmp ho, show oPickB = real.pickB from congrArg Ar.pickB ho]; decide)) ?_; cbv)
    | (with_reducible refine bcase (fun hb => ?_) (fun hb => ?_) <;> cbv)
    | (intro K' hK'; cbv)))))
  all_goals ((try clear hK' K'); cases ho; (try simp only [nc1] at *); (try simp only [Int.ofNat_eq_natCast] at *))
  all_goals first
    | with_reducible exact g'
    | with_reducible exact hm
    | omega
    | with_reducible exact ok1 _ (by decide)
    | with_reducible exact ok6
    | (have h5 := lt5 (by assumption) (by assumption); first
        | with_reducible exact inb5 (by assumption) h5
        | skip)
    | (have h5 := ge5 (by assumption) (by assumption) (by assumption); skip)
    | skip
  all_goals (try (have gr' := gr_of gr (by assumption)))
  all_goals first
    | (refine scokI ?_
       try have hl := len_itoa hx hm
       try have hl := len_itoa hx gr'.1
       try have hl := len_T03 hx (nth5 (P := I64) hj (lt5 hj (by assumption)) gr'.2)
       try have hl := len_T03 (show x = _ from by assumption) (I64p hx)
       try have hn := nthS5 hj (lt5 hj (by assumption))
       simp only [scat_len, List.length_cons, List.length_nil]
       omega)
    | exact gr'.1
    | exact nth5 (P := I64) hj (lt5 hj (by assumption)) gr'.2
    | exact I64p (by assumption)
    | exact gr'
    | exact str_apok (row_len hi hR) _
    | (refine ⟨⟨[], [], [0], [0], 1⟩, .d .nilsl, 1, _, rfl, rfl, .inl ⟨bn_t (by assumption) (by assumption), rfl⟩, rfl, rfl⟩; done)
    | skip
  all_goals first
    | (refine ⟨⟨[], [(4, 2)], [5, 8, 9, 47, 48], [0, 4, 3], 4⟩, rfl, ⟨i + 1, real.bin .add .i64 j 1, _, add5 hj (lt5 hj (by assumption)), by have := lt5 hj (by assumption); omega, ?_, rfl⟩, ?_⟩
       · rw [hx, hR]; exact lns_next r hj (lt5 hj (by assumption))
       · have h5 := lt5 hj (by assumption)
         show (5 - real.bin .add .i64 j 1).toNat < (5 - j).toNat
         rw [add5 hj h5]; omega)
    | (refine ⟨⟨[4], [], [0], [0], 1⟩, .d (.imm (real.app R [[.str _]])), 1, _, rfl, rfl, .inr ⟨bn_f hbn hbb, ?_⟩, rfl, rfl⟩
       first
         | exact lines_all hr ho' hs1 hs2 (ge5 hj hi (by assumption)) hR _ (l_over hx hb)
         | exact lines_all hr ho' hs1 hs2 (ge5 hj hi (by assumption)) hR _ (l_till hx hb (by assumption)))
    | skip
def S_Lines (i : Nat) (m : Int) (K : CallK) (n : Nat) (h : Hp) : Prop := pat h i fun q => Nd (fun _ => i < n ∧ gQ q ∧ I64 m) ∧ Al (fun _ : Unit => (totOf q m).2 = false) (fun _ => K (.d .nilsl) n (outI i h q)) ∧ Al (fun R => (totOf q m).2 = true ∧ R = linesOf q m (totOf q m).1) fun R => K (.d (.imm R)) n (outI i h q)
theorem L_Lines {i n : Nat} {m : Int} {h : Hp} {K : CallK} (hK : S_Lines i m K n h) : CallE Tryd.prog 10 [.ptr i 0, .d (.int .i64 m)] n h K := by
  obtain ⟨q, hg, ⟨⟨hi, g, hm⟩⟩, h1, h2⟩ := pat_elim hK
  refine call_recv (K_Lines0 q g m hm) rfl (qC_ids q) hi hg ?_
  rintro v n1 h1' ⟨⟨ht, rfl⟩ | ⟨ht, rfl⟩, rfl, rfl⟩ -
  · exact h1.h () ht
  · exact h2.h _ ⟨ht, rfl⟩
/-! of none -/
theorem K_TotalsN0 (m : Int) : CallE Tryd.prog 11 [.d .nilp, .d (.int .i64 m)] 0 [] (Gets fun v => v = .tup [.d (.agg [.int .i64 0, .int .i64 0, .int .i64 0, .int .i64 0, .int .i64 0, .int .i64 0]), .d (.bool false)]) := by
  refine call_fn tysOK orders (C := C0) C0_ok H0 Tryd.func11 (by kernel_rfl) (by kernel_rfl) ?_
  intro oBin oCmp oWrap oNeg oCom oBnot oBeq oPickB oPickI oPickS oInb oSub2 oMinI oMaxI oSlen oSidx oScat oSsub oScmp oScok oLen oCI oCB oCS oCL oOkR oApp oApok oSub oSetc oRep oMkok oNthI oNthB oNthS oIteI oIteB oIteS oB2s oS2b oAllB oWf oDeq ho; cbv
  (repeat (any_goals (first
    | with_reducible refine And.intro ?_ ?_
    | exact True.intro
    | with_reducible exact rfl
    | (with_reducible refine Nd.mk ?_; try dsimp only)
    | (with_reducible refine Pz.mk ?_; cbv)
    | (with_reducible refine RgOK.mk ?_; kernel_rfl)
    | (with_reducible refine OrOK.mk ?_; kernel_rfl)
    | (with_reducible refine Al.mk (fun x hx => ?_); cbv)
    | (with_reducible refine hK' _ ?_; clear hK' K'; cbv)
    | (with_reducible refine brA.yes (by first | assumption | exact rfl | (simp only [show oCmp = real.cmp from congrArg Ar.cmp ho, show oBin = real.bin from congrArg Ar.bin ho, show oScmp = real.scmp from congrArg Ar.scmp ho, show oPickB = real.pickB from congrArg Ar.pickB ho]; decide)) ?_; cbv)
    | (with_reducible refine brA.no (by first | assumption | exact rfl | (simp only [show oCmp = real.cmp from congrArg Ar.cmp ho, show oBin = real.bin from congrArg Ar.bin ho, show oScmp = real.scmp from congrArg Ar.scmp ho, show oPickB = real.pickB from congrArg Ar.pickB ho]; decide)) ?_; cbv)
    | (with_reducible refine bcase (fun hb => ?_) (fun hb => ?_) <;> cbv)
    | (intro K' hK'; cbv))))
  all_goals trace_state
end Go.Proofs.YtjkfkgpdlflbhaaDoor.Ab
