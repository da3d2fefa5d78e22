/- Lists of amounts. -/
import Derived.Test.YtieoipmbcdfmeaaDoorTrCa3
import Derived.Test.YtieoipmbcdfmeaaDoorTrRef03b
namespace Go.Proofs.YtieoipmbcdfmeaaDoor.Ab
open Go Go.RowKit Go.Sort
set_option linter.unusedVariables false
set_option linter.unusedSimpArgs false
set_option maxRecDepth 100000
set_option maxHeartbeats 4000000
/-- A row of numbers. -/
def iR (xs : List Int) : List (List D) := xs.map fun x => [.int .i64 x]
theorem iR_len (xs : List Int) : (iR xs).length = xs.length := by simp [iR]
theorem iR_rlen (xs : List Int) : real.len (iR xs) = (xs.length : Int) := by simp [real, iR]
theorem iR_inb {xs : List Int} {j : Int} (h0 : 0 ≤ j) (h : j < xs.length) : real.inb j (real.len (iR xs)) = true := by
  rw [iR_rlen]; exact decide_eq_true ⟨h0, h⟩
theorem iR_wf (xs : List Int) : real.wf (iR xs) 1 = true := by simp [real, rWf, iR]
theorem iR_getD {xs : List Int} {i : Nat} (h : i < xs.length) : (iR xs).getD i [] = [.int .i64 (xs.getD i 0)] := by
  simp [iR, List.getD, List.getElem?_map, List.getElem?_eq_getElem h]
theorem iR_ok {xs : List Int} {i : Nat} {j : Int} (hj : j = i) (h : i < xs.length) : real.okR (iR xs) j 0 [.int .i64] = true := by
  subst hj
  simp only [real, Int.toNat_natCast, iR_len, iR_getD h]
  simp [h, rowOk, kdOk]
theorem iR_cI {xs : List Int} {i : Nat} {j : Int} (hj : j = i) (h : i < xs.length) : real.cI (iR xs) j 0 = xs.getD i 0 := by
  subst hj
  simp only [real, rCell, Int.toNat_natCast, iR_getD h]
  rfl
theorem iR_app (xs ys : List Int) : real.app (iR xs) (iR ys) = iR (xs ++ ys) := by simp [real, iR]
theorem iR_apok (xs : List Int) (y : Int) (h : xs.length ≤ 100000) : real.apok (iR xs) [[.int .i64 y]] 1 8 = true := by
  simp only [real, iR_len, List.length_singleton, Bool.and_eq_true, decide_eq_true_eq]
  refine ⟨⟨by unfold maxLen; omega, by omega⟩, ?_⟩
  simp [flatD]
theorem take_snoc {xs : List Int} {i : Nat} (h : i < xs.length) : xs.take i ++ [xs.getD i 0] = xs.take (i + 1) := by
  rw [List.take_succ_eq_append_getElem h]
  simp [List.getD, List.getElem?_eq_getElem h]
theorem K_list0 (xs : List Int) (hx : xs.length ≤ 500) : CallE Tryd.prog 10 [.d (.imm (iR xs))] 0 [] (Gets fun v => (xs = [] ∧ v = .d .nilsl) ∨ v = .d (.imm (iR xs))) := by
  obtain ⟨R, hR⟩ : ∃ R, R = iR xs := ⟨_, rfl⟩
  rw [← hR]
  refine call_fn tysOK orders (C := C0) C0_ok ⟨[((7, 0), [0])], [], 0⟩ Tryd.func10 (by kernel_rfl) (by kernel_rfl) ?_
  intro oBin oCmp oWrap oNeg oCom oBnot oBeq oPickB oPickI oPickS oInb oSub2 oMinI oMaxI oSlen oSidx oScat oSsub oScmp oScok oLen oCI oCB oCS oCL oOkR oApp oApok oSub oSetc oRep oMkok oNthI oNthB oNthS oIteI oIteB oIteS oB2s oS2b oAllB oWf oDeq ho; cbv
  refine ⟨fun st => ∃ (i : Nat) (j : Int), j = i ∧ i ≤ xs.length ∧ ((i = 0 ∧ st = ⟨mkF 18 0 [(3, .d .nilsl), (6, .d (.imm R)), (7, .d (.int .i64 (oLen R))), (8, .d (.int .i64 j))], 0, []⟩) ∨
    (∃ row, row = iR (xs.take i) ∧ st = ⟨mkF 18 0 [(3, .sl 0), (6, .d (.imm R)), (7, .d (.int .i64 (oLen R))), (8, .d (.int .i64 j))], 1, [(0, .row 1 row)]⟩)), fun st => (xs.length - ctr 8 st).toNat, ⟨[], [], [3, 6, 7, 8], [], 0⟩, ?_, ?_, ?_⟩
  · cbv
  · exact ⟨0, 0, rfl, Nat.zero_le _, .inl ⟨rfl, rfl⟩⟩
  rintro st1 ⟨i, j, hj, hi, ⟨hi0, rfl⟩ | ⟨row, hrow, rfl⟩⟩
  · subst hi0
    cbv
    (repeat (any_goals (first
    | with_reducible refine And.intro ?_ ?_
    | exact True.intro
    | with_reducible exact rfl
    | (with_reducible refine Nd.mk ?_; try dsimp only)
    | (with_reducible refine Al.mk (fun x hx => ?_); cbv)
    | (with_reducible refine hK' _ ?_; clear hK' K'; cbv)
    | (with_reducible refine brA.yes (by first | assumption | exact rfl | (simp only [show oCmp = real.cmp from congrArg Ar.cmp ho, show oBin = real.bin from congrArg Ar.bin ho, show oScmp = real.scmp from congrArg Ar.scmp ho, show oPickB = real.pickB from congrArg Ar.pickB ho]; decide)) ?_; cbv)
    | (with_reducible refine brA.no (by first | assumption | exact rfl | (simp only [show oCmp = real.cmp from congrArg Ar.cmp ho, show oBin = real.bin from congrArg Ar.bin ho, show oScmp = real.scmp from congrArg Ar.scmp ho, show oPickB = real.pickB from congrArg Ar.pickB ho]; decide)) ?_; cbv)
    | (with_reducible refine bcase (fun hb => ?_) (fun hb => ?_) <;> cbv)
    | (intro K' hK'; cbv))))
    all_goals ((try clear hK' K'); cases ho; (try simp only [nc1] at *); (try simp only [Int.ofNat_eq_natCast] at *))
    all_goals (subst hR; rw [iR_rlen] at hb; simp only [real, rCmp, decide_eq_true_eq, decide_eq_false_iff_not] at hb)
    · exact iR_inb (by omega) (by omega)
    · exact iR_wf _
    · exact iR_ok hj (by omega)
    · exact iR_apok [] _ (by simp)
    · have h1 : 0 < xs.length := by omega
      refine ⟨⟨[], [], [3, 6, 7, 8], [0], 1⟩, rfl, ⟨1, real.bin .add .i64 j 1, ?_, by omega, .inr ⟨_, ?_, rfl⟩⟩, ?_⟩
      · simp only [real, rBin]; rw [wrap_i64 _ (by omega) (by omega)]; omega
      · rw [iR_cI hj h1, ← take_snoc h1]
        exact iR_app [] [xs.getD 0 0]
      · show (xs.length - real.bin .add .i64 j 1).toNat < (xs.length - j).toNat
        simp only [real, rBin]; rw [wrap_i64 _ (by omega) (by omega)]; omega
    · exact .inl ⟨List.length_eq_zero_iff.1 (by omega), by trivial⟩
  · cbv
    (repeat (any_goals (first
    | with_reducible refine And.intro ?_ ?_
    | exact True.intro
    | with_reducible exact rfl
    | (with_reducible refine Nd.mk ?_; try dsimp only)
    | (with_reducible refine Al.mk (fun x hx => ?_); cbv)
    | (with_reducible refine hK' _ ?_; clear hK' K'; cbv)
    | (with_reducible refine brA.yes (by first | assumption | exact rfl | (simp only [show oCmp = real.cmp from congrArg Ar.cmp ho, show oBin = real.bin from congrArg Ar.bin ho, show oScmp = real.scmp from congrArg Ar.scmp ho, show oPickB = real.pickB from congrArg Ar.pickB ho]; decide)) ?_; cbv)
    | (with_reducible refine brA.no (by first | assumption | exact rfl | (simp only [show oCmp = real.cmp from congrArg Ar.cmp ho, show oBin = real.bin from congrArg Ar.bin ho, show oScmp = real.scmp from congrArg Ar.scmp ho, show oPickB = real.pickB from congrArg Ar.pickB ho]; decide)) ?_; cbv)
    | (with_reducible refine bcase (fun hb => ?_) (fun hb => ?_) <;> cbv)
    | (intro K' hK'; cbv))))
    all_goals ((try clear hK' K'); cases ho; (try simp only [nc1] at *); (try simp only [Int.ofNat_eq_natCast] at *))
    all_goals (subst hR hrow; rw [iR_rlen] at hb; simp only [real, rCmp, decide_eq_true_eq, decide_eq_false_iff_not] at hb)
    · exact iR_inb (by omega) (by omega)
    · exact iR_wf _
    · exact iR_ok hj (by omega)
    · exact iR_apok _ _ (by simp; omega)
    · have h1 : i < xs.length := by omega
      refine ⟨⟨[], [(1, 0)], [3, 6, 7, 8], [1], 1⟩, rfl, ⟨i + 1, real.bin .add .i64 j 1, ?_, by omega, .inr ⟨_, ?_, rfl⟩⟩, ?_⟩
      · simp only [real, rBin]; rw [wrap_i64 _ (by omega) (by omega)]; omega
      · rw [iR_cI hj h1, ← take_snoc h1]
        exact iR_app _ [xs.getD i 0]
      · show (xs.length - real.bin .add .i64 j 1).toNat < (xs.length - j).toNat
        simp only [real, rBin]; rw [wrap_i64 _ (by omega) (by omega)]; omega
    · right
      have : i = xs.length := by omega
      subst this
      simp
theorem K_list {xs : List Int} {n : Nat} {h : Hp} {K : CallK} (hx : xs.length ≤ 500) (hK : K (.d (.imm (iR xs))) n h) : CallE Tryd.prog 10 [.d (.imm (iR xs))] n h K := by
  refine (call_data (K_list0 xs hx) rfl (K := fun v n' h' => ((xs = [] ∧ v = .d .nilsl) ∨ v = .d (.imm (iR xs))) ∧ n' = n ∧ h' = h) (fun v hv => ⟨hv, rfl, rfl⟩)).weaken ?_
  rintro v n' h' ⟨⟨rfl, rfl⟩ | rfl, rfl, rfl⟩
  · refine ⟨_, hK, fun ρ w M x hx => ?_⟩
    obtain rfl : x = .slice none 0 0 := hx
    exact ⟨none, 0, rfl, Nat.le_refl _, .inl rfl⟩
  · exact ⟨_, hK, fun _ _ _ _ h => h⟩
/-! totals -/
theorem rows_cells {w : World} {M : Nat → Prop} : ∀ (xs : List Int) (vs : List Value), RelRows w M (iR xs) vs → ∀ j, j < xs.length → vs[j]? = some (.int .i64 (xs.getD j 0))
  | [], vs, _, j, hj => by simp at hj
  | x :: xs, vs, h, j, hj => by
    obtain ⟨⟨v, r, hv, hd, -⟩, h2⟩ := h
    obtain hd : v = .int .i64 x := hd
    obtain ⟨a, rest, rfl⟩ : ∃ a rest, vs = a :: rest := by
      cases vs with
      | nil => simp at hv
      | cons a rest => exact ⟨a, rest, rfl⟩
    simp only [List.length_singleton, List.take_succ_cons, List.take_zero, List.cons.injEq] at hv
    obtain ⟨rfl, rfl⟩ := hv
    cases j with
    | zero => simp [hd]
    | succ j =>
      have := rows_cells xs rest h2 j (by simpa using hj)
      simpa using this
theorem ints_of {w : World} {M : Nat → Prop} {xs : List Int} {v : Value} (h : RelD w M (.imm (iR xs)) v) : Ints .i64 w v xs := by
  obtain ⟨a, cap, rfl, hc, h1⟩ := h
  refine ⟨a, cap, by rw [iR_len], fun h0 => ?_⟩
  rcases h1 with h1 | ⟨b, off, cs, e, fz, c, rfl, hb, hm, hl, hr⟩
  · have := iR_len xs
    rw [h1] at this
    simp at this
    omega
  · refine ⟨b, off, rfl, lt_of_get hb, fun j hj => ?_⟩
    have h2 := rows_cells xs _ hr j hj
    rw [List.getElem?_drop] at h2
    simp only [World.cell?, hb]
    simpa using h2
theorem call_old3 {P : Program} {n : Nat} {h : Hp} {f : Nat} {fn : Func} {args : List AV} {Q : World → List Value → Prop} {av : AV} {v : Value} {K : CallK} (hf : P.funcs[f]? = some fn) (hn : (fn.name == "runtime.NumGoroutine") = false) (hb : fn.body.isNone = false)
    (ha : ∀ ρ w M vs, RelVs ρ w M args vs → Q w vs) (hv : ∀ ρ w M, RelV ρ w M av v) (hc : ∀ w vs, J w → Q w vs → Calls P f vs.toArray w fun e w' => e = .returned v ∧ Below w.heap.size w w') (hK : K av n h) : CallE P f args n h K := by
  refine .enter fn hf hn hb (fun ρ w vs hr hvs => ?_)
  refine Calls.mono (hc w vs hr.old.inv (ha _ _ _ _ hvs)) ?_
  rintro e w' ⟨rfl, hb⟩
  have hg : Grows w w' := fun b o hbo => by rw [hb.block b (lt_of_get hbo)]; exact hbo
  exact ⟨_, rfl, av, ρ, n, h, hK, hr.grow hg, Nat.le_refl _, hv _ _ _, goes_grow hg hb.os hb.tape hb.output hb.size⟩
theorem K_Total {xs : List Int} {n : Nat} {h : Hp} {K : CallK} (hx : ∀ x ∈ xs, I64 x) (hl : xs.length ≤ 500) (hK : K (.tup [.d (.int .i64 (amt xs.sum)), .d (.int .i64 (amtE xs.sum))]) n h) : CallE Tryd.prog 9 [.d (.imm (iR xs))] n h K :=
  call_old3 (Q := fun w vs => ∃ v, vs = [v] ∧ Ints .i64 w v xs) (v := .tuple #[.int .i64 (amt xs.sum), .int .i64 (amtE xs.sum)]) Tryd.func9 (by kernel_rfl) (by kernel_rfl)
    (by rintro ρ w M vs ⟨v, r, rfl, h1, rfl⟩; exact ⟨v, rfl, ints_of h1⟩) (by intro ρ w M; simp [RelVs, RelV, RelD]) (by rintro w vs hJ ⟨v, rfl, hi⟩; exact C_Total v xs w hi hx (by omega)) hK
theorem K_RTotal {xs : List Int} {n : Nat} {h : Hp} {K : CallK} (hx : ∀ x ∈ xs, I64 x) (hl : xs.length ≤ 500) (hK : K (.tup [.d (.int .i64 (amt xs.sum)), .d (.int .i64 (amtE xs.sum))]) n h) : CallE Tryd.prog 11 [.d (.imm (iR xs))] n h K :=
  call_old3 (Q := fun w vs => ∃ v, vs = [v] ∧ Ints .i64 w v xs) (v := .tuple #[.int .i64 (amt xs.sum), .int .i64 (amtE xs.sum)]) Tryd.func11 (by kernel_rfl) (by kernel_rfl)
    (by rintro ρ w M vs ⟨v, r, rfl, h1, rfl⟩; exact ⟨v, rfl, ints_of h1⟩) (by intro ρ w M; simp [RelVs, RelV, RelD]) (by rintro w vs hJ ⟨v, rfl, hi⟩; exact C_RTotal v xs w hi hx (by omega)) hK
/-! what the statements begin with -/
def S_Add (a b : Int) (K : CallK) (n : Nat) (h : Hp) : Prop := Nd (fun _ => I64 a ∧ I64 b) ∧ Al (fun x => x = amt (a + b)) fun x => Al (fun y => y = amtE (a + b)) fun y => K (.tup [.d (.int .i64 x), .d (.int .i64 y)]) n h
theorem K_Add1 {a b : Int} {n : Nat} {h : Hp} {K : CallK} (hK : S_Add a b K n h) : CallE Tryd.prog 17 [.d (.int .i64 a), .d (.int .i64 b)] n h K := K_Add a b hK.1.h.1 hK.1.h.2 ((hK.2.h _ rfl).h _ rfl)
def S_Tot3 (a b c : Int) (K : CallK) (n : Nat) (h : Hp) : Prop := Nd (fun _ => I64 a ∧ I64 b ∧ I64 c) ∧ Al (fun x => x = amt (a + b + c)) fun x => Al (fun y => y = amtE (a + b + c)) fun y => K (.tup [.d (.int .i64 x), .d (.int .i64 y)]) n h
theorem K_Tot3 {a b c : Int} {n : Nat} {h : Hp} {K : CallK} (hK : S_Tot3 a b c K n h) : CallE Tryd.prog 9 [.d (.imm [[.int .i64 a], [.int .i64 b], [.int .i64 c]])] n h K := by
  obtain ⟨⟨h1, h2, h3⟩, hK⟩ := hK
  have e : [a, b, c].sum = a + b + c := by simp; omega
  refine K_Total (xs := [a, b, c]) (by intro x hx; simp at hx; rcases hx with rfl | rfl | rfl <;> assumption) (by simp) ?_
  rw [e]
  exact (hK.h _ rfl).h _ rfl
def S_Parse (s : List UInt8) (K : CallK) (n : Nat) (h : Hp) : Prop := Nd (fun _ => s.length ≤ 281474976710656) ∧ Al (fun c => I64 c ∧ T03 c = s) (fun c => K (.tup [.d (.int .i64 c), .d (.int .i64 0)]) n h) ∧ Al (fun c : Int => c = 0 ∧ ∀ c, I64 c → T03 c ≠ s) fun c => K (.tup [.d (.int .i64 c), .d (.int .i64 4)]) n h
theorem K_Parse1 {s : List UInt8} {n : Nat} {h : Hp} {K : CallK} (hK : S_Parse s K n h) : CallE Tryd.prog 14 [.d (.str s)] n h K :=
  K_Parse hK.1.h (by rintro v (⟨c, h1, h2, rfl⟩ | ⟨h1, rfl⟩); exact hK.2.1.h c ⟨h1, h2⟩; exact hK.2.2.h 0 ⟨rfl, h1⟩)
theorem T1234 : T03 (-1234) = [45, 49, 50, 46, 51, 52] := by kernel_rfl
theorem T0005 : T03 5 = [48, 46, 48, 53] := by kernel_rfl
def W_Tot (l : List (List D)) (K : CallK) (n : Nat) (h : Hp) : Prop := Nd (fun _ => l = iR [9223372036854775807, 1, -1]) ∧ K (.tup [.d (.int .i64 9223372036854775807), .d (.int .i64 0)]) n h
theorem K_WTot {l : List (List D)} {n : Nat} {h : Hp} {K : CallK} (hK : W_Tot l K n h) : CallE Tryd.prog 9 [.d (.imm l)] n h K := by
  obtain ⟨⟨rfl⟩, hK⟩ := hK
  exact K_Total (by intro x hx; unfold I64; simp at hx; rcases hx with rfl | rfl | rfl <;> omega) (by simp) hK
def W_Parse (s : List UInt8) (K : CallK) (n : Nat) (h : Hp) : Prop := Nd (fun _ => s = [45, 49, 50, 46, 51, 52]) ∧ K (.tup [.d (.int .i64 (-1234)), .d (.int .i64 0)]) n h
theorem K_WParse {s : List UInt8} {n : Nat} {h : Hp} {K : CallK} (hK : W_Parse s K n h) : CallE Tryd.prog 14 [.d (.str s)] n h K := by
  obtain ⟨⟨rfl⟩, hK⟩ := hK
  have h4 : I64 (-1234) := by unfold I64; omega
  refine K_Parse (by simp) ?_
  rintro v (⟨c, h1, h2, rfl⟩ | ⟨h1, -⟩)
  · obtain rfl := T03_inj h1 h4 (h2.trans T1234.symm)
    exact hK
  · exact absurd T1234 (h1 _ h4)
def W_Add (a b : Int) (K : CallK) (n : Nat) (h : Hp) : Prop := Nd (fun _ => a = 9223372036854775807 ∧ b = 1) ∧ K (.tup [.d (.int .i64 0), .d (.int .i64 6)]) n h
theorem K_WAdd {a b : Int} {n : Nat} {h : Hp} {K : CallK} (hK : W_Add a b K n h) : CallE Tryd.prog 17 [.d (.int .i64 a), .d (.int .i64 b)] n h K := by
  obtain ⟨⟨rfl, rfl⟩, hK⟩ := hK
  exact K_Add _ _ (by unfold I64; omega) (by unfold I64; omega) hK
def W_Text (a : Int) (K : CallK) (n : Nat) (h : Hp) : Prop := Nd (fun _ => a = 5) ∧ K (.d (.str [48, 46, 48, 53])) n h
theorem K_WText {a : Int} {n : Nat} {h : Hp} {K : CallK} (hK : W_Text a K n h) : CallE Tryd.prog 13 [.d (.int .i64 a)] n h K := by
  obtain ⟨⟨rfl⟩, hK⟩ := hK
  refine K_Text 5 (by unfold I64; omega) ?_
  rw [T0005]
  exact hK
def C12 : CallS := fun f args n h K => match f with
  | 9 => (match args with | [.d (.imm l)] => W_Tot l K n h | _ => False)
  | 14 => (match args with | [.d (.str s)] => W_Parse s K n h | _ => False)
  | 17 => (match args with | [.d (.int .i64 a), .d (.int .i64 b)] => W_Add a b K n h | _ => False)
  | 13 => (match args with | [.d (.int .i64 c)] => W_Text c K n h | _ => False)
  | _ => False
theorem C12_ok : ∀ f args n h K, C12 f args n h K → CallE Tryd.prog f args n h K := by
  intro f args n h K hc
  unfold C12 at hc
  split at hc
  · split at hc
    · exact K_WTot hc
    · exact hc.elim
  · split at hc
    · exact K_WParse hc
    · exact hc.elim
  · split at hc
    · exact K_WAdd hc
    · exact hc.elim
  · split at hc
    · exact K_WText hc
    · exact hc.elim
  · exact hc.elim
theorem K_wakes0 : CallE Tryd.prog 12 [] 0 [] (Gets fun v => v = .d (.bool true)) := by
  refine call_fn tysOK orders (C := C12) C12_ok H0 Tryd.func12 (by kernel_rfl) (by kernel_rfl) ?_
  intro oBin oCmp oWrap oNeg oCom oBnot oBeq oPickB oPickI oPickS oInb oSub2 oMinI oMaxI oSlen oSidx oScat oSsub oScmp oScok oLen oCI oCB oCS oCL oOkR oApp oApok oSub oSetc oRep oMkok oNthI oNthB oNthS oIteI oIteB oIteS oB2s oS2b oAllB oWf oDeq ho; cbv
  (repeat (any_goals (first
    | with_reducible refine And.intro ?_ ?_
    | exact True.intro
    | with_reducible exact rfl
    | (with_reducible refine Nd.mk ?_; try dsimp only)
    | (with_reducible refine Al.mk (fun x hx => ?_); cbv)
    | (with_reducible refine hK' _ ?_; clear hK' K'; cbv)
    | (with_reducible refine brA.yes (by first | assumption | exact rfl | (simp only [show oCmp = real.cmp from congrArg Ar.cmp ho, show oBin = real.bin from congrArg Ar.bin ho, show oScmp = real.scmp from congrArg Ar.scmp ho, show oPickB = real.pickB from congrArg Ar.pickB ho]; decide)) ?_; cbv)
    | (with_reducible refine brA.no (by first | assumption | exact rfl | (simp only [show oCmp = real.cmp from congrArg Ar.cmp ho, show oBin = real.bin from congrArg Ar.bin ho, show oScmp = real.scmp from congrArg Ar.scmp ho, show oPickB = real.pickB from congrArg Ar.pickB ho]; decide)) ?_; cbv)
    | (with_reducible refine bcase (fun hb => ?_) (fun hb => ?_) <;> cbv)
    | (intro K' hK'; cbv))))
  all_goals ((try clear hK' K'); cases ho; (try simp only [nc1] at *); (try simp only [Int.ofNat_eq_natCast] at *))
  all_goals first
    | rfl
    | (simp; done)
    | trace_state
theorem K_wakes {n : Nat} {h : Hp} {K : CallK} (hK : K (.d (.bool true)) n h) : CallE Tryd.prog 12 [] n h K :=
  call_data K_wakes0 rfl (by rintro v rfl; exact hK)
end Go.Proofs.YtieoipmbcdfmeaaDoor.Ab
