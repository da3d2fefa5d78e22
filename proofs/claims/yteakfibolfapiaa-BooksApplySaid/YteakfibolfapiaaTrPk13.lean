/- Several texts in one: Ref03b, Rb0, Rb1, Rb2. -/
import Derived.Test.YteakfibolfapiaaTrPk12
section
namespace Go.Proofs.Yteakfibolfapiaa
open Go.RowKit Go.Sort
set_option linter.unusedVariables false
set_option linter.unusedSimpArgs false

def QU (x : Int) : Int := x.tdiv 1000000000
def RU (x : Int) : Int := x.tmod 1000000000
theorem qru_facts (x : Int) (hx : I64 x) : x = 1000000000 * QU x + RU x ∧ (-9223372037 ≤ QU x ∧ QU x ≤ 9223372037) ∧ (-1000000000 < RU x ∧ RU x < 1000000000) := by
  obtain ⟨e, h1, h2⟩ := half_facts x
  unfold I64 at hx
  unfold QU RU
  omega
theorem C_HalfU (a : Int) (ha : I64 a) (w : World) :
    Calls Try.prog 79 #[.int .i64 a] w fun e w' => e = .returned (.agg #[.int .i64 (QU a), .int .i64 (RU a)]) ∧ Below w.heap.size w w' := C_Half a ha w
def qs (xs : List Int) : Int := (xs.map QU).sum
def rs (xs : List Int) : Int := (xs.map RU).sum
theorem qs_bd (xs : List Int) (hx : ∀ x ∈ xs, I64 x) : (-(9223372037 * (xs.length : Int)) ≤ qs xs ∧ qs xs ≤ 9223372037 * (xs.length : Int)) ∧ (-(1000000000 * (xs.length : Int)) ≤ rs xs ∧ rs xs ≤ 1000000000 * (xs.length : Int)) ∧ xs.sum = 1000000000 * qs xs + rs xs := by
  induction xs with
  | nil => simp [qs, rs]
  | cons x xs ih =>
    obtain ⟨h1, h2, h3⟩ := ih fun y hy => hx y (List.mem_cons_of_mem _ hy)
    have := qru_facts x (hx x List.mem_cons_self)
    have e1 : qs (x :: xs) = QU x + qs xs := by simp [qs]
    have e2 : rs (x :: xs) = RU x + rs xs := by simp [rs]
    rw [e1, e2, List.sum_cons, List.length_cons]
    omega
theorem qs_take (xs : List Int) (i : Nat) (h : i < xs.length) : qs (xs.take (i + 1)) = qs (xs.take i) + QU (xs.getD i 0) ∧ rs (xs.take (i + 1)) = rs (xs.take i) + RU (xs.getD i 0) := by
  rw [List.take_succ_eq_append_getElem h]
  simp only [qs, rs, List.map_append, List.map_cons, List.map_nil, List.sum_append, List.sum_cons, List.sum_nil, Int.add_zero, List.getD, List.getElem?_eq_getElem h, Option.getD_some]
  exact ⟨trivial, trivial⟩

def RTotInv (xs : List Int) (g : Nat) (B : World) (s5 : Value) (wr : World) : Prop :=
  ∃ i : Nat, i ≤ xs.length ∧ s5 = .int .i64 i ∧ wr.heap[g]? = some (.cells #[.int .i64 (qs (xs.take i)), .int .i64 (rs (xs.take i))] 155 (0, 0)) ∧ Below B.heap.size B wr

set_option maxRecDepth 100000 in
set_option maxHeartbeats 4000000 in
theorem C_RTotal (v : Value) (xs : List Int) (w : World) (hv : Ints .i64 w v xs) (hx : ∀ x ∈ xs, I64 x) (hn : xs.length ≤ 10000000) :
    Calls Try.prog 58 #[v] w fun e w' => e = .returned (.tuple #[.int .i64 (amt xs.sum), .int .i64 (amtE xs.sum)]) ∧ Below w.heap.size w w' := by
  obtain ⟨a, cap, rfl, hc⟩ := hv
  obtain ⟨V, hV⟩ : ∃ V, V = xs.sum := ⟨_, rfl⟩
  rw [← hV]
  have HC := Lib.hid hc; have HX := Lib.hid hx; have HV := Lib.hid hV
  clear hc hx hV
  go_enter Try.func58, Try.ntmps58
  go_wp2_with fail
  go_loopw [5] (fun s5 wr => RTotInv xs w.heap.size w s5 wr) (fun s5 _ => xs.length - (intOf s5).toNat)
  case atStart =>
    exact ⟨0, Nat.zero_le _, rfl, by rw [List.take_zero]; (repeat (first | with_reducible assumption | with_reducible refine Tr.blk_drew ?_ | with_reducible refine Tr.blk_drewN ?_ | (refine Tr.blk_at ?_; focus (first | (simp; done) | (simp; omega))) | with_reducible refine Tr.blk_old ?_ | ((with_reducible refine Tr.blk_set_ne ?_ _ ?_); rotate_left; focus (first | (simp; done) | (simp; omega) | (simp; assumption))))), by (repeat (first | with_reducible assumption | (with_reducible exact Below.refl _ _) | ((with_reducible refine Tr.below_alloc ?_ ?_); rotate_left; focus (first | omega | exact Nat.le_refl _)) | (with_reducible refine Tr.below_drew ?_) | (with_reducible refine Tr.below_drewN ?_) | ((with_reducible refine Tr.below_set ?_ ?_); rotate_left; focus (first | omega | (simp; done) | (simp; omega))) | ((with_reducible refine Tr.below_trans ?_ (by assumption) ?_); rotate_left; focus (first | exact Nat.le_refl _ | omega))))⟩
  case round =>
    obtain ⟨i, hi, rfl, hg, hB⟩ := hrel
    have BG := Lib.hid hg
    have cg := fun o => Tr.cell_blk (o := o) hg
    clear hg
    by_cases hlt : i < xs.length
    · obtain ⟨b, off, rfl, hbl, hcell⟩ := HC.out (by omega)
      obtain ⟨x, hxe⟩ : ∃ x, x = xs.getD i 0 := ⟨_, rfl⟩
      have hci : wr.cell? ⟨b, off + i, none⟩ = some (.int .i64 x) := by rw [hB.cell (p := ⟨b, off + i, none⟩) hbl, hcell i hlt, hxe]
      have hxI : I64 x := by rw [hxe]; simp only [List.getD, List.getElem?_eq_getElem hlt, Option.getD_some]; exact HX.out _ (List.getElem_mem _)
      have hs := qs_take xs i hlt
      rw [← hxe] at hs
      have hb1 := qs_bd (xs.take i) fun y hy => HX.out y (List.mem_of_mem_take hy)
      rw [List.length_take] at hb1
      have hq1 : -92233720370000000 ≤ qs (xs.take i) := by omega
      have hq2 : qs (xs.take i) ≤ 92233720370000000 := by omega
      have hq3 : -10000000000000000 ≤ rs (xs.take i) := by omega
      have hq4 : rs (xs.take i) ≤ 10000000000000000 := by omega
      obtain ⟨-, ⟨hx1, hx2⟩, hx3, hx4⟩ := qru_facts x hxI
      generalize hQ : qs (xs.take i) = Q at *
      generalize hR : rs (xs.take i) = R at *
      have HQ := Lib.hid hQ; have HR := Lib.hid hR
      have HS := Lib.hid hs; have HXI := Lib.hid hxI
      clear hcell hxe hxI hs hb1 hQ hR
      have hgB : w.heap.size < wr.heap.size := Tr.blk_lt BG.out
      go_wp2_with (go_at_call 79; refine (C_HalfU x HXI.out _).mono ?_; rintro e w2 ⟨rfl, hb2⟩; have b2 := Tr.blk_keep hb2 BG.out; have c2 := fun o => Tr.cell_blk (o := o) b2; have f2 := fun o => Tr.frozen_blk (o := o) b2; have hz2 := hb2.size; have l2 := Tr.blk_lt b2; have hne2 : w2.heap.size ≠ w.heap.size := (by omega); have B2 := Lib.hid b2; have hB2 := Tr.below_trans hB hb2; clear b2 cg hci hb2)
      go_roundw
      case rel =>
        refine ⟨i + 1, by omega, by go_num, ?_, ?_⟩
        · rw [HS.out.1, HS.out.2]
          have b2 := B2.out
          exact Tr.blk_old (Tr.blk_set (o := 1) (Tr.blk_set (o := 0) b2 _) _)
        · (repeat (first | with_reducible assumption | (with_reducible exact Below.refl _ _) | ((with_reducible refine Tr.below_alloc ?_ ?_); rotate_left; focus (first | omega | exact Nat.le_refl _)) | (with_reducible refine Tr.below_drew ?_) | (with_reducible refine Tr.below_drewN ?_) | ((with_reducible refine Tr.below_set ?_ ?_); rotate_left; focus (first | omega | (simp; done) | (simp; omega))) | ((with_reducible refine Tr.below_trans ?_ (by assumption) ?_); rotate_left; focus (first | exact Nat.le_refl _ | omega))))
      case measure => simp [intOf]; omega
    · have hie : i = xs.length := by omega
      subst hie
      rw [List.take_length] at cg
      obtain ⟨⟨h1, h2⟩, ⟨h3, h4⟩, hsum⟩ := qs_bd xs HX.out
      have e : xs.sum = qs xs * 1000000000 + rs xs := by omega
      have E := Lib.hid e
      have g1 : -1152921504606846976 ≤ qs xs := by omega
      have g2 : qs xs ≤ 1152921504606846976 := by omega
      have g3 : -1152921504606846976 ≤ rs xs := by omega
      have g4 : rs xs ≤ 1152921504606846976 := by omega
      clear hsum e h1 h2 h3 h4
      go_wp2_with (go_at_call 80; refine (C_Back _ _ g1 g2 g3 g4 _).mono ?_; rintro e w3 ⟨rfl, hb3⟩)
      go_ret2
      exact ⟨(congrArg (fun V => Ending.returned (.tuple #[.int .i64 (amt V), .int .i64 (amtE V)])) (HV.out.trans E.out)).symm, Tr.below_trans hB hb3⟩

end Go.Proofs.Yteakfibolfapiaa
end
section
namespace Go.Proofs.Yteakfibolfapiaa.Ab
open Go Go.RowKit Go.Sort
set_option linter.unusedVariables false
set_option linter.unusedSimpArgs false
set_option maxRecDepth 100000
set_option maxHeartbeats 4000000
def S_RTot (l : List (List D)) (K : CallK) (n : Nat) (h : Hp) : Prop := Nd (fun _ => ∃ xs, l = iR xs ∧ xs.length ≤ 100000 ∧ ∀ x ∈ xs, I64 x) ∧ Al (fun q : Int × Int => ∃ xs, l = iR xs ∧ q = (amt xs.sum, amtE xs.sum)) fun q => K (.tup [.d (.int .i64 q.1), .d (.int .i64 q.2)]) n h
theorem L_RTot {l : List (List D)} {n : Nat} {h : Hp} {K : CallK} (hK : S_RTot l K n h) : CallE Try.prog 58 [.d (.imm l)] n h K := by
  obtain ⟨⟨xs, rfl, hl, hx⟩, hk⟩ := hK
  exact call_old3 (Q := fun w vs => ∃ v, vs = [v] ∧ Ints .i64 w v xs) (v := .tuple #[.int .i64 (amt xs.sum), .int .i64 (amtE xs.sum)]) Try.func58 (by kernel_rfl) (by kernel_rfl)
    (by rintro ρ w M vs ⟨v, r, rfl, h1, rfl⟩; exact ⟨v, rfl, ints_of h1⟩) (by intro ρ w M; simp [RelVs, RelV, RelD]) (by rintro w vs hJ ⟨v, rfl, hi⟩; exact C_RTotal v xs w hi hx (by omega)) (hk.h _ ⟨xs, rfl, rfl⟩)
/-! the reference's difference -/
theorem CallE.args {P : Program} {f n : Nat} {args args' : List AV} {h : Hp} {K : CallK} (hc : CallE P f args' n h K) (ha : ∀ ρ w M vs, RelVs ρ w M args vs → RelVs ρ w M args' vs) : CallE P f args n h K := by
  cases hc with
  | enter fn hf hn hb run => exact .enter fn hf hn hb (fun ρ w vs hr hv => run ρ w vs hr (ha _ _ _ _ hv))
  | ext run => exact .ext (fun ρ w vs hr hv => run ρ w vs hr (ha _ _ _ _ hv))
theorem agg_D {ρ : Env} {w : World} {M : Nat → Prop} {k1 k2 : IntKind} {x y : Int} {v : Value} (h : RelV ρ w M (.d (.agg [.int k1 x, .int k2 y])) v) : RelV ρ w M (.agg [.d (.int k1 x), .d (.int k2 y)]) v := by
  obtain ⟨cs, rfl, c1, r1, e3, rfl, c2, r2, rfl, rfl, rfl⟩ := h
  exact ⟨cs, rfl, _, _, e3, rfl, _, _, rfl, rfl, rfl⟩
theorem amtR_of {x y : Int} (h : y = x) : (AV.tup [.d (.int .i64 (amt y)), .d (.int .i64 (amtE y))]) = .tup [.d (.int .i64 (amt x)), .d (.int .i64 (amtE x))] := by subst h; rfl
theorem bsub_id {x y : Int} (h : I64 (x - y)) : real.bin .sub .i64 x y = x - y := by
  unfold I64 at h
  simp only [real, rBin]; rw [wrap_i64 _ (by omega) (by omega)]
def S_Half (a : Int) (K : CallK) (n : Nat) (hp : Hp) : Prop := Nd (fun _ => I64 a) ∧ Al (fun x => x = QU a) fun x => Al (fun y => y = RU a) fun y => K (.agg [.d (.int .i64 x), .d (.int .i64 y)]) n hp
theorem K_Half {a : Int} {n : Nat} {hp : Hp} {K : CallK} (hK : S_Half a K n hp) : CallE Try.prog 79 [.d (.int .i64 a)] n hp K :=
  call_old (v := .agg #[.int .i64 (QU a), .int .i64 (RU a)]) Try.func79 (by kernel_rfl) (by kernel_rfl) (vals := [.int .i64 a]) (by intro ρ w M vs h; simpa [RelVs, RelV, RelD] using h) (by intro ρ w M; simp [RelVs, RelV, RelD]) (fun w _ => C_HalfU a hK.1.h w) ((hK.2.h _ rfl).h _ rfl)
def bk (x : Int) : Prop := -1152921504606846976 ≤ x ∧ x ≤ 1152921504606846976
def S_Back (x y : Int) (K : CallK) (n : Nat) (hp : Hp) : Prop := Nd (fun _ => bk x ∧ bk y) ∧ Al (fun z => z = amt (x * 1000000000 + y)) fun z => Al (fun e => e = amtE (x * 1000000000 + y)) fun e => K (.tup [.d (.int .i64 z), .d (.int .i64 e)]) n hp
theorem K_Back {x y : Int} {n : Nat} {hp : Hp} {K : CallK} (hK : S_Back x y K n hp) : CallE Try.prog 80 [.agg [.d (.int .i64 x), .d (.int .i64 y)]] n hp K := by
  obtain ⟨⟨h1, h2⟩, hK⟩ := hK
  refine call_old (v := .tuple #[.int .i64 (amt (x * 1000000000 + y)), .int .i64 (amtE (x * 1000000000 + y))]) Try.func80 (by kernel_rfl) (by kernel_rfl) (vals := [.agg #[.int .i64 x, .int .i64 y]]) ?_ (by intro ρ w M; simp [RelVs, RelV, RelD]) (fun w _ => C_Back x y h1.1 h1.2 h2.1 h2.2 w) ((hK.h _ rfl).h _ rfl)
  rintro ρ w M vs ⟨v, r, rfl, ⟨cs, rfl, hc⟩, rfl⟩
  obtain ⟨c1, r1, e3, rfl, c2, r2, rfl, rfl, rfl⟩ := hc
  obtain ⟨cs⟩ := cs
  simp only at e3
  subst e3
  rfl
theorem K_BackD {x y : Int} {n : Nat} {hp : Hp} {K : CallK} (hK : S_Back x y K n hp) : CallE Try.prog 80 [.d (.agg [.int .i64 x, .int .i64 y])] n hp K :=
  (K_Back hK).args (by rintro ρ w M vs ⟨v, r, rfl, h1, h2⟩; exact ⟨_, _, rfl, agg_D h1, h2⟩)
def C21 : CallS := fun f args n h K => match f with
  | 80 => (match args with | [.d (.agg [.int .i64 x, .int .i64 y])] => S_Back x y K n h | [.agg [.d (.int .i64 x), .d (.int .i64 y)]] => S_Back x y K n h | _ => False)
  | 79 => (match args with | [.d (.int .i64 a)] => S_Half a K n h | _ => False)
  | _ => False
theorem C21_ok : ∀ f args n h K, C21 f args n h K → CallE Try.prog f args n h K := by
  intro f args n h K hc
  unfold C21 at hc
  split at hc
  · split at hc
    · exact K_BackD hc
    · exact K_Back hc
    · exact hc.elim
  · split at hc
    · exact K_Half hc
    · exact hc.elim
  · exact hc.elim
theorem K_RSub0 (a b : Int) (ha : I64 a) (hb : I64 b) : CallE Try.prog 60 [.d (.int .i64 a), .d (.int .i64 b)] 0 [] (Gets fun v => v = .tup [.d (.int .i64 (amt (a - b))), .d (.int .i64 (amtE (a - b)))]) := by
  have qa := qru_facts a ha
  have qb := qru_facts b hb
  refine call_fn tysOK orders (C := C21) C21_ok H0 Try.func60 (by kernel_rfl) (by kernel_rfl) ?_
  intro oBin oCmp oWrap oNeg oCom oBnot oBeq oPickB oPickI oPickS oInb oSub2 oMinI oMaxI oSlen oSidx oScat oSsub oScmp oScok oLen oCI oCB oCS oCL oOkR oApp oApok oSub oSetc oRep oMkok oNthI oNthB oNthS oIteI oIteB oIteS oB2s oS2b oAllB oWf oDeq oMlen oMhas oMI oMB oMS oMok oMput oMdel oSgo oSru oSnx ho; cbv
  (repeat (any_goals (first
    | with_reducible refine And.intro ?_ ?_
    | exact True.intro
    | with_reducible exact rfl
    | (with_reducible refine Nd.mk ?_; try dsimp only)
    | (with_reducible refine Nd0.mk ?_; try dsimp only)
    | (with_reducible refine Pz.mk ?_; cbv)
    | (with_reducible refine RgOK.mk ?_; kernel_rfl)
    | (with_reducible refine OrOK.mk ?_; kernel_rfl)
    | (with_reducible refine Al.mk (fun x hx => ?_); cbv)
    | (with_reducible refine hK' _ ?_; clear hK' K'; cbv)
    | (with_reducible refine brA.yes (by first | assumption | exact rfl | (simp only [show oCmp = real.cmp from congrArg Ar.cmp ho, show oBin = real.bin from congrArg Ar.bin ho, show oScmp = real.scmp from congrArg Ar.scmp ho, show oPickB = real.pickB from congrArg Ar.pickB ho]; decide)) ?_; cbv)
    | (with_reducible refine brA.no (by first | assumption | exact rfl | (simp only [show oCmp = real.cmp from congrArg Ar.cmp ho, show oBin = real.bin from congrArg Ar.bin ho, show oScmp = real.scmp from congrArg Ar.scmp ho, show oPickB = real.pickB from congrArg Ar.pickB ho]; decide)) ?_; cbv)
    | (with_reducible refine bcase (fun hb => ?_) (fun hb => ?_) <;> cbv)
    | (intro K' hK'; cbv))))
  all_goals ((try clear hK' K'); cases ho; (try simp only [nc1] at *); (try simp only [Int.ofNat_eq_natCast] at *))
  all_goals (have h1 : real.bin .sub .i64 (QU a) (QU b) = QU a - QU b := bsub_id (by unfold I64; omega))
  all_goals (have h2 : real.bin .sub .i64 (RU a) (RU b) = RU a - RU b := bsub_id (by unfold I64; omega))
  all_goals (try subst_vars)
  all_goals (try rw [h1])
  all_goals (try rw [h2])
  all_goals first
    | assumption
    | (unfold bk; omega)
    | exact amtR_of (by omega)
    | trace_state
def S_RSub (a b : Int) (K : CallK) (n : Nat) (h : Hp) : Prop := Nd (fun _ => I64 a ∧ I64 b) ∧ Al (fun q : Int × Int => q = (amt (a - b), amtE (a - b))) fun q => K (.tup [.d (.int .i64 q.1), .d (.int .i64 q.2)]) n h
theorem L_RSub {a b : Int} {n : Nat} {h : Hp} {K : CallK} (hK : S_RSub a b K n h) : CallE Try.prog 60 [.d (.int .i64 a), .d (.int .i64 b)] n h K := call_data (K_RSub0 a b hK.1.h.1 hK.1.h.2) rfl (by rintro v rfl; exact hK.2.h _ rfl)
end Go.Proofs.Yteakfibolfapiaa.Ab
end
section
namespace Go.Proofs.Yteakfibolfapiaa.Ab
open Go Go.RowKit Go.Sort
set_option linter.unusedVariables false
set_option linter.unusedSimpArgs false
set_option maxRecDepth 100000
set_option maxHeartbeats 8000000
theorem fin_d {p : AV → Prop} {d : D} (h : p (.d d)) : Fin 0 (Gets p) (.d d) 0 [] := ⟨⟨[], [], [0], [], 0⟩, _, 0, _, rfl, rfl, ⟨h⟩, rfl, rfl, rfl⟩
theorem ln_k {r : List (List D)} {qs : List (Int × Int)} (hr : r = lnR qs) {j : Int} {i : Nat} (hj : j = i) (hb : real.cmp .lss j (real.len r) = true) : real.okR r j 0 [.int .i64] = true ∧ real.okR r j 1 [.int .i64] = true := by
  subst hr hj
  have hi : i < qs.length := by simpa [real, rCmp, lnR] using hb
  simp only [real, Int.toNat_natCast, ln_get hi]
  simp [rowOk, kdOk, lnR, hi]
theorem lbal_drop {xs : List (Int × Int)} {i : Nat} (hi : i < xs.length) (k : Int) : lbal (xs.drop i) k = if xs[i].1 = k then xs[i].2 else lbal (xs.drop (i + 1)) k := by
  rw [List.drop_eq_getElem_cons hi]
  rfl
section
variable {xs : List (Int × Int)} {r : List (List D)} {j k a z c : Int} {i : Nat} {d : Bool} {o : List (Int × Int)}
theorem lb_y (hr : r = lnR xs) (hj : j = i) (hb : real.cmp .lss j (real.len r) = true) (he : real.cmp .eql (real.cI r j 0) k = true) (hl : c = lbal (xs.drop i) k) : real.cI r j 1 = c := by
  have hi := ln_lt hr hj hb
  subst hr
  rw [(ln_cI hj hi).1] at he
  have he : xs[i].1 = k := by simpa [real, rCmp] using he
  rw [(ln_cI hj hi).2, hl, lbal_drop hi, if_pos he]
theorem lb_n (hr : r = lnR xs) (hj : j = i) (hb : real.cmp .lss j (real.len r) = true) (he : real.cmp .eql (real.cI r j 0) k = false) (hl : c = lbal (xs.drop i) k) : c = lbal (xs.drop (i + 1)) k := by
  have hi := ln_lt hr hj hb
  subst hr
  rw [(ln_cI hj hi).1] at he
  have he : xs[i].1 ≠ k := by simpa [real, rCmp] using he
  rw [hl, lbal_drop hi, if_neg he]
theorem lb_e (hr : r = lnR xs) (hj : j = i) (hi : i ≤ xs.length) (hb : real.cmp .lss j (real.len r) = false) (hl : c = lbal (xs.drop i) k) : 0 = c := by
  have h := ln_end hr hj hi hb
  rw [hl, h, List.drop_length]
  rfl
end
theorem K_RBal0 (r : List (List D)) (xs : List (Int × Int)) (hr : r = lnR xs) (hl : xs.length ≤ 60000) (k : Int) : CallE Try.prog 38 [.d (.imm r), .d (.int .i64 k)] 0 [] (fun v n h => Nd (fun _ => Fin 0 (Gets fun v => v = .d (.int .i64 (lbal xs k))) v n h)) := by
  refine call_fn tysOK orders (C := C0) C0_ok H0 Try.func38 (by kernel_rfl) (by kernel_rfl) ?_
  intro oBin oCmp oWrap oNeg oCom oBnot oBeq oPickB oPickI oPickS oInb oSub2 oMinI oMaxI oSlen oSidx oScat oSsub oScmp oScok oLen oCI oCB oCS oCL oOkR oApp oApok oSub oSetc oRep oMkok oNthI oNthB oNthS oIteI oIteB oIteS oB2s oS2b oAllB oWf oDeq oMlen oMhas oMI oMB oMS oMok oMput oMdel oSgo oSru oSnx ho; cbv
  (repeat (any_goals (first
    | with_reducible refine And.intro ?_ ?_
    | exact True.intro
    | with_reducible exact rfl
    | (with_reducible refine Nd.mk ?_; try dsimp only)
    | (with_reducible refine Nd0.mk ?_; try dsimp only)
    | (with_reducible refine Pz.mk ?_; cbv)
    | (with_reducible refine RgOK.mk ?_; kernel_rfl)
    | (with_reducible refine OrOK.mk ?_; kernel_rfl)
    | (with_reducible refine Al.mk (fun x hx => ?_); cbv)
    | (with_reducible refine hK' _ ?_; clear hK' K'; cbv)
    | (with_reducible refine brA.yes (by first | assumption | exact rfl | (simp only [show oCmp = real.cmp from congrArg Ar.cmp ho, show oBin = real.bin from congrArg Ar.bin ho, show oScmp = real.scmp from congrArg Ar.scmp ho, show oPickB = real.pickB from congrArg Ar.pickB ho, show oBnot = real.bnot from congrArg Ar.bnot ho]; decide)) ?_; cbv)
    | (with_reducible refine brA.no (by first | assumption | exact rfl | (simp only [show oCmp = real.cmp from congrArg Ar.cmp ho, show oBin = real.bin from congrArg Ar.bin ho, show oScmp = real.scmp from congrArg Ar.scmp ho, show oPickB = real.pickB from congrArg Ar.pickB ho, show oBnot = real.bnot from congrArg Ar.bnot ho]; decide)) ?_; cbv)
    | (with_reducible refine bcase (fun hb => ?_) (fun hb => ?_) <;> cbv)
    | (intro K' hK'; cbv))))
  refine ⟨fun st => ∃ (i : Nat) (j : Int), j = i ∧ i ≤ xs.length ∧ lbal xs k = lbal (xs.drop i) k ∧ st = ⟨mkF 24 0 [(0, .d (.imm r)), (1, .d (.int .i64 k)), (5, .d (.int .i64 j))], 0, []⟩, fun st => ((xs.length : Int) - ctr 5 st).toNat, ⟨[], [], [0, 1, 5], [], 0⟩, ?_, ?_, ?_⟩
  · cbv
  · exact ⟨0, 0, rfl, Nat.zero_le _, rfl, rfl⟩
  rintro st1 ⟨i, j, hj, hi, ha, rfl⟩
  cbv
  (repeat (any_goals (first
    | with_reducible refine And.intro ?_ ?_
    | exact True.intro
    | with_reducible exact rfl
    | (with_reducible refine Nd.mk ?_; try dsimp only)
    | (with_reducible refine Nd0.mk ?_; try dsimp only)
    | (with_reducible refine Pz.mk ?_; cbv)
    | (with_reducible refine RgOK.mk ?_; kernel_rfl)
    | (with_reducible refine OrOK.mk ?_; kernel_rfl)
    | (with_reducible refine Al.mk (fun x hx => ?_); cbv)
    | (with_reducible refine hK' _ ?_; clear hK' K'; cbv)
    | (with_reducible refine brA.yes (by first | assumption | exact rfl | (simp only [show oCmp = real.cmp from congrArg Ar.cmp ho, show oBin = real.bin from congrArg Ar.bin ho, show oScmp = real.scmp from congrArg Ar.scmp ho, show oPickB = real.pickB from congrArg Ar.pickB ho, show oBnot = real.bnot from congrArg Ar.bnot ho]; decide)) ?_; cbv)
    | (with_reducible refine brA.no (by first | assumption | exact rfl | (simp only [show oCmp = real.cmp from congrArg Ar.cmp ho, show oBin = real.bin from congrArg Ar.bin ho, show oScmp = real.scmp from congrArg Ar.scmp ho, show oPickB = real.pickB from congrArg Ar.pickB ho, show oBnot = real.bnot from congrArg Ar.bnot ho]; decide)) ?_; cbv)
    | (with_reducible refine bcase (fun hb => ?_) (fun hb => ?_) <;> cbv)
    | (intro K' hK'; cbv))))
  all_goals ((try clear hK' K'); cases ho; (try simp only [nc1] at *); (try simp only [Int.ofNat_eq_natCast] at *))
  all_goals first
    | with_reducible exact inb_lt hj (by assumption)
    | with_reducible exact ln_wf hr
    | with_reducible exact ln_ok hr hj (by assumption)
    | with_reducible exact (ln_k hr hj (by assumption)).1
    | with_reducible exact (ln_k hr hj (by assumption)).2
    | exact fin_d (congrArg (fun z => AV.d (.int .i64 z)) (lb_y hr hj (by assumption) (by assumption) ha))
    | exact fin_d (congrArg (fun z => AV.d (.int .i64 z)) (lb_e hr hj hi (by assumption) ha))
    | (have h5 := lb_n hr hj ‹real.cmp .lss j (real.len r) = true› (by assumption) ha
       have h6 := ln_lt hr hj ‹real.cmp .lss j (real.len r) = true›
       exact ⟨⟨[], [], [0, 1, 5], [], 0⟩, rfl, ⟨i + 1, real.bin .add .i64 j 1, addLL hj (by omega), by omega, h5, rfl⟩, mea hj h6 (by omega)⟩)
    | trace_state
def S_RBal (r : List (List D)) (k : Int) (K : CallK) (n : Nat) (h : Hp) : Prop := Nd (fun _ => ∃ xs, r = lnR xs ∧ xs.length ≤ 60000) ∧ Al (fun z : Int => ∃ xs, r = lnR xs ∧ z = lbal xs k) fun z => K (.d (.int .i64 z)) n h
theorem L_RBal {r : List (List D)} {k : Int} {n : Nat} {h : Hp} {K : CallK} (hK : S_RBal r k K n h) : CallE Try.prog 38 [.d (.imm r), .d (.int .i64 k)] n h K := by
  obtain ⟨⟨xs, hr, hl⟩, hk⟩ := hK
  exact call_data (CallE.fin (K_RBal0 r xs hr hl k)) rfl (by rintro v rfl; exact hk.h _ ⟨xs, hr, rfl⟩)
/-! a balance is another one -/
section
variable {xs o : List (Int × Int)} {r out : List (List D)} {j k a z c : Int} {i : Nat} {d : Bool}
def sS (xs : List (Int × Int)) (a z : Int) (i : Nat) : Bool × List (Int × Int) := (xs.take i).foldl (stp a z) (decide (z = 0), [])
theorem sS_len : (sS xs a z i).2.length ≤ 2 * i := by
  have h := fold_len a z (xs.take i) (decide (z = 0), [])
  have h2 : (xs.take i).length ≤ i := by simp; omega
  simp at h
  unfold sS
  omega
theorem sS_next (hr : r = lnR xs) (hj : j = i) (hb : real.cmp .lss j (real.len r) = true) (hs : sS xs a z i = (d, o)) : ∃ x, x = (real.cI r j 0, real.cI r j 1) ∧ sS xs a z (i + 1) = stp a z (d, o) x := by
  have hi := ln_lt hr hj hb
  subst hr
  refine ⟨_, rfl, ?_⟩
  rw [(ln_cI hj hi).1, (ln_cI hj hi).2, ← hs]
  exact fold_snoc hi _
theorem st_nd (hd : real.bnot d = false) : stp a z (d, o) (k, c) = if k = a then (d, o) else (d, o ++ [(k, c)]) := by
  have : d = true := by simpa [real] using hd
  subst this
  rfl
theorem st_lt (hd : real.bnot d = true) (hb : real.pickB true (real.cmp .geq k a) false = false) : stp a z (d, o) (k, c) = if k = a then (d, o) else (d, o ++ [(k, c)]) := by
  have : d = false := by simpa [real] using hd
  subst this
  have h1 : ¬ k ≥ a := of_decide_eq_false hb
  have h2 : decide (a ≤ k) = false := by simp; omega
  simp only [stp, h2, Bool.and_false]
  rfl
theorem st_ge (hd : real.bnot d = true) (hb : real.pickB true (real.cmp .geq k a) false = true) : stp a z (d, o) (k, c) = if k = a then (true, o ++ [(a, z)]) else (true, o ++ [(a, z)] ++ [(k, c)]) := by
  have : d = false := by simpa [real] using hd
  subst this
  have h1 : k ≥ a := of_decide_eq_true hb
  have h2 : decide (a ≤ k) = true := by simp; omega
  simp only [stp, h2]
  rfl
theorem ne_t {x y : Int} (h : real.cmp .neq x y = true) : x ≠ y := by simpa [real, rCmp] using h
theorem ne_f {x y : Int} (h : real.cmp .neq x y = false) : x = y := by simpa [real, rCmp] using h
theorem ap_l {l : List (Int × Int)} {y : Int} (h : out = lnR l) (hl : l.length ≤ 150000) : real.apok out [[.int .i64 y, .int .i64 z]] 2 16 = true := by
  subst h
  simp [real, flatD, maxLen, lnR_len]
  omega
theorem app_l {l : List (Int × Int)} {y : Int} (h : out = lnR l) : real.app out [[.int .i64 y, .int .i64 z]] = lnR (l ++ [(y, z)]) := by
  subst h; rw [lnR_snoc]; rfl
theorem lset_end (hr : r = lnR xs) (hj : j = i) (hi : i ≤ xs.length) (hb : real.cmp .lss j (real.len r) = false) (hs : sS xs a z i = (d, o)) : lset xs a z = if d then o else o ++ [(a, z)] := by
  have h := ln_end hr hj hi hb
  subst h
  unfold sS at hs
  rw [List.take_length] at hs
  simp only [lset, hs]
theorem len_o (hs : sS xs a z i = (d, o)) (hi : i ≤ xs.length) (hl : xs.length ≤ 60000) : o.length ≤ 120000 := by
  have h := sS_len (xs := xs) (a := a) (z := z) (i := i)
  rw [hs] at h
  simp at h
  omega
end
theorem K_RSet0 (r : List (List D)) (xs : List (Int × Int)) (hr : r = lnR xs) (hl : xs.length ≤ 60000) (a z : Int) : CallE Try.prog 59 [.d (.imm r), .d (.int .i64 a), .d (.int .i64 z)] 0 [] (fun v n h => Nd (fun _ => Fin 0 (Gets fun v => ∃ r', r' = lnR (lset xs a z) ∧ v = .d (.imm r')) v n h)) := by
  refine call_fn tysOK orders (C := C0) C0_ok H0 Try.func59 (by kernel_rfl) (by kernel_rfl) ?_
  intro oBin oCmp oWrap oNeg oCom oBnot oBeq oPickB oPickI oPickS oInb oSub2 oMinI oMaxI oSlen oSidx oScat oSsub oScmp oScok oLen oCI oCB oCS oCL oOkR oApp oApok oSub oSetc oRep oMkok oNthI oNthB oNthS oIteI oIteB oIteS oB2s oS2b oAllB oWf oDeq oMlen oMhas oMI oMB oMS oMok oMput oMdel oSgo oSru oSnx ho; cbv
  (repeat (any_goals (first
    | with_reducible refine And.intro ?_ ?_
    | exact True.intro
    | with_reducible exact rfl
    | (with_reducible refine Nd.mk ?_; try dsimp only)
    | (with_reducible refine Nd0.mk ?_; try dsimp only)
    | (with_reducible refine Pz.mk ?_; cbv)
    | (with_reducible refine RgOK.mk ?_; kernel_rfl)
    | (with_reducible refine OrOK.mk ?_; kernel_rfl)
    | (with_reducible refine Al.mk (fun x hx => ?_); cbv)
    | (with_reducible refine hK' _ ?_; clear hK' K'; cbv)
    | (with_reducible refine brA.yes (by first | assumption | exact rfl | (simp only [show oCmp = real.cmp from congrArg Ar.cmp ho, show oBin = real.bin from congrArg Ar.bin ho, show oScmp = real.scmp from congrArg Ar.scmp ho, show oPickB = real.pickB from congrArg Ar.pickB ho, show oBnot = real.bnot from congrArg Ar.bnot ho]; decide)) ?_; cbv)
    | (with_reducible refine brA.no (by first | assumption | exact rfl | (simp only [show oCmp = real.cmp from congrArg Ar.cmp ho, show oBin = real.bin from congrArg Ar.bin ho, show oScmp = real.scmp from congrArg Ar.scmp ho, show oPickB = real.pickB from congrArg Ar.pickB ho, show oBnot = real.bnot from congrArg Ar.bnot ho]; decide)) ?_; cbv)
    | (with_reducible refine bcase (fun hb => ?_) (fun hb => ?_) <;> cbv)
    | (intro K' hK'; cbv))))
  refine ⟨fun st => ∃ (i : Nat) (j : Int) (d : Bool) (o : List (Int × Int)) (out : List (List D)), j = i ∧ i ≤ xs.length ∧ sS xs a z i = (d, o) ∧ out = lnR o ∧
      ((out = [] ∧ st = ⟨mkF 58 0 [(0, .d (.imm r)), (1, .d (.int .i64 a)), (2, .d (.int .i64 z)), (7, .d .nilsl), (8, .d (.bool d)), (9, .d (.int .i64 j))], 1, []⟩) ∨
       st = ⟨mkF 58 0 [(0, .d (.imm r)), (1, .d (.int .i64 a)), (2, .d (.int .i64 z)), (7, .sl 0), (8, .d (.bool d)), (9, .d (.int .i64 j))], 1, [(0, .row 2 out)]⟩),
    fun st => ((xs.length : Int) - ctr 9 st).toNat, ⟨[], [], [0, 1, 2, 7, 8, 9], [], 1⟩, ?_, ?_, ?_⟩
  · cbv
  · refine ⟨0, 0, _, [], [], rfl, Nat.zero_le _, rfl, rfl, .inl ⟨rfl, ?_⟩⟩
    cases ho
    rfl
  rintro st1 ⟨i, j, d, o, out, hj, hi, hs, hout, ⟨h0, rfl⟩ | rfl⟩
  all_goals (try subst h0)
  all_goals cbv
  (repeat (any_goals (first
    | with_reducible refine And.intro ?_ ?_
    | exact True.intro
    | with_reducible exact rfl
    | (with_reducible refine Nd.mk ?_; try dsimp only)
    | (with_reducible refine Nd0.mk ?_; try dsimp only)
    | (with_reducible refine Pz.mk ?_; cbv)
    | (with_reducible refine RgOK.mk ?_; kernel_rfl)
    | (with_reducible refine OrOK.mk ?_; kernel_rfl)
    | (with_reducible refine Al.mk (fun x hx => ?_); cbv)
    | (with_reducible refine hK' _ ?_; clear hK' K'; cbv)
    | (with_reducible refine brA.yes (by first | assumption | exact rfl | (simp only [show oCmp = real.cmp from congrArg Ar.cmp ho, show oBin = real.bin from congrArg Ar.bin ho, show oScmp = real.scmp from congrArg Ar.scmp ho, show oPickB = real.pickB from congrArg Ar.pickB ho, show oBnot = real.bnot from congrArg Ar.bnot ho]; decide)) ?_; cbv)
    | (with_reducible refine brA.no (by first | assumption | exact rfl | (simp only [show oCmp = real.cmp from congrArg Ar.cmp ho, show oBin = real.bin from congrArg Ar.bin ho, show oScmp = real.scmp from congrArg Ar.scmp ho, show oPickB = real.pickB from congrArg Ar.pickB ho, show oBnot = real.bnot from congrArg Ar.bnot ho]; decide)) ?_; cbv)
    | (with_reducible refine bcase (fun hb => ?_) (fun hb => ?_) <;> cbv)
    | (intro K' hK'; cbv))))
  all_goals ((try clear hK' K'); cases ho; (try simp only [nc1] at *); (try simp only [Int.ofNat_eq_natCast] at *))
  all_goals have hol := len_o hs hi hl
  all_goals first
    | with_reducible exact inb_lt hj (by assumption)
    | with_reducible exact ln_wf hr
    | with_reducible exact ln_ok hr hj (by assumption)
    | with_reducible exact (ln_k hr hj (by assumption)).1
    | with_reducible exact (ln_k hr hj (by assumption)).2
    | exact ap_l hout (by omega)
    | exact ap_l (app_l hout) (by simp; omega)
    | (have hlt := ‹real.cmp .lss j (real.len r) = true›
       obtain ⟨p, hp, hn⟩ := sS_next hr hj hlt hs
       subst hp
       have h6 := ln_lt hr hj hlt
       have h7 := addLL hj (by omega)
       first
       | (rw [st_ge ‹real.bnot d = true› ‹real.pickB true _ false = true›, if_neg (ne_t ‹real.cmp .neq _ a = true›)] at hn
          exact ⟨⟨[], [(2, 0)], [0, 1, 2, 7, 8, 9], [2], 1⟩, rfl, ⟨i + 1, real.bin .add .i64 j 1, true, _, _, h7, by omega, hn, app_l (app_l hout), .inr rfl⟩, mea hj h6 (by omega)⟩)
       | (rw [st_ge ‹real.bnot d = true› ‹real.pickB true _ false = true›, if_pos (ne_f ‹real.cmp .neq _ a = false›)] at hn
          exact ⟨⟨[], [(1, 0)], [0, 1, 2, 7, 8, 9], [1], 1⟩, rfl, ⟨i + 1, real.bin .add .i64 j 1, true, _, _, h7, by omega, hn, app_l hout, .inr rfl⟩, mea hj h6 (by omega)⟩)
       | ((first
           | rw [st_lt ‹real.bnot d = true› ‹real.pickB true _ false = false›] at hn
           | rw [st_nd ‹real.bnot d = false›] at hn)
          first
          | (rw [if_neg (ne_t ‹real.cmp .neq _ a = true›)] at hn
             exact ⟨⟨[], [(1, 0)], [0, 1, 2, 7, 8, 9], [1], 1⟩, rfl, ⟨i + 1, real.bin .add .i64 j 1, d, _, _, h7, by omega, hn, app_l hout, .inr rfl⟩, mea hj h6 (by omega)⟩)
          | (rw [if_pos (ne_f ‹real.cmp .neq _ a = false›)] at hn
             first
             | exact ⟨⟨[], [], [0, 1, 2, 7, 8, 9], [0], 1⟩, rfl, ⟨i + 1, real.bin .add .i64 j 1, d, _, _, h7, by omega, hn, hout, .inr rfl⟩, mea hj h6 (by omega)⟩
             | exact ⟨⟨[], [], [0, 1, 2, 7, 8, 9], [], 1⟩, rfl, ⟨i + 1, real.bin .add .i64 j 1, d, _, _, h7, by omega, hn, hout, .inl ⟨rfl, rfl⟩⟩, mea hj h6 (by omega)⟩)))
    | (have he := lset_end hr hj hi ‹real.cmp .lss j (real.len r) = false› hs
       first
       | (have h0 : d = false := by simpa [real] using ‹real.bnot d = true›
          subst h0
          exact ⟨⟨[1], [], [0], [], 0⟩, .d (.imm _), 0, _, rfl, rfl, ⟨_, (app_l hout).trans (congrArg lnR he.symm), rfl⟩, rfl, rfl, rfl⟩)
       | (have h0 : d = true := by simpa [real] using ‹real.bnot d = false›
          subst h0
          first
          | exact ⟨⟨[0], [], [0], [], 0⟩, .d (.imm _), 0, _, rfl, rfl, ⟨_, hout.trans (congrArg lnR he.symm), rfl⟩, rfl, rfl, rfl⟩
          | exact ⟨⟨[1000000], [], [0], [], 0⟩, .d (.imm []), 0, _, rfl, rfl, ⟨_, hout.trans (congrArg lnR he.symm), rfl⟩, rfl, rfl, rfl⟩))
    | trace_state
end Go.Proofs.Yteakfibolfapiaa.Ab
end
section
namespace Go.Proofs.Yteakfibolfapiaa.Ab
open Go Go.RowKit Go.Sort
set_option linter.unusedVariables false
set_option linter.unusedSimpArgs false
set_option maxRecDepth 100000
set_option maxHeartbeats 8000000
/-- The balances between two rounds. -/
def fpart (f : Int → Int) (qs : List (Int × Int)) (i : Nat) (k : Int) : Int := if k ∈ (qs.take i).map (·.1) then rtot f qs k else f k
theorem LB.round {f : Int → Int} {qs ys : List (Int × Int)} {i : Nat} (h : LB ys (fpart f qs i)) (hi : i < qs.length) : LB (lset ys qs[i].1 (rtot f qs qs[i].1)) (fpart f qs (i + 1)) := by
  refine (h.set _ _).congr fun k => ?_
  unfold fpart
  simp only [take_snoc hi, List.map_append, List.mem_append, List.map_cons, List.map_nil, List.mem_singleton]
  by_cases e : k = qs[i].1
  · subst e
    simp
  · simp [e]
theorem LB.fin {f : Int → Int} {qs ys : List (Int × Int)} (h : LB ys (fpart f qs qs.length)) : LB ys (rtot f qs) := by
  refine h.congr fun k => ?_
  unfold fpart
  rw [List.take_length]
  split
  · rfl
  · rename_i hk
    have : sel qs k = [] := by
      unfold sel
      rw [List.filter_eq_nil_iff.2 ?_]
      · rfl
      · intro q hq e
        exact hk (List.mem_map.2 ⟨q, hq, by simpa using e⟩)
    simp [rtot, this]
theorem insL_len : ∀ (xs : List (Int × Int)) (a z : Int), (insL xs a z).length ≤ xs.length + 1
  | [], a, z => by simp [insL]
  | x :: r, a, z => by
    unfold insL
    split
    · have := List.length_filter_le (fun p => decide (p.1 ≠ a)) (x :: r)
      rw [List.length_cons]
      omega
    · have := insL_len r a z
      rw [List.length_cons, List.length_cons]
      omega
theorem lset_len (xs : List (Int × Int)) (a z : Int) : (lset xs a z).length ≤ xs.length + 1 := by
  by_cases hz : z = 0
  · subst hz
    rw [lset_0]
    have := List.length_filter_le (fun p => decide (p.1 ≠ a)) xs
    omega
  · rw [lset_n xs a z hz]
    exact insL_len xs a z
theorem lbal_I : ∀ {xs : List (Int × Int)} (h : ∀ p ∈ xs, I64 p.2) (k : Int), I64 (lbal xs k)
  | [], _, k => by show I64 0; unfold I64; omega
  | x :: xs, h, k => by
    unfold lbal
    split
    · exact h x (by simp)
    · exact lbal_I (fun p hp => h p (by simp [hp])) k
section
variable {xs qs ys : List (Int × Int)} {r p R l : List (List D)} {j k a c u : Int} {i t : Nat} {q : Int × Int}
/-- The list of amounts that is gathered. -/
def gth (xs qs : List (Int × Int)) (a : Int) (t : Nat) : List Int := lbal xs a :: sel (qs.take t) a
theorem gth_I (hx : ∀ p ∈ xs, I64 p.2) (hq : ∀ q ∈ qs, I64 q.2) : ∀ x ∈ gth xs qs a t, I64 x := by
  intro x h
  rcases List.mem_cons.1 h with rfl | h
  · exact lbal_I hx a
  · exact sel_I (fun q hq' => hq q (List.mem_of_mem_take hq')) a x h
theorem gth_len (hq : qs.length ≤ 1000) : (gth xs qs a t).length ≤ 1001 := by
  have h1 : (sel (qs.take t) a).length ≤ (qs.take t).length := by
    unfold sel; rw [List.length_map]; exact List.length_filter_le _ _
  have h2 : (qs.take t).length ≤ qs.length := by simp; omega
  rw [gth, List.length_cons]
  omega
theorem gth_y (hp : p = lnR qs) (hu : u = t) (hb : real.cmp .lss u (real.len p) = true) (he : real.cmp .eql (real.cI p u 0) a = true) (hl : l = iR (gth xs qs a t)) : real.app l [[.int .i64 (real.cI p u 1)]] = iR (gth xs qs a (t + 1)) := by
  have hi := ln_lt hp hu hb
  subst hp
  rw [(ln_cI hu hi).1] at he
  have he : qs[t].1 = a := by simpa [real, rCmp] using he
  rw [(ln_cI hu hi).2, gth, take_snoc hi, sel_snoc, if_pos he]
  exact iR_snoc hl
theorem gth_n (hp : p = lnR qs) (hu : u = t) (hb : real.cmp .lss u (real.len p) = true) (he : real.cmp .eql (real.cI p u 0) a = false) (hl : l = iR (gth xs qs a t)) : l = iR (gth xs qs a (t + 1)) := by
  have hi := ln_lt hp hu hb
  subst hp
  rw [(ln_cI hu hi).1] at he
  have he : qs[t].1 ≠ a := by simpa [real, rCmp] using he
  rw [hl, gth, gth, take_snoc hi, sel_snoc, if_neg he]
theorem gth_e (hp : p = lnR qs) (hu : u = t) (ht : t ≤ qs.length) (hb : real.cmp .lss u (real.len p) = false) (hl : l = iR (gth xs qs a t)) (hq : ∃ ys, l = iR ys ∧ q = (amt ys.sum, amtE ys.sum)) : q = (amt (rtot (lbal xs) qs a), amtE (rtot (lbal xs) qs a)) := by
  have h := ln_end hp hu ht hb
  obtain ⟨ys, h1, h2⟩ := hq
  rw [hl] at h1
  have h3 := iR_inj h1
  subst h
  rw [gth, List.take_length] at h3
  rw [h2, ← h3, List.sum_cons, rtot, Int.add_comm]
theorem ra_bad (hp : p = lnR qs) (hj : j = i) (hb : real.cmp .lss j (real.len p) = true) (hin : inR qs) (hq : q = (amt (rtot (lbal xs) qs (real.cI p j 0)), amtE (rtot (lbal xs) qs (real.cI p j 0)))) (hn : real.cmp .neq q.2 0 = true) : RApp xs qs (lbal xs) 6 xs := by
  have hi := ln_lt hp hj hb
  subst hp
  rw [(ln_cI hj hi).1] at hq
  subst hq
  have hn : amtE (rtot (lbal xs) qs qs[i].1) ≠ 0 := ne_t hn
  refine .inr (.inl ⟨rfl, rfl, hin, qs[i], List.getElem_mem hi, fun h => hn ?_⟩)
  unfold I64 at h
  rw [amtE, if_pos h]
theorem ra_next (hp : p = lnR qs) (hj : j = i) (hb : real.cmp .lss j (real.len p) = true) (hq : q = (amt (rtot (lbal xs) qs (real.cI p j 0)), amtE (rtot (lbal xs) qs (real.cI p j 0)))) (hn : real.cmp .neq q.2 0 = false)
    (hR : R = lnR ys) (hL : LB ys (fpart (lbal xs) qs i)) (hI : ∀ q ∈ qs.take i, I64 (rtot (lbal xs) qs q.1)) (hl : ys.length ≤ xs.length + i) {R' : List (List D)} (hx : ∃ zs, R = lnR zs ∧ R' = lnR (lset zs (real.cI p j 0) q.1)) :
    ∃ zs, R' = lnR zs ∧ LB zs (fpart (lbal xs) qs (i + 1)) ∧ (∀ q ∈ qs.take (i + 1), I64 (rtot (lbal xs) qs q.1)) ∧ zs.length ≤ xs.length + (i + 1) := by
  have hi := ln_lt hp hj hb
  subst hp
  obtain ⟨zs, h1, h2⟩ := hx
  rw [hR] at h1
  obtain rfl := lnR_inj h1
  rw [(ln_cI hj hi).1] at hq h2
  have h0 : amtE (rtot (lbal xs) qs qs[i].1) = 0 := by
    have := ne_f hn
    rw [hq] at this
    exact this
  have h3 : I64 (rtot (lbal xs) qs qs[i].1) := by
    unfold I64
    refine Decidable.byContradiction fun h => ?_
    rw [amtE, if_neg h] at h0
    cases h0
  have h4 : q.1 = rtot (lbal xs) qs qs[i].1 := by
    unfold I64 at h3
    rw [hq]
    show amt _ = _
    rw [amt, if_pos h3]
  rw [h4] at h2
  refine ⟨_, h2, hL.round hi, fun q hq => ?_, ?_⟩
  · rw [take_snoc hi] at hq
    rcases List.mem_append.1 hq with hq | hq
    · exact hI q hq
    · simp only [List.mem_singleton] at hq
      subst hq
      exact h3
  · have := lset_len ys qs[i].1 (rtot (lbal xs) qs qs[i].1)
    omega
theorem ra_end (hp : p = lnR qs) (hj : j = i) (hi : i ≤ qs.length) (hb : real.cmp .lss j (real.len p) = false) (hin : inR qs) (hL : LB ys (fpart (lbal xs) qs i)) (hI : ∀ q ∈ qs.take i, I64 (rtot (lbal xs) qs q.1)) : RApp xs qs (lbal xs) 0 ys := by
  have h := ln_end hp hj hi hb
  subst h
  rw [List.take_length] at hI
  exact .inr (.inr ⟨rfl, hin, hI, hL.fin⟩)
end
def kRApp (xs qs : List (Int × Int)) : AV → Prop := fun v => ∃ ys r' e, r' = lnR ys ∧ RApp xs qs (lbal xs) e ys ∧ ys.length ≤ xs.length + qs.length ∧ v = .tup [.d (.imm r'), .d (.int .i64 e)]
theorem fin_rap {xs qs ys : List (Int × Int)} {r : List (List D)} {e : Int} (hr : r = lnR ys) (h : RApp xs qs (lbal xs) e ys) (hl : ys.length ≤ xs.length + qs.length) : Fin 0 (Gets (kRApp xs qs)) (.tup [.d (.imm r), .d (.int .i64 e)]) 0 [] :=
  ⟨⟨[], [], [0], [], 0⟩, _, 0, _, rfl, rfl, ⟨ys, r, e, hr, h, hl, rfl⟩, rfl, rfl, rfl⟩
def S_RSet (r : List (List D)) (a z : Int) (K : CallK) (n : Nat) (h : Hp) : Prop := Nd (fun _ => ∃ xs, r = lnR xs ∧ xs.length ≤ 60000) ∧ Al (fun r' : List (List D) => ∃ xs, r = lnR xs ∧ r' = lnR (lset xs a z)) fun r' => K (.d (.imm r')) n h
theorem L_RSet {r : List (List D)} {a z : Int} {n : Nat} {h : Hp} {K : CallK} (hK : S_RSet r a z K n h) : CallE Try.prog 59 [.d (.imm r), .d (.int .i64 a), .d (.int .i64 z)] n h K := by
  obtain ⟨⟨xs, hr, hl⟩, hk⟩ := hK
  exact call_data (CallE.fin (K_RSet0 r xs hr hl a z)) rfl (by rintro v ⟨r', e, rfl⟩; exact hk.h _ ⟨xs, hr, e⟩)
def B6 : CallS := fun f args n h K => match f with
  | 38 => (match args with | [.d (.imm r), .d (.int .i64 k)] => S_RBal r k K n h | _ => False)
  | 59 => (match args with | [.d (.imm r), .d (.int .i64 a), .d (.int .i64 z)] => S_RSet r a z K n h | _ => False)
  | 58 => (match args with | [.d (.imm l)] => S_RTot l K n h | _ => False)
  | 60 => (match args with | [.d (.int .i64 a), .d (.int .i64 b)] => S_RSub a b K n h | _ => False)
  | _ => False
theorem B6_ok : ∀ f args n h K, B6 f args n h K → CallE Try.prog f args n h K := by
  intro f args n h K hc
  unfold B6 at hc
  split at hc
  · split at hc
    · exact L_RBal hc
    · exact hc.elim
  · split at hc
    · exact L_RSet hc
    · exact hc.elim
  · split at hc
    · exact L_RTot hc
    · exact hc.elim
  · split at hc
    · exact L_RSub hc
    · exact hc.elim
  · exact hc.elim
theorem K_RApp0 (r p : List (List D)) (xs qs : List (Int × Int)) (hr : r = lnR xs) (hp : p = lnR qs) (hxl : xs.length ≤ 50000) (hql : qs.length ≤ 1000) (hxI : ∀ p ∈ xs, I64 p.2) (hq : ∀ q ∈ qs, I64 q.2) (hL0 : LB xs (lbal xs)) :
    CallE Try.prog 35 [.d (.imm r), .d (.imm p)] 0 [] (fun v n h => Nd (fun _ => Fin 0 (Gets (kRApp xs qs)) v n h)) := by
  refine call_fn tysOK orders (C := B6) B6_ok ⟨[((16, 1), [0])], [(10, 7)], 0⟩ Try.func35 (by kernel_rfl) (by kernel_rfl) ?_
  intro oBin oCmp oWrap oNeg oCom oBnot oBeq oPickB oPickI oPickS oInb oSub2 oMinI oMaxI oSlen oSidx oScat oSsub oScmp oScok oLen oCI oCB oCS oCL oOkR oApp oApok oSub oSetc oRep oMkok oNthI oNthB oNthS oIteI oIteB oIteS oB2s oS2b oAllB oWf oDeq oMlen oMhas oMI oMB oMS oMok oMput oMdel oSgo oSru oSnx ho; cbv
  (repeat (any_goals (first
    | with_reducible refine And.intro ?_ ?_
    | exact True.intro
    | with_reducible exact rfl
    | (with_reducible refine Nd.mk ?_; try dsimp only)
    | (with_reducible refine Nd0.mk ?_; try dsimp only)
    | (with_reducible refine Pz.mk ?_; cbv)
    | (with_reducible refine RgOK.mk ?_; kernel_rfl)
    | (with_reducible refine OrOK.mk ?_; kernel_rfl)
    | (with_reducible refine Al.mk (fun x hx => ?_); cbv)
    | (with_reducible refine hK' _ ?_; clear hK' K'; cbv)
    | (with_reducible refine brA.yes (by first | assumption | exact rfl | (simp only [show oCmp = real.cmp from congrArg Ar.cmp ho, show oBin = real.bin from congrArg Ar.bin ho, show oScmp = real.scmp from congrArg Ar.scmp ho, show oPickB = real.pickB from congrArg Ar.pickB ho, show oBnot = real.bnot from congrArg Ar.bnot ho]; decide)) ?_; cbv)
    | (with_reducible refine brA.no (by first | assumption | exact rfl | (simp only [show oCmp = real.cmp from congrArg Ar.cmp ho, show oBin = real.bin from congrArg Ar.bin ho, show oScmp = real.scmp from congrArg Ar.scmp ho, show oPickB = real.pickB from congrArg Ar.pickB ho, show oBnot = real.bnot from congrArg Ar.bnot ho]; decide)) ?_; cbv)
    | (with_reducible refine bcase (fun hb => ?_) (fun hb => ?_) <;> cbv)
    | (intro K' hK'; cbv))))
  refine ⟨fun st => ∃ (i : Nat) (j : Int), j = i ∧ i ≤ qs.length ∧ inR (qs.take i) ∧ st = ⟨mkF 91 0 [(0, .d (.imm r)), (1, .d (.imm p)), (6, .d (.int .i64 j))], 0, []⟩, fun st => ((qs.length : Int) - ctr 6 st).toNat, ⟨[], [], [0, 1, 6], [], 0⟩, ?_, ?_, ?_⟩
  · cbv
  · exact ⟨0, 0, rfl, Nat.zero_le _, (fun q hq => by cases hq), rfl⟩
  rintro st1 ⟨i, j, hj, hi, hA, rfl⟩
  cbv
  (repeat (any_goals (first
    | with_reducible refine And.intro ?_ ?_
    | exact True.intro
    | with_reducible exact rfl
    | (with_reducible refine Nd.mk ?_; try dsimp only)
    | (with_reducible refine Nd0.mk ?_; try dsimp only)
    | (with_reducible refine Pz.mk ?_; cbv)
    | (with_reducible refine RgOK.mk ?_; kernel_rfl)
    | (with_reducible refine OrOK.mk ?_; kernel_rfl)
    | (with_reducible refine Al.mk (fun x hx => ?_); cbv)
    | (with_reducible refine hK' _ ?_; clear hK' K'; cbv)
    | (with_reducible refine brA.yes (by first | assumption | exact rfl | (simp only [show oCmp = real.cmp from congrArg Ar.cmp ho, show oBin = real.bin from congrArg Ar.bin ho, show oScmp = real.scmp from congrArg Ar.scmp ho, show oPickB = real.pickB from congrArg Ar.pickB ho, show oBnot = real.bnot from congrArg Ar.bnot ho]; decide)) ?_; cbv)
    | (with_reducible refine brA.no (by first | assumption | exact rfl | (simp only [show oCmp = real.cmp from congrArg Ar.cmp ho, show oBin = real.bin from congrArg Ar.bin ho, show oScmp = real.scmp from congrArg Ar.scmp ho, show oPickB = real.pickB from congrArg Ar.pickB ho, show oBnot = real.bnot from congrArg Ar.bnot ho]; decide)) ?_; cbv)
    | (with_reducible refine bcase (fun hb => ?_) (fun hb => ?_) <;> cbv)
    | (intro K' hK'; cbv))))
  all_goals first
    | (((try clear hK' K'); cases ho; (try simp only [nc1] at *); (try simp only [Int.ofNat_eq_natCast] at *))
       first
       | with_reducible exact inb_lt hj (by assumption)
       | with_reducible exact ln_wf hp
       | with_reducible exact ln_ok hp hj (by assumption)
       | with_reducible exact (ln_k hp hj (by assumption)).1
       | with_reducible exact (ln_k hp hj (by assumption)).2
       | exact fin_rap hr (.inl ⟨rfl, rfl, acc_lo hp hj (by assumption) (by assumption)⟩) (Nat.le_add_right _ _)
       | exact fin_rap hr (.inl ⟨rfl, rfl, acc_hi hp hj (by assumption) (by assumption)⟩) (Nat.le_add_right _ _)
       | (have h5 := acc_ok hp hj ‹real.cmp .lss j (real.len p) = true› (by assumption) (by assumption) hA
          have h6 := ln_lt hp hj ‹real.cmp .lss j (real.len p) = true›
          exact ⟨⟨[], [], [0, 1, 6], [], 0⟩, rfl, ⟨i + 1, real.bin .add .i64 j 1, addLL hj (by omega), by omega, h5, rfl⟩, mea hj h6 (by omega)⟩))
    | skip
  have hin : inR qs := in_end ho hp hj hi hA (by assumption)
  clear hA hi hj hb
  refine ⟨fun st => ∃ (i : Nat) (j : Int) (ys : List (Int × Int)) (R : List (List D)), j = i ∧ i ≤ qs.length ∧ R = lnR ys ∧ LB ys (fpart (lbal xs) qs i) ∧ (∀ q ∈ qs.take i, I64 (rtot (lbal xs) qs q.1)) ∧ ys.length ≤ xs.length + i ∧
      st = ⟨mkF 91 0 [(0, .d (.imm r)), (1, .d (.imm p)), (7, .d (.imm R)), (8, .d (.int .i64 j))], 0, []⟩, fun st => ((qs.length : Int) - ctr 8 st).toNat, ⟨[], [], [0, 1, 7, 8], [], 0⟩, ?_, ?_, ?_⟩
  · cbv
  · exact ⟨0, 0, xs, r, rfl, Nat.zero_le _, hr, hL0.congr (fun k => by simp [fpart]), (fun q hq => by cases hq), Nat.le_refl _, rfl⟩
  rintro st1 ⟨i, j, ys, R, hj, hi, hR, hL, hI, hyl, rfl⟩
  cbv
  (repeat (any_goals (first
    | with_reducible refine And.intro ?_ ?_
    | exact True.intro
    | with_reducible exact rfl
    | (with_reducible refine Nd.mk ?_; try dsimp only)
    | (with_reducible refine Nd0.mk ?_; try dsimp only)
    | (with_reducible refine Pz.mk ?_; cbv)
    | (with_reducible refine RgOK.mk ?_; kernel_rfl)
    | (with_reducible refine OrOK.mk ?_; kernel_rfl)
    | (with_reducible refine Al.mk (fun x hx => ?_); cbv)
    | (with_reducible refine hK' _ ?_; clear hK' K'; cbv)
    | (with_reducible refine brA.yes (by first | assumption | exact rfl | (simp only [show oCmp = real.cmp from congrArg Ar.cmp ho, show oBin = real.bin from congrArg Ar.bin ho, show oScmp = real.scmp from congrArg Ar.scmp ho, show oPickB = real.pickB from congrArg Ar.pickB ho, show oBnot = real.bnot from congrArg Ar.bnot ho]; decide)) ?_; cbv)
    | (with_reducible refine brA.no (by first | assumption | exact rfl | (simp only [show oCmp = real.cmp from congrArg Ar.cmp ho, show oBin = real.bin from congrArg Ar.bin ho, show oScmp = real.scmp from congrArg Ar.scmp ho, show oPickB = real.pickB from congrArg Ar.pickB ho, show oBnot = real.bnot from congrArg Ar.bnot ho]; decide)) ?_; cbv)
    | (with_reducible refine bcase (fun hb => ?_) (fun hb => ?_) <;> cbv)
    | (intro K' hK'; cbv))))
  all_goals first
    | (((try clear hK' K'); cases ho; (try simp only [nc1] at *); (try simp only [Int.ofNat_eq_natCast] at *))
       first
       | with_reducible exact inb_lt hj (by assumption)
       | with_reducible exact ln_wf hp
       | with_reducible exact ln_ok hp hj (by assumption)
       | with_reducible exact (ln_k hp hj (by assumption)).1
       | with_reducible exact (ln_k hp hj (by assumption)).2
       | exact ⟨xs, hr, by omega⟩
       | exact fin_rap hR (ra_end hp hj hi (by assumption) hin hL hI) (by omega))
    | skip
  have hb1 := hb
  clear hb
  obtain ⟨zs, hzs, hx2⟩ := ‹∃ zs, r = lnR zs ∧ _›
  rw [hr] at hzs
  obtain rfl := lnR_inj hzs
  refine ⟨fun st => ∃ (t : Nat) (u : Int) (l : List (List D)), u = t ∧ t ≤ qs.length ∧ l = iR (gth xs qs (oCI p j 0) t) ∧ st = ⟨mkF 91 0 [(0, .d (.imm r)), (1, .d (.imm p)), (7, .d (.imm R)), (8, .d (.int .i64 j)), (9, .sl 0), (10, .d (.int .i64 u))], 1, [(0, .row 1 l)]⟩,
    fun st => ((qs.length : Int) - ctr 10 st).toNat, ⟨[], [], [0, 1, 7, 8, 9, 10], [0], 1⟩, ?_, ?_, ?_⟩
  · cbv
  · exact ⟨0, 0, _, rfl, Nat.zero_le _, by rw [hx2]; rfl, rfl⟩
  rintro st1 ⟨t, u, l, hu, ht, hl, rfl⟩
  cbv
  (repeat (any_goals (first
    | with_reducible refine And.intro ?_ ?_
    | exact True.intro
    | with_reducible exact rfl
    | (with_reducible refine Nd.mk ?_; try dsimp only)
    | (with_reducible refine Nd0.mk ?_; try dsimp only)
    | (with_reducible refine Pz.mk ?_; cbv)
    | (with_reducible refine RgOK.mk ?_; kernel_rfl)
    | (with_reducible refine OrOK.mk ?_; kernel_rfl)
    | (with_reducible refine Al.mk (fun x hx => ?_); cbv)
    | (with_reducible refine hK' _ ?_; clear hK' K'; cbv)
    | (with_reducible refine brA.yes (by first | assumption | exact rfl | (simp only [show oCmp = real.cmp from congrArg Ar.cmp ho, show oBin = real.bin from congrArg Ar.bin ho, show oScmp = real.scmp from congrArg Ar.scmp ho, show oPickB = real.pickB from congrArg Ar.pickB ho, show oBnot = real.bnot from congrArg Ar.bnot ho]; decide)) ?_; cbv)
    | (with_reducible refine brA.no (by first | assumption | exact rfl | (simp only [show oCmp = real.cmp from congrArg Ar.cmp ho, show oBin = real.bin from congrArg Ar.bin ho, show oScmp = real.scmp from congrArg Ar.scmp ho, show oPickB = real.pickB from congrArg Ar.pickB ho, show oBnot = real.bnot from congrArg Ar.bnot ho]; decide)) ?_; cbv)
    | (with_reducible refine bcase (fun hb => ?_) (fun hb => ?_) <;> cbv)
    | (intro K' hK'; cbv))))
  all_goals ((try clear hK' K'); cases ho; (try simp only [nc1] at *); (try simp only [Int.ofNat_eq_natCast] at *))
  all_goals have hgI := gth_I (a := real.cI p j 0) (t := t) hxI hq
  all_goals have hgl := gth_len (xs := xs) (a := real.cI p j 0) (t := t) hql
  all_goals first
    | with_reducible exact inb_lt hu (by assumption)
    | with_reducible exact inb_lt hj hb1
    | with_reducible exact ln_wf hp
    | with_reducible exact (ln_k hp hu (by assumption)).1
    | with_reducible exact (ln_k hp hu (by assumption)).2
    | with_reducible exact (ln_k hp hj hb1).1
    | exact ap_tr hl (by omega)
    | exact rw_ok hl (by omega) hgI
    | exact ⟨ys, hR, by omega⟩
    | (have hlt := ‹real.cmp .lss u (real.len p) = true›
       have h6 := ln_lt hp hu hlt
       first
       | exact ⟨⟨[], [(1, 0)], [0, 1, 7, 8, 9, 10], [1], 1⟩, rfl, ⟨t + 1, real.bin .add .i64 u 1, _, addLL hu (by omega), by omega, gth_y hp hu hlt (by assumption) hl, rfl⟩, mea hu h6 (by omega)⟩
       | exact ⟨⟨[], [], [0, 1, 7, 8, 9, 10], [0], 1⟩, rfl, ⟨t + 1, real.bin .add .i64 u 1, _, addLL hu (by omega), by omega, gth_n hp hu hlt (by assumption) hl, rfl⟩, mea hu h6 (by omega)⟩)
    | (rename_i q hqq _
       have h5 := gth_e hp hu ht ‹real.cmp .lss u (real.len p) = false› hl ‹∃ ys, l = iR ys ∧ _›
       first
       | exact fin_rap hr (ra_bad hp hj hb1 hin h5 (by assumption)) (Nat.le_add_right _ _)
       | (obtain ⟨zs, g1, g2, g3, g4⟩ := ra_next hp hj hb1 h5 (by assumption) hR hL hI hyl ‹∃ zs, R = lnR zs ∧ _›
          exact ⟨⟨[], [], [0, 1, 7, 8], [], 0⟩, rfl, ⟨i + 1, real.bin .add .i64 j 1, zs, _, addLL hj (by omega), (have := ln_lt hp hj hb1; by omega), g1, g2, g3, g4, rfl⟩, mea hj (ln_lt hp hj hb1) (by omega)⟩))
    | trace_state
def S_RApp (r p : List (List D)) (K : CallK) (n : Nat) (h : Hp) : Prop := Nd (fun _ => ∃ xs qs, r = lnR xs ∧ p = lnR qs ∧ xs.length ≤ 50000 ∧ qs.length ≤ 1000 ∧ (∀ p ∈ xs, I64 p.2) ∧ (∀ q ∈ qs, I64 q.2) ∧ LB xs (lbal xs)) ∧
  Al (fun q : List (List D) × Int => ∃ xs qs ys, r = lnR xs ∧ p = lnR qs ∧ q.1 = lnR ys ∧ RApp xs qs (lbal xs) q.2 ys ∧ ys.length ≤ xs.length + qs.length) fun q => K (.tup [.d (.imm q.1), .d (.int .i64 q.2)]) n h
theorem L_RApp {r p : List (List D)} {n : Nat} {h : Hp} {K : CallK} (hK : S_RApp r p K n h) : CallE Try.prog 35 [.d (.imm r), .d (.imm p)] n h K := by
  obtain ⟨⟨xs, qs, hr, hp, h1, h2, h3, h4, h5⟩, hk⟩ := hK
  refine call_data (CallE.fin (K_RApp0 r p xs qs hr hp h1 h2 h3 h4 h5)) rfl ?_
  rintro v ⟨ys, r', e, hr', hA, hl, rfl⟩
  exact hk.h (r', e) ⟨xs, qs, ys, hr, hp, hr', hA, hl⟩
/-! Trial -/
section
variable {xs : List (Int × Int)} {d c u v w y g : Int} {p q s : Int × Int}
theorem fin_rtri {a b e : Int} {n : Nat} {h : Hp} (ht : (a, b, e) = tri d c) : Fin 0 (Gets fun v => v = .tup [.d (.int .i64 (tri d c).1), .d (.int .i64 (tri d c).2.1), .d (.int .i64 (tri d c).2.2)]) (.tup [.d (.int .i64 a), .d (.int .i64 b), .d (.int .i64 e)]) n h := by
  rw [← ht]
  exact ⟨⟨[], [], [0], [], 0⟩, _, 0, _, rfl, rfl, ⟨rfl⟩, rfl, rfl, rfl⟩
theorem rtri_1 (h : p = (amt d, amtE d)) (hb : real.cmp .neq p.2 0 = true) : (0, 0, 6) = tri d c := tri_1 h hb
theorem rtri_2 (h : q = (amt c, amtE c)) (hb : real.pickB false true (real.cmp .neq q.2 0) = true) : (0, 0, 6) = tri d c := tri_2 h hb
theorem amt_min (c : Int) : (amtE (0 - amt c) ≠ 0 ↔ amt c = -9223372036854775808) ∧ (amtE (0 - amt c) = 0 → amt (0 - amt c) = -(amt c)) := by
  have h := amt_in c
  unfold Go.Proofs.Yteakfibolfapiaa.I64 at h
  constructor
  · constructor
    · intro h1
      refine Decidable.byContradiction fun h2 => h1 ?_
      rw [amtE, if_pos (by omega)]
    · intro h1 h2
      rw [amtE, if_neg (by omega)] at h2
      cases h2
  · intro h1
    have h2 : -9223372036854775808 ≤ 0 - amt c ∧ 0 - amt c ≤ 9223372036854775807 := by
      refine Decidable.byContradiction fun h2 => ?_
      rw [amtE, if_neg h2] at h1
      cases h1
    rw [amt, if_pos h2]
    omega
theorem rtri_3 {z : Int × Int} (hz : z.1 = 0) (h : q = (amt c, amtE c)) (hs : s = (amt (z.1 - q.1), amtE (z.1 - q.1))) (hb : real.pickB false true (real.cmp .neq s.2 0) = true) : (0, 0, 6) = tri d c := by
  subst h
  rw [hz] at hs
  subst hs
  have hb : amtE (0 - amt c) ≠ 0 := ne_t hb
  rw [tri, if_neg (fun h => h.2.2 ((amt_min c).1.1 hb))]
theorem rtri_4 {z : Int × Int} (hz : z.1 = 0) (hp : p = (amt d, amtE d)) (h : q = (amt c, amtE c)) (hs : s = (amt (z.1 - q.1), amtE (z.1 - q.1))) (h1 : real.cmp .neq p.2 0 = false) (h2 : real.pickB false true (real.cmp .neq q.2 0) = false) (h3 : real.pickB false true (real.cmp .neq s.2 0) = false) : (p.1, s.1, 0) = tri d c := by
  subst hp h
  rw [hz] at hs
  subst hs
  have h1 : amtE d = 0 := ne_f h1
  have h2 : amtE c = 0 := ne_f h2
  have h3 : amtE (0 - amt c) = 0 := ne_f h3
  rw [tri, if_pos ⟨h1, h2, fun h => (amt_min c).1.2 h h3⟩, (amt_min c).2 h3]
theorem z_of {z : Int × Int} (h : ∃ ys, ([] : List (List D)) = iR ys ∧ z = (amt ys.sum, amtE ys.sum)) : z.1 = 0 := by
  obtain ⟨ys, h1, rfl⟩ := h
  have : ys = [] := by
    cases ys with
    | nil => rfl
    | cons a b => simp [iR] at h1
  subst this
  rfl
theorem z_I : ∃ ys, ([] : List (List D)) = iR ys ∧ ys.length ≤ 100000 ∧ ∀ x ∈ ys, I64 x := ⟨[], rfl, by decide, fun x h => by cases h⟩
theorem q_I {l : List (List D)} (h : ∃ ys, l = iR ys ∧ q = (amt ys.sum, amtE ys.sum)) : I64 q.1 := by
  obtain ⟨ys, -, rfl⟩ := h
  exact amt_in _
end
theorem K_RTri0 (r : List (List D)) (xs : List (Int × Int)) (hr : r = lnR xs) (hlen : xs.length ≤ 60000) (hI : ∀ p ∈ xs, I64 p.2) :
    CallE Try.prog 37 [.d (.imm r)] 0 [] (fun v n h => Nd (fun _ => Fin 0 (Gets fun v => v = .tup [.d (.int .i64 (tri (debs xs).sum (crds xs).sum).1), .d (.int .i64 (tri (debs xs).sum (crds xs).sum).2.1), .d (.int .i64 (tri (debs xs).sum (crds xs).sum).2.2)]) v n h)) := by
  refine call_fn tysOK orders (C := B6) B6_ok ⟨[((10, 1), [1, 1000047]), ((11, 1), [2, 1000052])], [], 0⟩ Try.func37 (by kernel_rfl) (by kernel_rfl) ?_
  intro oBin oCmp oWrap oNeg oCom oBnot oBeq oPickB oPickI oPickS oInb oSub2 oMinI oMaxI oSlen oSidx oScat oSsub oScmp oScok oLen oCI oCB oCS oCL oOkR oApp oApok oSub oSetc oRep oMkok oNthI oNthB oNthS oIteI oIteB oIteS oB2s oS2b oAllB oWf oDeq oMlen oMhas oMI oMB oMS oMok oMput oMdel oSgo oSru oSnx ho; cbv
  (repeat (any_goals (first
    | with_reducible refine And.intro ?_ ?_
    | exact True.intro
    | with_reducible exact rfl
    | (with_reducible refine Nd.mk ?_; try dsimp only)
    | (with_reducible refine Nd0.mk ?_; try dsimp only)
    | (with_reducible refine Pz.mk ?_; cbv)
    | (with_reducible refine RgOK.mk ?_; kernel_rfl)
    | (with_reducible refine OrOK.mk ?_; kernel_rfl)
    | (with_reducible refine Al.mk (fun x hx => ?_); cbv)
    | (with_reducible refine hK' _ ?_; clear hK' K'; cbv)
    | (with_reducible refine brA.yes (by first | assumption | exact rfl | (simp only [show oCmp = real.cmp from congrArg Ar.cmp ho, show oBin = real.bin from congrArg Ar.bin ho, show oScmp = real.scmp from congrArg Ar.scmp ho, show oPickB = real.pickB from congrArg Ar.pickB ho, show oBnot = real.bnot from congrArg Ar.bnot ho]; decide)) ?_; cbv)
    | (with_reducible refine brA.no (by first | assumption | exact rfl | (simp only [show oCmp = real.cmp from congrArg Ar.cmp ho, show oBin = real.bin from congrArg Ar.bin ho, show oScmp = real.scmp from congrArg Ar.scmp ho, show oPickB = real.pickB from congrArg Ar.pickB ho, show oBnot = real.bnot from congrArg Ar.bnot ho]; decide)) ?_; cbv)
    | (with_reducible refine bcase (fun hb => ?_) (fun hb => ?_) <;> cbv)
    | (intro K' hK'; cbv))))
  refine ⟨fun st => ∃ (i : Nat) (j : Int) (rd rc : List (List D)), j = i ∧ i ≤ xs.length ∧ rd = iR (debs (xs.take i)) ∧ rc = iR (crds (xs.take i)) ∧
      ((rd = [] ∧ rc = [] ∧ st = ⟨mkF 79 0 [(0, .d (.imm r)), (5, .d .nilsl), (6, .d (.imm [])), (7, .d .nilsl), (8, .d (.int .i64 j))], 3, []⟩) ∨
       (rc = [] ∧ st = ⟨mkF 79 0 [(0, .d (.imm r)), (5, .sl 1), (6, .d (.imm [])), (7, .d .nilsl), (8, .d (.int .i64 j))], 3, [(1, .row 1 rd)]⟩) ∨
       (rd = [] ∧ st = ⟨mkF 79 0 [(0, .d (.imm r)), (5, .d .nilsl), (6, .d (.imm [])), (7, .sl 2), (8, .d (.int .i64 j))], 3, [(2, .row 1 rc)]⟩) ∨
       (st = ⟨mkF 79 0 [(0, .d (.imm r)), (5, .sl 1), (6, .d (.imm [])), (7, .sl 2), (8, .d (.int .i64 j))], 3, [(1, .row 1 rd), (2, .row 1 rc)]⟩)),
    fun st => ((xs.length : Int) - ctr 8 st).toNat, ⟨[], [], [0, 5, 6, 7, 8], [], 3⟩, ?_, ?_, ?_⟩
  · cbv
  · exact ⟨0, 0, [], [], rfl, Nat.zero_le _, rfl, rfl, .inl ⟨rfl, rfl, rfl⟩⟩
  rintro st1 ⟨i, j, rd, rc, hj, hi, hrd, hrc, ⟨hd0, hc0, rfl⟩ | ⟨hc0, rfl⟩ | ⟨hd0, rfl⟩ | rfl⟩
  all_goals (try subst hd0)
  all_goals (try subst hc0)
  all_goals cbv
  (repeat (any_goals (first
    | with_reducible refine And.intro ?_ ?_
    | exact True.intro
    | with_reducible exact rfl
    | (with_reducible refine Nd.mk ?_; try dsimp only)
    | (with_reducible refine Nd0.mk ?_; try dsimp only)
    | (with_reducible refine Pz.mk ?_; cbv)
    | (with_reducible refine RgOK.mk ?_; kernel_rfl)
    | (with_reducible refine OrOK.mk ?_; kernel_rfl)
    | (with_reducible refine Al.mk (fun x hx => ?_); cbv)
    | (with_reducible refine hK' _ ?_; clear hK' K'; cbv)
    | (with_reducible refine brA.yes (by first | assumption | exact rfl | (simp only [show oCmp = real.cmp from congrArg Ar.cmp ho, show oBin = real.bin from congrArg Ar.bin ho, show oScmp = real.scmp from congrArg Ar.scmp ho, show oPickB = real.pickB from congrArg Ar.pickB ho, show oBnot = real.bnot from congrArg Ar.bnot ho]; decide)) ?_; cbv)
    | (with_reducible refine brA.no (by first | assumption | exact rfl | (simp only [show oCmp = real.cmp from congrArg Ar.cmp ho, show oBin = real.bin from congrArg Ar.bin ho, show oScmp = real.scmp from congrArg Ar.scmp ho, show oPickB = real.pickB from congrArg Ar.pickB ho, show oBnot = real.bnot from congrArg Ar.bnot ho]; decide)) ?_; cbv)
    | (with_reducible refine bcase (fun hb => ?_) (fun hb => ?_) <;> cbv)
    | (intro K' hK'; cbv))))
  all_goals (((try clear hK' K'); cases ho; (try simp only [nc1] at *); (try simp only [Int.ofNat_eq_natCast] at *)))
  all_goals have hdl := tr_len debs_len (show xs.length ≤ 65536 by omega) i
  all_goals have hcl := tr_len crds_len (show xs.length ≤ 65536 by omega) i
  all_goals have hdI := debs_I hI i
  all_goals have hcI := crds_I hI i
  all_goals first
    | with_reducible exact inb_lt hj (by assumption)
    | with_reducible exact ln_wf hr
    | with_reducible exact (ln_k hr hj (by assumption)).2
    | with_reducible exact ap_tr hrd hdl
    | with_reducible exact ap_tr hrc hcl
    | with_reducible exact rw_ok hrd hdl hdI
    | with_reducible exact rw_ok hrc hcl hcI
    | exact z_I
    | exact q_I hx
    | exact q_I (by assumption)
    | (obtain ⟨h1, h2⟩ := step_y hr hj (by assumption) (by assumption) hrd hrc
       have hi' := ln_lt hr hj (by assumption)
       first
       | exact ⟨⟨[], [(3, 1)], [0, 5, 6, 7, 8], [3], 3⟩, rfl, ⟨i + 1, real.bin .add .i64 j 1, _, _, addLL hj (by omega), by omega, h1, h2, .inr (.inl ⟨rfl, rfl⟩)⟩, mea hj hi' (by omega)⟩
       | exact ⟨⟨[], [(3, 1)], [0, 5, 6, 7, 8], [3, 2], 3⟩, rfl, ⟨i + 1, real.bin .add .i64 j 1, _, _, addLL hj (by omega), by omega, h1, h2, .inr (.inr (.inr rfl))⟩, mea hj hi' (by omega)⟩)
    | (obtain ⟨h1, h2⟩ := step_n hr hj (by assumption) (by assumption) hrd hrc
       have hi' := ln_lt hr hj (by assumption)
       first
       | exact ⟨⟨[], [(3, 2)], [0, 5, 6, 7, 8], [3], 3⟩, rfl, ⟨i + 1, real.bin .add .i64 j 1, _, _, addLL hj (by omega), by omega, h1, h2, .inr (.inr (.inl ⟨rfl, rfl⟩))⟩, mea hj hi' (by omega)⟩
       | exact ⟨⟨[], [(3, 2)], [0, 5, 6, 7, 8], [1, 3], 3⟩, rfl, ⟨i + 1, real.bin .add .i64 j 1, _, _, addLL hj (by omega), by omega, h1, h2, .inr (.inr (.inr rfl))⟩, mea hj hi' (by omega)⟩)
    | (have he := ln_end hr hj hi ‹real.cmp .lss j (real.len r) = false›
       subst he
       rw [List.take_length] at hrd hrc
       first
       | (rename_i d1 hd1 c1 hc1 z1 hz1 _
          exact fin_rtri (rtri_1 (q_of hrd hd1) (by assumption)))
       | (rename_i d1 hd1 c1 hc1 z1 hz1 _ _
          exact fin_rtri (rtri_2 (q_of hrc hc1) (by assumption)))
       | (rename_i d1 hd1 c1 hc1 z1 hz1 _ _ _
          first
          | exact fin_rtri (rtri_3 (z_of hz1) (q_of hrc hc1) hx (by assumption))
          | exact fin_rtri (rtri_4 (z_of hz1) (q_of hrd hd1) (q_of hrc hc1) hx (by assumption) (by assumption) (by assumption))))
    | trace_state
def S_RTri (r : List (List D)) (K : CallK) (n : Nat) (h : Hp) : Prop := Nd (fun _ => ∃ xs, r = lnR xs ∧ xs.length ≤ 60000 ∧ ∀ p ∈ xs, I64 p.2) ∧
  Al (fun q : Int × Int × Int => ∃ xs, r = lnR xs ∧ q = tri (debs xs).sum (crds xs).sum) fun q => K (.tup [.d (.int .i64 q.1), .d (.int .i64 q.2.1), .d (.int .i64 q.2.2)]) n h
theorem L_RTri {r : List (List D)} {n : Nat} {h : Hp} {K : CallK} (hK : S_RTri r K n h) : CallE Try.prog 37 [.d (.imm r)] n h K := by
  obtain ⟨⟨xs, hr, h1, h2⟩, hk⟩ := hK
  refine call_data (CallE.fin (K_RTri0 r xs hr h1 h2)) rfl ?_
  rintro v rfl
  exact hk.h _ ⟨xs, hr, rfl⟩
end Go.Proofs.Yteakfibolfapiaa.Ab
end
