/- Books: New, Balance, set, amounts. -/
import Derived.Test.YteakfibolfapiaaTrAmP
namespace Go.Proofs.Yteakfibolfapiaa.Ab
open Go Go.RowKit Go.Sort
set_option linter.unusedVariables false
set_option linter.unusedSimpArgs false
set_option maxRecDepth 100000
set_option maxHeartbeats 4000000
/-- A bag more, with nothing in it. -/
theorem CallE.bag {P : Program} {f n c : Nat} {h : Hp} {args : List AV} {K : CallK} (h0 : 0 < c) (hc : CallE P f args (n + 1) (h ++ [(n, .bag c [])]) K) : CallE P f args n h K := by
  have key : ∀ {ρ w}, Rep ρ n h w → Rep (upd ρ n (.tuple #[])) (n + 1) (h ++ [(n, .bag c [])]) w ∧ Goes n ρ h w (upd ρ n (.tuple #[])) (h ++ [(n, .bag c [])]) w := by
    intro ρ w r
    have hb : ∀ b, blkIn (.tuple #[]) b → w.heap.size ≤ b := by
      rintro b ⟨v, hv, -⟩
      cases hv
    exact ⟨r.new (fun _ _ h => h) hb (fun _ => ⟨#[], upd_same _ _ _, rfl, h0, (fun p hp => by cases hp), List.Pairwise.nil⟩), goes_new r (fun _ _ h => h) hb rfl rfl rfl (Nat.le_refl _)⟩
  have key2 : ∀ {ρ w v w'}, Goes n ρ h w (upd ρ n (.tuple #[])) (h ++ [(n, .bag c [])]) w → Done K (n + 1) (upd ρ n (.tuple #[])) (h ++ [(n, .bag c [])]) w v w' → Done K n ρ h w v w' := by
    rintro ρ w v w' g ⟨av, ρ', n', h', h1, h2, h3, h4, h5⟩
    exact ⟨av, ρ', n', h', h1, h2, by omega, h4, g.trans (h5.mono (by omega))⟩
  cases hc with
  | enter fn hf hn hb run =>
    refine .enter fn hf hn hb (fun ρ w vs hr ha => Calls.mono (run _ w vs (key hr).1 (RelVs.mono ((key hr).2.sub hr.fresh) (key hr).2.keeps _ _ ha)) ?_)
    rintro e w' ⟨v, rfl, hd⟩
    exact ⟨v, rfl, key2 (key hr).2 hd⟩
  | ext run =>
    refine .ext (fun ρ w vs hr ha => ?_)
    obtain ⟨v, w', h1, h2⟩ := run _ w vs (key hr).1 (RelVs.mono ((key hr).2.sub hr.fresh) (key hr).2.keeps _ _ ha)
    exact ⟨v, w', h1, key2 (key hr).2 h2⟩
/-! New -/
theorem K_BNew0 : CallE Try.prog 12 [] 0 [] (fun v n h => Nd (fun _ => v = .ptr 1 0 ∧ n = 2 ∧ h = [(0, .mp .i64 []), (1, .cells [.map 0])])) := by
  refine call_fn tysOK orders (C := C0) C0_ok H0 Try.func12 (by kernel_rfl) (by kernel_rfl) ?_
  intro oBin oCmp oWrap oNeg oCom oBnot oBeq oPickB oPickI oPickS oInb oSub2 oMinI oMaxI oSlen oSidx oScat oSsub oScmp oScok oLen oCI oCB oCS oCL oOkR oApp oApok oSub oSetc oRep oMkok oNthI oNthB oNthS oIteI oIteB oIteS oB2s oS2b oAllB oWf oDeq oMlen oMhas oMI oMB oMS oMok oMput oMdel oSgo oSru oSnx ho; cbv
  (repeat (any_goals (first
    | with_reducible refine And.intro ?_ ?_
    | exact True.intro
    | with_reducible exact rfl
    | (with_reducible refine Nd.mk ?_; try dsimp only)
    | (with_reducible refine Nd0.mk ?_; try dsimp only)
    | (with_reducible refine Pz.mk ?_; cbv)
    | (with_reducible refine RgOK.mk ?_; kernel_rfl)
    | (with_reducible refine OrOK.mk ?_; kernel_rfl)
    | (with_reducible refine Al.mk (fun x hx => ?_); cbv)
    | (with_reducible refine hK' _ ?_; clear hK' K'; cbv)
    | (with_reducible refine brA.yes (by first | assumption | exact rfl | (simp only [show oCmp = real.cmp from congrArg Ar.cmp ho, show oBin = real.bin from congrArg Ar.bin ho, show oScmp = real.scmp from congrArg Ar.scmp ho, show oPickB = real.pickB from congrArg Ar.pickB ho]; decide)) ?_; cbv)
    | (with_reducible refine brA.no (by first | assumption | exact rfl | (simp only [show oCmp = real.cmp from congrArg Ar.cmp ho, show oBin = real.bin from congrArg Ar.bin ho, show oScmp = real.scmp from congrArg Ar.scmp ho, show oPickB = real.pickB from congrArg Ar.pickB ho]; decide)) ?_; cbv)
    | (with_reducible refine bcase (fun hb => ?_) (fun hb => ?_) <;> cbv)
    | (intro K' hK'; cbv))))
  all_goals ((try clear hK' K'); cases ho; (try simp only [nc1] at *); (try simp only [Int.ofNat_eq_natCast] at *))
  all_goals first
    | exact ⟨rfl, rfl, rfl⟩
    | trace_state
def S_BNew (K : CallK) (n : Nat) (h : Hp) : Prop := K (.ptr (n + 1) 0) (n + 2) (h ++ [(n, .mp .i64 []), (n + 1, .cells [.map n])])
theorem L_BNew {n : Nat} {h : Hp} {K : CallK} (hK : S_BNew K n h) : CallE Try.prog 12 [] n h K := by
  refine call_frame (g := fun i => i) K_BNew0 rfl rfl (fun i j hi => absurd hi (Nat.not_lt_zero _)) (fun i hi => absurd hi (Nat.not_lt_zero _)) (fun i o hm => by cases hm) (by intro j hj; cases hj) ?_
  rintro v n1 h1 - ⟨⟨rfl, rfl, rfl⟩⟩
  rw [outs_zero]
  have e : n + (2 - 0) = n + 2 := rfl
  have e0 : lift (fun i => i) 0 n 0 = n := by simp [lift]; rfl
  have e1 : lift (fun i => i) 0 n 1 = n + 1 := by simp [lift]; rfl
  simp only [renH, renV, renO, renVs, e0, e1, e]
  exact hK
/-! what books hold -/
/-- Balances: amounts that aren't 0. -/
structure gB (m : ML) : Prop where
  h : ∀ p ∈ m, ∃ z, p.2 = .int .i64 z ∧ z ≠ 0 ∧ I64 z
  nd : (m.map (·.1)).Nodup
  rg : ∀ p ∈ m, 0 ≤ p.1 ∧ p.1 ≤ 65535
theorem gB_ok {m : ML} (h : gB m) : real.mok m [.int .i64] false = true := by
  simp only [real, List.all_eq_true]
  intro p hp
  obtain ⟨z, e, -⟩ := h.h p hp
  rw [e]
  rfl
def bal (m : ML) (k : Int) : Int := real.mI m k 0
def setM (m : ML) (k z : Int) : ML := if z = 0 then Mk.del m k else Mk.put m k (.int .i64 z)
theorem K_set0 (m : ML) (hm : gB m) (k z : Int) : CallE Try.prog 50 [.ptr 1 0, .d (.int .i64 k), .d (.int .i64 z)] 2 [(0, .mp .i64 m), (1, .cells [.map 0])]
    (fun v n h => Nd (fun _ => Fin 2 (fun v n h => v = .tup [] ∧ n = 2 ∧ h = [(0, .mp .i64 (setM m k z)), (1, .cells [.map 0])]) v n h)) := by
  refine call_fn tysOK orders (C := C0) C0_ok H0 Try.func50 (by kernel_rfl) (by kernel_rfl) ?_
  intro oBin oCmp oWrap oNeg oCom oBnot oBeq oPickB oPickI oPickS oInb oSub2 oMinI oMaxI oSlen oSidx oScat oSsub oScmp oScok oLen oCI oCB oCS oCL oOkR oApp oApok oSub oSetc oRep oMkok oNthI oNthB oNthS oIteI oIteB oIteS oB2s oS2b oAllB oWf oDeq oMlen oMhas oMI oMB oMS oMok oMput oMdel oSgo oSru oSnx ho; cbv
  (repeat (any_goals (first
    | with_reducible refine And.intro ?_ ?_
    | exact True.intro
    | with_reducible exact rfl
    | (with_reducible refine Nd.mk ?_; try dsimp only)
    | (with_reducible refine Nd0.mk ?_; try dsimp only)
    | (with_reducible refine Pz.mk ?_; cbv)
    | (with_reducible refine RgOK.mk ?_; kernel_rfl)
    | (with_reducible refine OrOK.mk ?_; kernel_rfl)
    | (with_reducible refine Al.mk (fun x hx => ?_); cbv)
    | (with_reducible refine hK' _ ?_; clear hK' K'; cbv)
    | (with_reducible refine brA.yes (by first | assumption | exact rfl | (simp only [show oCmp = real.cmp from congrArg Ar.cmp ho, show oBin = real.bin from congrArg Ar.bin ho, show oScmp = real.scmp from congrArg Ar.scmp ho, show oPickB = real.pickB from congrArg Ar.pickB ho]; decide)) ?_; cbv)
    | (with_reducible refine brA.no (by first | assumption | exact rfl | (simp only [show oCmp = real.cmp from congrArg Ar.cmp ho, show oBin = real.bin from congrArg Ar.bin ho, show oScmp = real.scmp from congrArg Ar.scmp ho, show oPickB = real.pickB from congrArg Ar.pickB ho]; decide)) ?_; cbv)
    | (with_reducible refine bcase (fun hb => ?_) (fun hb => ?_) <;> cbv)
    | (intro K' hK'; cbv))))
  all_goals ((try clear hK' K'); cases ho; (try simp only [nc1] at *); (try simp only [Int.ofNat_eq_natCast] at *))
  all_goals first
    | exact ⟨⟨[], [], [0], [0, 1], 2⟩, _, 2, _, rfl, rfl, rfl, rfl, by rw [setM, if_pos (by simpa [real, rCmp] using hb)]; rfl⟩
    | exact ⟨⟨[], [], [0], [0, 1], 2⟩, _, 2, _, rfl, rfl, rfl, rfl, by rw [setM, if_neg (by simpa [real, rCmp] using hb)]; rfl⟩
    | trace_state
theorem K_Balance0 (m : ML) (hm : gB m) (k : Int) : CallE Try.prog 17 [.ptr 1 0, .d (.int .i64 k)] 2 [(0, .mp .i64 m), (1, .cells [.map 0])]
    (fun v n h => Nd (fun _ => Fin 2 (fun v n h => v = .d (.int .i64 (bal m k)) ∧ n = 2 ∧ h = [(0, .mp .i64 m), (1, .cells [.map 0])]) v n h)) := by
  refine call_fn tysOK orders (C := C0) C0_ok H0 Try.func17 (by kernel_rfl) (by kernel_rfl) ?_
  intro oBin oCmp oWrap oNeg oCom oBnot oBeq oPickB oPickI oPickS oInb oSub2 oMinI oMaxI oSlen oSidx oScat oSsub oScmp oScok oLen oCI oCB oCS oCL oOkR oApp oApok oSub oSetc oRep oMkok oNthI oNthB oNthS oIteI oIteB oIteS oB2s oS2b oAllB oWf oDeq oMlen oMhas oMI oMB oMS oMok oMput oMdel oSgo oSru oSnx ho; cbv
  (repeat (any_goals (first
    | with_reducible refine And.intro ?_ ?_
    | exact True.intro
    | with_reducible exact rfl
    | (with_reducible refine Nd.mk ?_; try dsimp only)
    | (with_reducible refine Nd0.mk ?_; try dsimp only)
    | (with_reducible refine Pz.mk ?_; cbv)
    | (with_reducible refine RgOK.mk ?_; kernel_rfl)
    | (with_reducible refine OrOK.mk ?_; kernel_rfl)
    | (with_reducible refine Al.mk (fun x hx => ?_); cbv)
    | (with_reducible refine hK' _ ?_; clear hK' K'; cbv)
    | (with_reducible refine brA.yes (by first | assumption | exact rfl | (simp only [show oCmp = real.cmp from congrArg Ar.cmp ho, show oBin = real.bin from congrArg Ar.bin ho, show oScmp = real.scmp from congrArg Ar.scmp ho, show oPickB = real.pickB from congrArg Ar.pickB ho]; decide)) ?_; cbv)
    | (with_reducible refine brA.no (by first | assumption | exact rfl | (simp only [show oCmp = real.cmp from congrArg Ar.cmp ho, show oBin = real.bin from congrArg Ar.bin ho, show oScmp = real.scmp from congrArg Ar.scmp ho, show oPickB = real.pickB from congrArg Ar.pickB ho]; decide)) ?_; cbv)
    | (with_reducible refine bcase (fun hb => ?_) (fun hb => ?_) <;> cbv)
    | (intro K' hK'; cbv))))
  all_goals ((try clear hK' K'); cases ho; (try simp only [nc1] at *); (try simp only [Int.ofNat_eq_natCast] at *))
  all_goals first
    | with_reducible exact gB_ok hm
    | exact ⟨⟨[], [], [0], [0, 1], 2⟩, _, 2, _, rfl, rfl, rfl, rfl, rfl⟩
    | trace_state
/-! amounts -/
theorem addL {j : Int} {i : Nat} (hj : j = i) (hi : i < 1000) : real.bin .add .i64 j 1 = ((i + 1 : Nat) : Int) := by
  simp only [real, rBin]; rw [wrap_i64 _ (by omega) (by omega)]; omega
def lnR (qs : List (Int × Int)) : List (List D) := qs.map fun q => [.int .i64 q.1, .int .i64 q.2]
theorem ln_get {qs : List (Int × Int)} {i : Nat} (hi : i < qs.length) : (lnR qs).getD i [] = [.int .i64 qs[i].1, .int .i64 qs[i].2] := by
  simp [lnR, List.getD, hi]
theorem ln_cI {qs : List (Int × Int)} {j : Int} {i : Nat} (hj : j = i) (hi : i < qs.length) : real.cI (lnR qs) j 0 = qs[i].1 ∧ real.cI (lnR qs) j 1 = qs[i].2 := by
  subst hj
  simp only [real, rCell, Int.toNat_natCast, ln_get hi]
  exact ⟨rfl, rfl⟩
theorem ln_ok {r : List (List D)} {qs : List (Int × Int)} (hr : r = lnR qs) {j : Int} {i : Nat} (hj : j = i) (hb : real.cmp .lss j (real.len r) = true) : real.okR r j 0 [.int .i64, .int .i64] = true := by
  subst hr hj
  have hi : i < qs.length := by simpa [real, rCmp, lnR] using hb
  simp only [real, Int.toNat_natCast, ln_get hi]
  simp [rowOk, kdOk, lnR, hi]
theorem ln_wf {r : List (List D)} {qs : List (Int × Int)} (hr : r = lnR qs) : real.wf r 2 = true := by
  subst hr
  simp only [real, rWf, List.all_eq_true]
  intro x hx
  obtain ⟨q, -, rfl⟩ := List.mem_map.1 hx
  rfl
theorem inb_lt {l : List (List D)} {j : Int} {i : Nat} (hj : j = i) (hb : real.cmp .lss j (real.len l) = true) : real.inb j (real.len l) = true := by
  subst hj
  simp only [real, rCmp, decide_eq_true_eq] at *
  omega
theorem ln_lt {r : List (List D)} {qs : List (Int × Int)} (hr : r = lnR qs) {j : Int} {i : Nat} (hj : j = i) (hb : real.cmp .lss j (real.len r) = true) : i < qs.length := by
  subst hr hj
  simpa [real, rCmp, lnR] using hb
theorem ln_end {r : List (List D)} {qs : List (Int × Int)} (hr : r = lnR qs) {j : Int} {i : Nat} (hj : j = i) (hi : i ≤ qs.length) (hb : real.cmp .lss j (real.len r) = false) : i = qs.length := by
  subst hr hj
  simp [real, rCmp, lnR] at hb
  omega
theorem row1_ok (a b : Int) : real.okR [[.int .i64 a, .int .i64 b]] 0 0 [.int .i64] = true := rfl
theorem row1_ok1 (a b : Int) : real.okR [[.int .i64 a, .int .i64 b]] 0 1 [.int .i64] = true := rfl
theorem take_snoc {α : Type} {l : List α} {i : Nat} (h : i < l.length) : l.take (i + 1) = l.take i ++ [l[i]] := by
  rw [List.take_add_one, List.getElem?_eq_getElem h]; rfl
theorem amp_app {A : Ar} (ho : A = real) {r : List (List D)} {qs : List (Int × Int)} {m : ML} {L : Bag} {i : Nat} {j : Int} {x : Value} (hr : r = lnR qs) (hl : qs.length ≤ 1000) (hA : AMP m L (qs.take i)) (hj : j = i) (hb : A.cmp .lss j (A.len r) = true)
    (hx : x = mraw m (A.cI [[.int .i64 (A.cI r j 0), .int .i64 (A.cI r j 1)]] 0 0)) :
    ∃ xs L', ((x = .slice none 0 0 ∧ xs = [] ∧ L' = L) ∨ ∃ B C, L = B ++ (x, xs) :: C ∧ L' = B ++ C) ∧ A.apok xs [[.int .i64 (A.cI [[.int .i64 (A.cI r j 0), .int .i64 (A.cI r j 1)]] 0 1)]] 1 8 = true ∧
      ∀ v', (∃ a n cap, v' = .slice a n cap) → AMP (A.mput m (A.cI [[.int .i64 (A.cI r j 0), .int .i64 (A.cI r j 1)]] 0 0) v') ((v', xs ++ [[.int .i64 (A.cI [[.int .i64 (A.cI r j 0), .int .i64 (A.cI r j 1)]] 0 1)]]) :: L') (qs.take (i + 1)) := by
  subst ho
  have hi := ln_lt hr hj hb
  subst hr
  have e1 : ∀ a b, real.cI [[.int .i64 a, .int .i64 b]] 0 0 = a := fun a b => rfl
  have e2 : ∀ a b, real.cI [[.int .i64 a, .int .i64 b]] 0 1 = b := fun a b => rfl
  obtain ⟨c1, c2⟩ := ln_cI hj hi
  rw [c1, c2, e1] at hx
  rw [c1, c2, e1, e2]
  obtain ⟨xs, L', h1, h2, h3, h4⟩ := hA.step (x := qs[i].2) hx
  refine ⟨xs, L', h1, ?_, fun v' hs => ?_⟩
  · simp only [List.length_take] at h2
    simp [real, flatD, maxLen]
    omega
  · rw [take_snoc hi]
    exact h4 v' hs
theorem K_amounts0 (r : List (List D)) (qs : List (Int × Int)) (hr : r = lnR qs) (hl : qs.length ≤ 1000) : CallE Try.prog 48 [.d (.imm r)] 0 []
    (fun v n h => Nd (fun _ => Fin 0 (fun v n h => ∃ m L, AMP m L qs ∧ v = .map 0 ∧ n = 2 ∧ h = [(1, .bag 1 L), (0, .mp .i64 m)]) v n h)) := by
  refine CallE.bag (c := 1) (by decide) ?_
  refine call_fn tysOK orders (C := C0) C0_ok ⟨[((5, 0), [3])], [], 0⟩ Try.func48 (by kernel_rfl) (by kernel_rfl) ?_
  intro oBin oCmp oWrap oNeg oCom oBnot oBeq oPickB oPickI oPickS oInb oSub2 oMinI oMaxI oSlen oSidx oScat oSsub oScmp oScok oLen oCI oCB oCS oCL oOkR oApp oApok oSub oSetc oRep oMkok oNthI oNthB oNthS oIteI oIteB oIteS oB2s oS2b oAllB oWf oDeq oMlen oMhas oMI oMB oMS oMok oMput oMdel oSgo oSru oSnx ho; cbv
  (repeat (any_goals (first
    | with_reducible refine And.intro ?_ ?_
    | exact True.intro
    | with_reducible exact rfl
    | (with_reducible refine Nd.mk ?_; try dsimp only)
    | (with_reducible refine Nd0.mk ?_; try dsimp only)
    | (with_reducible refine Pz.mk ?_; cbv)
    | (with_reducible refine RgOK.mk ?_; kernel_rfl)
    | (with_reducible refine OrOK.mk ?_; kernel_rfl)
    | (with_reducible refine Al.mk (fun x hx => ?_); cbv)
    | (with_reducible refine hK' _ ?_; clear hK' K'; cbv)
    | (with_reducible refine brA.yes (by first | assumption | exact rfl | (simp only [show oCmp = real.cmp from congrArg Ar.cmp ho, show oBin = real.bin from congrArg Ar.bin ho, show oScmp = real.scmp from congrArg Ar.scmp ho, show oPickB = real.pickB from congrArg Ar.pickB ho]; decide)) ?_; cbv)
    | (with_reducible refine brA.no (by first | assumption | exact rfl | (simp only [show oCmp = real.cmp from congrArg Ar.cmp ho, show oBin = real.bin from congrArg Ar.bin ho, show oScmp = real.scmp from congrArg Ar.scmp ho, show oPickB = real.pickB from congrArg Ar.pickB ho]; decide)) ?_; cbv)
    | (with_reducible refine bcase (fun hb => ?_) (fun hb => ?_) <;> cbv)
    | (intro K' hK'; cbv))))
  refine ⟨fun st => ∃ (i : Nat) (j : Int) (m : ML) (L : Bag), j = i ∧ i ≤ qs.length ∧ AMP m L (qs.take i) ∧ st = ⟨mkF 26 0 [(3, .map 1), (7, .d (.imm r)), (8, .d (.int .i64 (oLen r))), (9, .d (.int .i64 j))], 3, [(2, .bag 1 L), (1, .mp .i64 m)]⟩, fun st => ((qs.length : Int) - ctr 9 st).toNat, ⟨[], [(0, 2)], [3, 7, 8, 9], [0, 1], 3⟩, ?_, ?_, ?_⟩
  · cbv
  · exact ⟨0, 0, [], [], rfl, Nat.zero_le _, AMP.nil, rfl⟩
  rintro st1 ⟨i, j, m, L, hj, hi, hA, rfl⟩
  cbv
  (repeat (any_goals (first
    | with_reducible refine And.intro ?_ ?_
    | exact True.intro
    | with_reducible exact rfl
    | (with_reducible refine Nd.mk ?_; try dsimp only)
    | (with_reducible refine Nd0.mk ?_; try dsimp only)
    | (with_reducible refine Pz.mk ?_; cbv)
    | (with_reducible refine RgOK.mk ?_; kernel_rfl)
    | (with_reducible refine OrOK.mk ?_; kernel_rfl)
    | (with_reducible refine Al.mk (fun x hx => ?_); cbv)
    | (with_reducible refine hK' _ ?_; clear hK' K'; cbv)
    | (with_reducible refine brA.yes (by first | assumption | exact rfl | (simp only [show oCmp = real.cmp from congrArg Ar.cmp ho, show oBin = real.bin from congrArg Ar.bin ho, show oScmp = real.scmp from congrArg Ar.scmp ho, show oPickB = real.pickB from congrArg Ar.pickB ho]; decide)) ?_; cbv)
    | (with_reducible refine brA.no (by first | assumption | exact rfl | (simp only [show oCmp = real.cmp from congrArg Ar.cmp ho, show oBin = real.bin from congrArg Ar.bin ho, show oScmp = real.scmp from congrArg Ar.scmp ho, show oPickB = real.pickB from congrArg Ar.pickB ho]; decide)) ?_; cbv)
    | (with_reducible refine bcase (fun hb => ?_) (fun hb => ?_) <;> cbv)
    | (intro K' hK'; cbv))))
  any_goals first
    | exact hA.sl _ (by assumption)
    | (obtain ⟨xs, L', h1, h2, h3⟩ := amp_app ho hr hl hA hj hb hx
       refine ⟨xs, L', h1, h2, fun v' hs => ?_⟩
       cbv
       (repeat (any_goals (first
    | with_reducible refine And.intro ?_ ?_
    | exact True.intro
    | with_reducible exact rfl
    | (with_reducible refine Nd.mk ?_; try dsimp only)
    | (with_reducible refine Nd0.mk ?_; try dsimp only)
    | (with_reducible refine Pz.mk ?_; cbv)
    | (with_reducible refine RgOK.mk ?_; kernel_rfl)
    | (with_reducible refine OrOK.mk ?_; kernel_rfl)
    | (with_reducible refine Al.mk (fun x hx => ?_); cbv)
    | (with_reducible refine hK' _ ?_; clear hK' K'; cbv)
    | (with_reducible refine brA.yes (by first | assumption | exact rfl | (simp only [show oCmp = real.cmp from congrArg Ar.cmp ho, show oBin = real.bin from congrArg Ar.bin ho, show oScmp = real.scmp from congrArg Ar.scmp ho, show oPickB = real.pickB from congrArg Ar.pickB ho]; decide)) ?_; cbv)
    | (with_reducible refine brA.no (by first | assumption | exact rfl | (simp only [show oCmp = real.cmp from congrArg Ar.cmp ho, show oBin = real.bin from congrArg Ar.bin ho, show oScmp = real.scmp from congrArg Ar.scmp ho, show oPickB = real.pickB from congrArg Ar.pickB ho]; decide)) ?_; cbv)
    | (with_reducible refine bcase (fun hb => ?_) (fun hb => ?_) <;> cbv)
    | (intro K' hK'; cbv)))))
  all_goals ((try clear hK' K'); cases ho; (try simp only [nc1] at *); (try simp only [Int.ofNat_eq_natCast] at *))
  all_goals first
    | with_reducible exact inb_lt hj (by assumption)
    | with_reducible exact ln_wf hr
    | with_reducible exact ln_ok hr hj (by assumption)
    | with_reducible exact row1_ok _ _
    | with_reducible exact row1_ok1 _ _
    | (have hi' := ln_lt hr hj (by assumption)
       refine ⟨⟨[], [(4, 2)], [3, 7, 8, 9], [4, 1], 3⟩, rfl, ⟨i + 1, _, _, _, addL hj (by omega), by omega, h3 _ hs, by cases xs <;> rfl⟩, ?_⟩
       show ((qs.length : Int) - real.bin .add .i64 j 1).toNat < ((qs.length : Int) - j).toNat
       rw [addL hj (by omega)]; omega)
    | (refine ⟨⟨[], [(2, 1), (1, 0)], [0], [2, 1], 2⟩, _, 2, _, rfl, rfl, m, L, ?_, rfl, rfl, rfl⟩
       have := ln_end hr hj hi (by assumption)
       rwa [this, List.take_length] at hA)
    | trace_state
end Go.Proofs.Yteakfibolfapiaa.Ab
