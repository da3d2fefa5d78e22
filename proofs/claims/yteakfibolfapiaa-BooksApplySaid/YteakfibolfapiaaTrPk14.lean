/- Several texts in one: Rb3, Be, Ref01, Cur, Rd, It1, It2, It3. -/
import Derived.Test.YteakfibolfapiaaTrPk13
import Derived.Test.YteakfibolfapiaaTrPk11
import Derived.Laws.IdiomStrings
import Derived.Lib.AppendStr
import Derived.Test.YteakfibolfapiaaTrPk1
import Derived.Test.YteakfibolfapiaaProg
import Derived.RangeFuncGives
import Derived.RangeFuncKeeps
import Derived.Shelf.AbstractIn
import Derived.RangeFuncSeq
import Derived.Sort.MapsRangeIn
import Derived.WalkKit
import Derived.OwnWalkIn
import Derived.TacticsInMore
import Derived.RegionIn
import Derived.LoopNIn
import Derived.LoopIn
import Derived.RangeFuncNested
import Derived.RangeFuncBound
import Derived.RangeFuncCalls
import Derived.RangeFuncLeaves
import Derived.RangeFuncBox
import Derived.Maps.AppendAt
import Derived.Shelf.Abstract
import Derived.Shelf.RegionOpen
import Derived.Test.YteakfibolfapiaaShelf
import Derived.Shelf.SlSortCmp.InsertionK
section
namespace Go.Proofs.Yteakfibolfapiaa.Ab
open Go Go.RowKit Go.Sort
set_option linter.unusedVariables false
set_option linter.unusedSimpArgs false
set_option maxRecDepth 100000
set_option maxHeartbeats 8000000
/-! lines -/
theorem sub_10 (zs : List (Int × Int)) (N : Nat) : real.sub2 0 (real.minI (real.len (lnR zs)) N) (real.len (lnR zs)) = true ∧ real.sub (lnR zs) 0 (real.minI (real.len (lnR zs)) N) = lnR (zs.take N) := by
  have e2 : real.len (lnR zs) = zs.length := by simp [real, lnR_len]
  rw [e2]
  constructor
  · simp only [real]; exact decide_eq_true (by omega)
  · show ((lnR zs).take (min (zs.length : Int) N).toNat).drop 0 = _
    rw [List.drop_zero]
    have e : ∀ n, (lnR zs).take n = lnR (zs.take n) := fun n => by simp [lnR]
    rw [e]
    by_cases h : zs.length ≤ N
    · have : (min (zs.length : Int) N).toNat = zs.length := by omega
      rw [this, List.take_length, List.take_of_length_le h]
    · have : (min (zs.length : Int) N).toNat = N := by omega
      rw [this]
theorem sub_h {r : List (List D)} (h : ∃ zs, r = lnR zs) (N : Nat) : real.sub2 0 (real.minI (real.len r) N) (real.len r) = true ∧ real.wf r 2 = true := by
  obtain ⟨zs, rfl⟩ := h
  exact ⟨(sub_10 zs N).1, ln_wf rfl⟩
theorem ln_next {R o : List (List D)} {zs : List (Int × Int)} {j : Int} {i : Nat} (hR : R = lnR zs) (hj : j = i) (hb : real.cmp .lss j (real.len R) = true) (ho : o = lnR (zs.take i)) : real.app o [[.int .i64 (real.cI R j 0), .int .i64 (real.cI R j 1)]] = lnR (zs.take (i + 1)) := by
  have hi := ln_lt hR hj hb
  subst hR
  rw [(ln_cI hj hi).1, (ln_cI hj hi).2, take_snoc hi, lnR_snoc, ← ho]
  rfl
theorem ln_last {R o : List (List D)} {zs : List (Int × Int)} {j : Int} {i : Nat} (hR : R = lnR zs) (hj : j = i) (hi : i ≤ zs.length) (hb : real.cmp .lss j (real.len R) = false) (ho : o = lnR (zs.take i)) : o = lnR zs := by
  have h := ln_end hR hj hi hb
  rwa [h, List.take_length] at ho
def kLines (zs : List (Int × Int)) : AV → Prop := fun v => ∃ r', r' = lnR zs ∧ v = .tup [.d (.imm r'), .d (.imm r')]
theorem K_lines0 (r : List (List D)) (zs : List (Int × Int)) (hr : r = lnR zs) : CallE Try.prog 34 [.d (.imm r)] 0 [] (fun v n h => Nd (fun _ => Fin 0 (Gets (kLines (zs.take 10))) v n h)) := by
  refine call_fn tysOK orders (C := C0) C0_ok ⟨[((9, 0), [0, 1, 1000004]), ((9, 1), [1000005])], [], 0⟩ Try.func34 (by kernel_rfl) (by kernel_rfl) ?_
  intro oBin oCmp oWrap oNeg oCom oBnot oBeq oPickB oPickI oPickS oInb oSub2 oMinI oMaxI oSlen oSidx oScat oSsub oScmp oScok oLen oCI oCB oCS oCL oOkR oApp oApok oSub oSetc oRep oMkok oNthI oNthB oNthS oIteI oIteB oIteS oB2s oS2b oAllB oWf oDeq oMlen oMhas oMI oMB oMS oMok oMput oMdel oSgo oSru oSnx ho; cbv
  (repeat (any_goals (first
    | with_reducible refine And.intro ?_ ?_
    | exact True.intro
    | with_reducible exact rfl
    | (with_reducible refine Nd.mk ?_; try dsimp only)
    | (with_reducible refine Nd0.mk ?_; try dsimp only)
    | (with_reducible refine Pz.mk ?_; cbv)
    | (with_reducible refine RgOK.mk ?_; kernel_rfl)
    | (with_reducible refine OrOK.mk ?_; kernel_rfl)
    | (with_reducible refine Al.mk (fun x hx => ?_); cbv)
    | (with_reducible refine hK' _ ?_; clear hK' K'; cbv)
    | (with_reducible refine brA.yes (by first | assumption | exact rfl | (simp only [show oCmp = real.cmp from congrArg Ar.cmp ho, show oBin = real.bin from congrArg Ar.bin ho, show oScmp = real.scmp from congrArg Ar.scmp ho, show oPickB = real.pickB from congrArg Ar.pickB ho, show oBnot = real.bnot from congrArg Ar.bnot ho]; decide)) ?_; cbv)
    | (with_reducible refine brA.no (by first | assumption | exact rfl | (simp only [show oCmp = real.cmp from congrArg Ar.cmp ho, show oBin = real.bin from congrArg Ar.bin ho, show oScmp = real.scmp from congrArg Ar.scmp ho, show oPickB = real.pickB from congrArg Ar.pickB ho, show oBnot = real.bnot from congrArg Ar.bnot ho]; decide)) ?_; cbv)
    | (with_reducible refine bcase (fun hb => ?_) (fun hb => ?_) <;> cbv)
    | (intro K' hK'; cbv))))
  · cases ho; exact (sub_h ⟨zs, hr⟩ 10).1
  · cases ho; exact ln_wf hr
  obtain ⟨R, hRe⟩ : ∃ R, R = oSub r 0 (oMinI (oLen r) 10) := ⟨_, rfl⟩
  have hR : R = lnR (zs.take 10) := by
    cases ho
    subst hr
    exact hRe.trans (sub_10 zs 10).2
  rw [← hRe]
  clear hRe
  have hzl : (zs.take 10).length ≤ 10 := by simp; omega
  obtain ⟨ys, hy⟩ : ∃ ys, ys = zs.take 10 := ⟨_, rfl⟩
  rw [← hy] at hR hzl ⊢
  refine ⟨fun st => ∃ (i : Nat) (j : Int) (o : List (List D)), j = i ∧ i ≤ ys.length ∧ o = lnR (ys.take i) ∧
      ((o = [] ∧ st = ⟨mkF 33 0 [(4, .d .nilsl), (5, .d .nilsl), (12, .d (.imm R)), (13, .d (.int .i64 (oLen R))), (14, .d (.int .i64 j))], 2, []⟩) ∨
       st = ⟨mkF 33 0 [(4, .sl 0), (5, .sl 1), (12, .d (.imm R)), (13, .d (.int .i64 (oLen R))), (14, .d (.int .i64 j))], 2, [(0, .row 2 o), (1, .row 2 o)]⟩),
    fun st => ((ys.length : Int) - ctr 14 st).toNat, ⟨[], [], [4, 5, 12, 13, 14], [], 2⟩, ?_, ?_, ?_⟩
  · cbv
  · exact ⟨0, 0, [], rfl, Nat.zero_le _, rfl, .inl ⟨rfl, rfl⟩⟩
  rintro st1 ⟨i, j, o, hj, hi, hs, ⟨h0, rfl⟩ | rfl⟩
  all_goals (try subst h0)
  all_goals cbv
  (repeat (any_goals (first
    | with_reducible refine And.intro ?_ ?_
    | exact True.intro
    | with_reducible exact rfl
    | (with_reducible refine Nd.mk ?_; try dsimp only)
    | (with_reducible refine Nd0.mk ?_; try dsimp only)
    | (with_reducible refine Pz.mk ?_; cbv)
    | (with_reducible refine RgOK.mk ?_; kernel_rfl)
    | (with_reducible refine OrOK.mk ?_; kernel_rfl)
    | (with_reducible refine Al.mk (fun x hx => ?_); cbv)
    | (with_reducible refine hK' _ ?_; clear hK' K'; cbv)
    | (with_reducible refine brA.yes (by first | assumption | exact rfl | (simp only [show oCmp = real.cmp from congrArg Ar.cmp ho, show oBin = real.bin from congrArg Ar.bin ho, show oScmp = real.scmp from congrArg Ar.scmp ho, show oPickB = real.pickB from congrArg Ar.pickB ho, show oBnot = real.bnot from congrArg Ar.bnot ho]; decide)) ?_; cbv)
    | (with_reducible refine brA.no (by first | assumption | exact rfl | (simp only [show oCmp = real.cmp from congrArg Ar.cmp ho, show oBin = real.bin from congrArg Ar.bin ho, show oScmp = real.scmp from congrArg Ar.scmp ho, show oPickB = real.pickB from congrArg Ar.pickB ho, show oBnot = real.bnot from congrArg Ar.bnot ho]; decide)) ?_; cbv)
    | (with_reducible refine bcase (fun hb => ?_) (fun hb => ?_) <;> cbv)
    | (intro K' hK'; cbv))))
  all_goals ((try clear hK' K'); cases ho; (try simp only [nc1] at *); (try simp only [Int.ofNat_eq_natCast] at *))
  all_goals first
    | with_reducible exact inb_lt hj (by assumption)
    | with_reducible exact ln_wf hR
    | with_reducible exact ln_ok hR hj (by assumption)
    | with_reducible exact (ln_k hR hj (by assumption)).1
    | with_reducible exact (ln_k hR hj (by assumption)).2
    | exact ap_l hs (by simp; omega)
    | (have h5 := ln_next hR hj ‹real.cmp .lss j (real.len R) = true› hs
       have h6 := ln_lt hR hj ‹real.cmp .lss j (real.len R) = true›
       exact ⟨⟨[], [(3, 0), (4, 1)], [4, 5, 12, 13, 14], [3, 4], 2⟩, rfl, ⟨i + 1, real.bin .add .i64 j 1, _, addLL hj (by omega), by omega, h5, .inr rfl⟩, mea hj h6 (by omega)⟩)
    | (have h5 := ln_last hR hj hi (by assumption) hs
       exact ⟨⟨[], [], [0], [], 0⟩, _, 0, _, rfl, rfl, ⟨_, h5, rfl⟩, rfl, rfl, rfl⟩)
    | trace_state
def S_lines (r : List (List D)) (K : CallK) (n : Nat) (h : Hp) : Prop := Nd (fun _ => ∃ zs, r = lnR zs) ∧ Al (fun q : List (List D) => ∃ zs, r = lnR zs ∧ q = lnR (zs.take 10)) fun q => K (.tup [.d (.imm q), .d (.imm q)]) n h
theorem L_lines {r : List (List D)} {n : Nat} {h : Hp} {K : CallK} (hK : S_lines r K n h) : CallE Try.prog 34 [.d (.imm r)] n h K := by
  obtain ⟨⟨zs, hr⟩, hk⟩ := hK
  exact call_data (CallE.fin (K_lines0 r zs hr)) rfl (by rintro v ⟨q, hq, rfl⟩; exact hk.h _ ⟨zs, hr, hq⟩)
/-! same -/
def B7 : CallS := fun f args n h K => match f with
  | 46 => (match args with | [.ptr i 0] => S_BList i K n h | _ => False)
  | 17 => (match args with | [.ptr i 0, .d (.int .i64 k)] => S_Bal i k K n h | _ => False)
  | _ => False
theorem B7_ok : ∀ f args n h K, B7 f args n h K → CallE Try.prog f args n h K := by
  intro f args n h K hc
  unfold B7 at hc
  split at hc
  · split at hc
    · exact L_BList hc
    · exact hc.elim
  · split at hc
    · exact L_Bal hc
    · exact hc.elim
  · exact hc.elim
theorem BL.bal_at {m : ML} (hm : gB m) {xs : List (Int × Int)} (h : BL m xs) {i : Nat} (hi : i < xs.length) : bal m xs[i].1 = xs[i].2 :=
  ((h.mem hm xs[i].1 xs[i].2).1 (List.getElem_mem hi)).2
theorem sm_bal {m : ML} (hm : gB m) {xs : List (Int × Int)} (hx : BL m xs) {R : List (List D)} (hR : R = lnR xs) {j z : Int} {i : Nat} (hj : j = i) (hlt : real.cmp .lss j (real.len R) = true) (hz : z = bal m (real.cI [[.int .i64 (real.cI R j 0), .int .i64 (real.cI R j 1)]] 0 0))
    (hb : real.pickB false true (real.cmp .neq z (real.cI [[.int .i64 (real.cI R j 0), .int .i64 (real.cI R j 1)]] 0 1)) = true) : False := by
  have hi := ln_lt hR hj hlt
  subst hR
  have hb : z ≠ real.cI (lnR xs) j 1 := ne_t hb
  have hz : z = bal m (real.cI (lnR xs) j 0) := hz
  rw [(ln_cI hj hi).1, hx.bal_at hm hi] at hz
  rw [(ln_cI hj hi).2] at hb
  exact hb hz
theorem K_same230 (m : ML) (hm : gB m) (xs : List (Int × Int)) (hx : BL m xs) (r : List (List D)) (hr : r = lnR xs) : CallE Try.prog 36 [.ptr 1 0, .d (.imm r)] 2 [(0, .mp .i64 m), (1, .cells [.map 0])]
    (fun v n h => Nd (fun _ => Fin 2 (fun v n h => v = .d (.bool true) ∧ n = 2 ∧ h = [(0, .mp .i64 m), (1, .cells [.map 0])]) v n h)) := by
  refine call_fn tysOK orders (C := B7) B7_ok ⟨[((2, 0), [2]), ((7, 1000000), [0, 2, 4, 6, 8, 10, 12, 14, 16, 18, 20, 22, 24, 26, 28, 30, 32, 34, 36, 38, 40, 42, 46, 48, 45, 50, 52]), ((7, 0), [2, 3])], [], 0⟩ Try.func36 (by kernel_rfl) (by kernel_rfl) ?_
  intro oBin oCmp oWrap oNeg oCom oBnot oBeq oPickB oPickI oPickS oInb oSub2 oMinI oMaxI oSlen oSidx oScat oSsub oScmp oScok oLen oCI oCB oCS oCL oOkR oApp oApok oSub oSetc oRep oMkok oNthI oNthB oNthS oIteI oIteB oIteS oB2s oS2b oAllB oWf oDeq oMlen oMhas oMI oMB oMS oMok oMput oMdel oSgo oSru oSnx ho; cbv
  (repeat (any_goals (first
    | with_reducible refine And.intro ?_ ?_
    | exact True.intro
    | with_reducible exact rfl
    | (with_reducible refine Nd.mk ?_; try dsimp only)
    | (with_reducible refine Nd0.mk ?_; try dsimp only)
    | (with_reducible refine Pz.mk ?_; cbv)
    | (with_reducible refine RgOK.mk ?_; kernel_rfl)
    | (with_reducible refine OrOK.mk ?_; kernel_rfl)
    | (with_reducible refine Al.mk (fun x hx => ?_); cbv)
    | (with_reducible refine hK' _ ?_; clear hK' K'; cbv)
    | (with_reducible refine brA.yes (by first | assumption | exact rfl | (simp only [show oCmp = real.cmp from congrArg Ar.cmp ho, show oBin = real.bin from congrArg Ar.bin ho, show oScmp = real.scmp from congrArg Ar.scmp ho, show oPickB = real.pickB from congrArg Ar.pickB ho, show oBnot = real.bnot from congrArg Ar.bnot ho]; decide)) ?_; cbv)
    | (with_reducible refine brA.no (by first | assumption | exact rfl | (simp only [show oCmp = real.cmp from congrArg Ar.cmp ho, show oBin = real.bin from congrArg Ar.bin ho, show oScmp = real.scmp from congrArg Ar.scmp ho, show oPickB = real.pickB from congrArg Ar.pickB ho, show oBnot = real.bnot from congrArg Ar.bnot ho]; decide)) ?_; cbv)
    | (with_reducible refine bcase (fun hb => ?_) (fun hb => ?_) <;> cbv)
    | (intro K' hK'; cbv))))
  · exact hm
  · cases ho
    obtain ⟨ys, rfl, hy⟩ := hx
    obtain rfl := hy.uniq hm hm ‹BL m xs› (fun _ => rfl)
    subst hr
    exact absurd rfl (ne_t hb)
  obtain ⟨R, hRx⟩ : ∃ R, R = x := ⟨_, rfl⟩
  have hR : R = lnR xs := by
    obtain ⟨ys, h1, hy⟩ := hx
    obtain rfl := hy.uniq hm hm ‹BL m xs› (fun _ => rfl)
    exact hRx.trans h1
  have hxs := ‹BL m xs›
  clear hx hb
  subst hRx
  have hxl : xs.length ≤ 65536 := by have h1 := hxs.p.length_eq; have h2 := hm.len; simp at h1; omega
  refine ⟨fun st => ∃ (i : Nat) (j : Int), j = i ∧ i ≤ xs.length ∧ st = ⟨mkF 50 0 [(0, .ptr 1 0), (1, .d (.imm r)), (15, .d (.imm R)), (16, .d (.int .i64 (oLen R))), (17, .d (.int .i64 j))], 2, [(0, .mp .i64 m), (1, .cells [.map 0])]⟩,
    fun st => ((xs.length : Int) - ctr 17 st).toNat, ⟨[], [], [0, 1, 15, 16, 17], [0, 1], 2⟩, ?_, ?_, ?_⟩
  · cbv
  · exact ⟨0, 0, rfl, Nat.zero_le _, rfl⟩
  rintro st1 ⟨i, j, hj, hi, rfl⟩
  cbv
  (repeat (any_goals (first
    | with_reducible refine And.intro ?_ ?_
    | exact True.intro
    | with_reducible exact rfl
    | (with_reducible refine Nd.mk ?_; try dsimp only)
    | (with_reducible refine Nd0.mk ?_; try dsimp only)
    | (with_reducible refine Pz.mk ?_; cbv)
    | (with_reducible refine RgOK.mk ?_; kernel_rfl)
    | (with_reducible refine OrOK.mk ?_; kernel_rfl)
    | (with_reducible refine Al.mk (fun x hx => ?_); cbv)
    | (with_reducible refine hK' _ ?_; clear hK' K'; cbv)
    | (with_reducible refine brA.yes (by first | assumption | exact rfl | (simp only [show oCmp = real.cmp from congrArg Ar.cmp ho, show oBin = real.bin from congrArg Ar.bin ho, show oScmp = real.scmp from congrArg Ar.scmp ho, show oPickB = real.pickB from congrArg Ar.pickB ho, show oBnot = real.bnot from congrArg Ar.bnot ho]; decide)) ?_; cbv)
    | (with_reducible refine brA.no (by first | assumption | exact rfl | (simp only [show oCmp = real.cmp from congrArg Ar.cmp ho, show oBin = real.bin from congrArg Ar.bin ho, show oScmp = real.scmp from congrArg Ar.scmp ho, show oPickB = real.pickB from congrArg Ar.pickB ho, show oBnot = real.bnot from congrArg Ar.bnot ho]; decide)) ?_; cbv)
    | (with_reducible refine bcase (fun hb => ?_) (fun hb => ?_) <;> cbv)
    | (intro K' hK'; cbv))))
  all_goals ((try clear hK' K'); cases ho; (try simp only [nc1] at *); (try simp only [Int.ofNat_eq_natCast] at *))
  all_goals obtain rfl : r = R := hr.trans hR.symm
  all_goals first
    | omega
    | decide
    | exact hm
    | with_reducible exact inb_lt hj (by assumption)
    | with_reducible exact ln_wf hR
    | with_reducible exact ln_ok hR hj (by assumption)
    | with_reducible exact (ln_k hR hj (by assumption)).1
    | with_reducible exact (ln_k hR hj (by assumption)).2
    | with_reducible exact row1_ok _ _
    | with_reducible exact row1_ok1 _ _
    | exact absurd rfl (ne_t ‹real.cmp .neq (real.cI _ 0 0) _ = true›)
    | exact absurd rfl (ne_t (x := real.cI [[.int .i64 (real.cI r j 0), .int .i64 (real.cI r j 1)]] 0 1) (y := real.cI r j 1) (by assumption))
    | exact (sm_bal hm hxs hR hj (by assumption) ‹_ = bal m _› (by assumption)).elim
    | exact ⟨⟨[], [], [0, 1, 15, 16, 17], [0, 1], 2⟩, rfl, ⟨i + 1, real.bin .add .i64 j 1, addLL hj (have := ln_lt hR hj ‹real.cmp .lss j (real.len r) = true›; by omega), (have := ln_lt hR hj ‹real.cmp .lss j (real.len r) = true›; by omega), rfl⟩, mea hj (ln_lt hR hj ‹real.cmp .lss j (real.len r) = true›) hxl⟩
    | exact ⟨⟨[], [], [0], [0, 1], 2⟩, _, 2, _, rfl, rfl, rfl, rfl, rfl⟩
    | trace_state
def S_same23 (i : Nat) (r : List (List D)) (K : CallK) (n : Nat) (h : Hp) : Prop := pat2 h i fun j m => Nd (fun _ => i < n ∧ j < n ∧ i ≠ j ∧ gB m ∧ ∃ xs, r = lnR xs ∧ BL m xs) ∧ K (.d (.bool true)) n (out2 i j h m)
theorem L_same23 {i n : Nat} {r : List (List D)} {h : Hp} {K : CallK} (hK : S_same23 i r K n h) : CallE Try.prog 36 [.ptr i 0, .d (.imm r)] n h K := by
  obtain ⟨j, m, hg, hg2, ⟨⟨hi, hj, hij, hm, xs, hr, hx⟩⟩, hk⟩ := pat2_elim hK
  refine call_recv2 (CallE.fin (K_same230 m hm xs hx r hr)) rfl hi hj hij hg hg2 ?_
  rintro v n1 h1 ⟨rfl, rfl, rfl⟩ -
  exact hk
end Go.Proofs.Yteakfibolfapiaa.Ab
end
section
namespace Go.Proofs.Yteakfibolfapiaa
open Go.RowKit Go.Sort
set_option linter.unusedVariables false
set_option linter.unusedSimpArgs false

set_option maxHeartbeats 1000000 in
theorem C_may_yes (k : Int) (h1 : 1 ≤ k) (h2 : k ≤ 8) (w : World) : Calls Try.prog 87 #[.int .i64 k] w fun e w' => e = .returned (.bool true) ∧ Below w.heap.size w w' := by
  go_enter Try.func87, Try.ntmps87
  go_wp2_with fail
  go_ret
  exact ⟨rfl, by (repeat (first | with_reducible assumption | (with_reducible exact Below.refl _ _) | ((with_reducible refine Tr.below_alloc ?_ ?_); rotate_left; focus (first | omega | exact Nat.le_refl _)) | (with_reducible refine Tr.below_drew ?_) | (with_reducible refine Tr.below_drewN ?_) | ((with_reducible refine Tr.below_set ?_ ?_); rotate_left; focus (first | omega | (simp; done) | (simp; omega))) | ((with_reducible refine Tr.below_trans ?_ (by assumption) ?_); rotate_left; focus (first | exact Nat.le_refl _ | omega))))⟩

/-- The last so many bytes of a number. -/
def be8 (n : Nat) : List UInt8 := (List.range 8).map fun j => UInt8.ofNat (n / 256 ^ (7 - j))
def BE (n k : Nat) : List UInt8 := (be8 n).drop (8 - k)
theorem be8_len (n : Nat) : (be8 n).length = 8 := by simp [be8]
theorem BE_len (n k : Nat) (hk : k ≤ 8) : (BE n k).length = k := by unfold BE; rw [List.length_drop, be8_len]; omega
theorem be8_at (n j : Nat) (hj : j < 8) : ((be8 n).getD j 0).toNat = n / 256 ^ (7 - j) % 256 := by
  simp [be8, List.getD, hj]
theorem be8_ats (n : Nat) (hn : n < 18446744073709551616) : (((be8 n).getD 7 0).toNat : Int) = n % 256 ∧ (((be8 n).getD 6 0).toNat : Int) = n / 256 % 256 ∧ (((be8 n).getD 5 0).toNat : Int) = n / 65536 % 256 ∧ (((be8 n).getD 4 0).toNat : Int) = n / 16777216 % 256 ∧
    (((be8 n).getD 3 0).toNat : Int) = n / 4294967296 % 256 ∧ (((be8 n).getD 2 0).toNat : Int) = n / 1099511627776 % 256 ∧ (((be8 n).getD 1 0).toNat : Int) = n / 281474976710656 % 256 ∧ (((be8 n).getD 0 0).toNat : Int) = n / 72057594037927936 := by
  refine ⟨?_, ?_, ?_, ?_, ?_, ?_, ?_, ?_⟩ <;> (rw [be8_at _ _ (by omega)]; simp only [Nat.sub_self, Nat.reduceSub, Nat.reducePow, Nat.pow_zero, Nat.div_one]; omega)
def BeAt (n : Nat) (g : Nat) (B : World) (s10 : Value) (wr : World) : Prop :=
  ∃ i : Nat, i ≤ 8 ∧ s10 = .int .i64 i ∧ wr.heap[g]? = some (.cells ((List.range 8).map fun j => if 8 ≤ i + j then Value.int .u8 ((be8 n).getD j 0).toNat else .int .u8 0).toArray 166 (0, 0)) ∧ Below B.heap.size B wr

set_option maxRecDepth 100000 in
set_option maxHeartbeats 8000000 in
theorem C_BePut (n k : Nat) (hn : n < 18446744073709551616) (h1 : 1 ≤ k) (h2 : k ≤ 8) (w : World) :
    Calls Try.prog 78 #[.int .u64 n, .int .i64 k] w fun e w' => e = .returned (.string ⟨(BE n k).toArray⟩) ∧ Below w.heap.size w w' := by
  go_enter Try.func78, Try.ntmps78
  go_wp2_with (go_at_call 87; refine (C_may_yes k (by omega) (by omega) _).mono ?_; rintro e w1 ⟨rfl, hb1⟩)
  go_loopw [10] (fun s10 wr => BeAt n w1.heap.size w s10 wr) (fun s10 _ => 8 - (intOf s10).toNat)
  case atStart => exact ⟨0, by omega, rfl, Tr.blk_new _ _, Tr.below_alloc hb1 (Nat.le_refl _)⟩
  case round =>
    obtain ⟨i, hi, rfl, hg, hB⟩ := hrel
    have BG := Lib.hid hg
    have hlow : w.heap.size ≤ w1.heap.size := hb1.size
    by_cases hlt : i < 8
    · have : i = 0 ∨ i = 1 ∨ i = 2 ∨ i = 3 ∨ i = 4 ∨ i = 5 ∨ i = 6 ∨ i = 7 := by omega
      rcases this with rfl | rfl | rfl | rfl | rfl | rfl | rfl | rfl
      all_goals
        have hg2 := hg
        simp only [List.range, List.range.loop, List.map_cons, List.map_nil, Nat.reduceAdd, Nat.reduceLeDiff, if_true, if_false] at hg2
        have cg := fun o => Tr.cell_blk (o := o) hg2
        have fg := fun o => Tr.frozen_blk (o := o) hg2
        clear hg hg2
        go_wp2_with fail
        go_roundw
        case rel =>
          refine ⟨_, (show (_ : Nat) ≤ 8 from by decide), rfl, ?_, Tr.below_set hB hlow⟩
          have b := BG.out
          obtain ⟨e7, e6, e5, e4, e3, e2, e1, e0⟩ := be8_ats n hn
          simp only [Tr.heap_set_same, b, Option.map_some, Tr.setObj]
          simp only [List.range, List.range.loop, List.map_cons, List.map_nil, Nat.reduceAdd, Nat.reduceLeDiff, if_true, if_false, e7, e6, e5, e4, e3, e2, e1, e0]
          rfl
        case measure => simp [intOf]
    · have hi8 : i = 8 := by omega
      subst hi8
      have hcells : (List.range 8).map (fun j => if 8 ≤ 8 + j then Value.int .u8 ((be8 n).getD j 0).toNat else .int .u8 0) = (be8 n).map fun b => Value.int .u8 b.toNat := by
        rfl
      rw [hcells] at hg
      obtain ⟨q, hq⟩ : ∃ q, q = 8 - k := ⟨_, rfl⟩
      have hq8 : 8 - k = q := hq.symm
      have hqk : q + k = 8 := by omega
      clear hq
      have hconv : ∀ W : World, Below wr.heap.size wr W → (convert 74 9 (.slice (some ⟨w1.heap.size, q, none⟩) k k)).run Try.prog W = .ok (.string ⟨(BE n k).toArray⟩) W := by
        intro W hW
        have hl := BE_len n k h2
        have := Go.run_convert_bytes_back (P := Try.prog) W 74 9 5 ⟨w1.heap.size, q, none⟩ k (BE n k) Try.underlying74 Try.underlying5 Try.underlying9 (fun j hj => by
          rw [show (⟨w1.heap.size, q, none⟩ : Addr).add j = ⟨w1.heap.size, q + j, none⟩ by (unfold Addr.add; split <;> simp_all), Tr.cell_blk (Tr.blk_keep hW hg)]
          have hj8 : q + j < (be8 n).length := by rw [be8_len]; omega
          simp only [List.getElem?_toArray, List.getElem?_map, List.getElem?_eq_getElem hj8, Option.map_some, BE, List.getElem_drop, hq8])
        rwa [hl] at this
      have hsl : (Instr.sliceAt 166 (.pointer (some ⟨w1.heap.size, 0, none⟩)) (some (.int .i64 q)) none none).run Try.prog wr = .ok (.slice (some ⟨w1.heap.size, q, none⟩) k k) wr := by
        have hA : Try.prog.arrayLen 166 = 8 := by kernel_rfl
        have hE : Try.prog.elem 166 = 5 := by kernel_rfl
        rw [run_sliceAt_array_l (P := Try.prog) wr 166 ⟨w1.heap.size, 0, none⟩ (by rw [hA, hE]; exact Try.underlying166) .i64 q (by omega) (by rw [hA]; omega)]
        have hs : (sizeOf 5).run Try.prog wr = .ok 1 wr := by kernel_rfl
        rw [hE, hs, hA]
        simp only [Result.andThen_ok, slicedAt, Int.toNat_natCast]
        rw [if_neg (by omega), show 8 - q = k by omega, show (⟨w1.heap.size, 0, none⟩ : Addr).add (q * 1) = ⟨w1.heap.size, q, none⟩ by (unfold Addr.add; split <;> simp_all)]
      have HG := Lib.hid hg
      have hl8 := Tr.blk_lt hg
      have hcv := hconv wr (Below.refl _ _)
      clear hg hcells hconv BG
      have hk8 : (8 : Int) - k = (q : Int) := by omega
      have hq7 : (q : Int) ≤ 7 := by omega
      clear hq8
      go_wp2_with fail
      go_ret
      exact ⟨rfl, hB⟩

set_option maxRecDepth 100000 in
set_option maxHeartbeats 4000000 in
theorem C_BeFits_yes (n k : Nat) (hn : n < 256 ^ k) (h1 : 1 ≤ k) (h2 : k ≤ 8) (w : World) : Calls Try.prog 74 #[.int .u64 n, .int .i64 k] w fun e w' => e = .returned (.bool true) ∧ Below w.heap.size w w' := by
  have : k = 1 ∨ k = 2 ∨ k = 3 ∨ k = 4 ∨ k = 5 ∨ k = 6 ∨ k = 7 ∨ k = 8 := by omega
  rcases this with rfl | rfl | rfl | rfl | rfl | rfl | rfl | rfl
  all_goals
    simp only [Nat.reducePow] at hn
    go_enter Try.func74, Try.ntmps74
    go_wp2_with (go_at_call 87; refine (C_may_yes _ (by omega) (by omega) _).mono ?_; rintro e w1 ⟨rfl, hb1⟩)
    go_ret
    refine ⟨?_, hb1⟩
    first
    | rfl
    | (congr 2; simp; omega)
    | (congr 2; simp)
    | (congr 2; omega)
end Go.Proofs.Yteakfibolfapiaa
end
section
namespace Go.Proofs.Yteakfibolfapiaa
open Go.RowKit Go.Sort
set_option linter.unusedVariables false
set_option linter.unusedSimpArgs false

theorem BE_zero (n : Nat) : BE n 0 = [] := by unfold BE; rw [List.drop_eq_nil_iff]; rw [be8_len]; omega
theorem BE_succ (n i : Nat) (hi : i < 8) : BE n (i + 1) = UInt8.ofNat (n / 256 ^ i) :: BE n i := by
  unfold BE
  have h : 8 - (i + 1) < (be8 n).length := by rw [be8_len]; omega
  rw [List.drop_eq_getElem_cons h]
  congr 1
  · simp only [be8, List.getElem_map, List.getElem_range]
    congr 3
    omega
  · congr 1
    omega
def R01Inv (n k : Nat) (B : World) (s0 s5 s6 : Value) (wr : World) : Prop :=
  ∃ i : Nat, i ≤ k ∧ s0 = .int .u64 ((n / 256 ^ i : Nat) : Int) ∧ s5 = .string ⟨(BE n i).toArray⟩ ∧ s6 = .int .i64 i ∧ Below B.heap.size B wr

set_option maxRecDepth 100000 in
set_option maxHeartbeats 8000000 in
theorem C_R01Put (n k : Nat) (hn : n < 18446744073709551616) (h1 : 1 ≤ k) (h2 : k ≤ 8) (w : World) :
    Calls Try.prog 73 #[.int .u64 n, .int .i64 k] w fun e w' => e = .returned (.string ⟨(BE n k).toArray⟩) ∧ Below w.heap.size w w' := by
  go_enter Try.func73, Try.ntmps73
  go_wp2_with fail
  go_loopw [0, 5, 6] (fun s0 s5 s6 wr => R01Inv n k w s0 s5 s6 wr) (fun _ _ s6 _ => k - (intOf s6).toNat)
  case atStart => exact ⟨0, by omega, by simp, by rw [BE_zero], rfl, Below.refl _ _⟩
  case round =>
    obtain ⟨i, hi, rfl, rfl, rfl, hB⟩ := hrel
    by_cases hlt : i < k
    · obtain ⟨m, hm⟩ : ∃ m, m = n / 256 ^ i := ⟨_, rfl⟩
      have hms : m < 18446744073709551616 := by rw [hm]; exact Nat.lt_of_le_of_lt (Nat.div_le_self _ _) hn
      have hm2 : n / 256 ^ (i + 1) = m / 256 := by rw [hm, Nat.div_div_eq_div_mul, Nat.pow_succ]
      have hbe : BE n (i + 1) = UInt8.ofNat m :: BE n i := by rw [BE_succ n i (by omega), hm]
      rw [← hm]
      have hconv : (convert 74 9 (.slice (some ⟨wr.heap.size, 0, none⟩) 1 1)).run Try.prog (wr.alloc (.cells #[.int .u8 ((m : Int) % 256)] 5)) = .ok (.string ⟨#[UInt8.ofNat m]⟩) (wr.alloc (.cells #[.int .u8 ((m : Int) % 256)] 5)) := by
        have := Go.run_convert_bytes_back (P := Try.prog) (wr.alloc (.cells #[.int .u8 ((m : Int) % 256)] 5)) 74 9 5 ⟨wr.heap.size, 0, none⟩ 1 [UInt8.ofNat m] Try.underlying74 Try.underlying5 Try.underlying9 (fun j hj => by
          have : j = 0 := by simpa using hj
          subst this
          rw [show (⟨wr.heap.size, 0, none⟩ : Addr).add 0 = ⟨wr.heap.size, 0, none⟩ by (unfold Addr.add; split <;> simp_all), Tr.cell_blk (Tr.blk_new _ _)]
          simp)
        exact this
      have HM := Lib.hid hm; have HM2 := Lib.hid hm2; have HBE := Lib.hid hbe
      clear hm hm2 hbe
      have hSl : (BE n i).length ≤ 8 := by rw [BE_len n i (by omega)]; omega
      generalize hS : BE n i = S at *
      have HS := Lib.hid hS
      clear hS
      have hsz1 : ¬ 9223372036854775807 < (ByteArray.mk #[UInt8.ofNat m]).size + (ByteArray.mk S.toArray).size := by simp only [ByteArray.size, List.size_toArray, List.size_toArray]; simp; omega
      have hadd : (Op.stringOp .add ⟨#[UInt8.ofNat m]⟩ ⟨S.toArray⟩).run Try.prog (wr.alloc (.cells #[.int .u8 ((m : Int) % 256)] 5)) = .ok (.string (⟨#[UInt8.ofNat m]⟩ ++ ⟨S.toArray⟩)) (wr.alloc (.cells #[.int .u8 ((m : Int) % 256)] 5)) := by rw [run_string_add_if, if_neg hsz1]
      go_wp2_with fail
      go_roundw
      case rel =>
        refine ⟨i + 1, by omega, by rw [HM2.out]; rfl, ?_, by go_num, Tr.below_alloc hB (Nat.le_refl _)⟩
        rw [HBE.out]
        congr 1
      case measure => simp [intOf]; omega
    · have hik : i = k := by omega
      subst hik
      go_wp2_with fail
      go_ret
      exact ⟨rfl, hB⟩

def PowInv (k : Nat) (B : World) (s3 s4 : Value) (wr : World) : Prop := ∃ i : Nat, i ≤ k ∧ s3 = .int .u64 ((2 ^ i : Nat) : Int) ∧ s4 = .int .i64 i ∧ Below B.heap.size B wr
set_option maxRecDepth 100000 in
set_option maxHeartbeats 4000000 in
theorem C_R01Pow (k : Nat) (hk : k ≤ 63) (w : World) : Calls Try.prog 86 #[.int .i64 k] w fun e w' => e = .returned (.int .u64 ((2 ^ k : Nat) : Int)) ∧ Below w.heap.size w w' := by
  go_enter Try.func86, Try.ntmps86
  go_wp2_with fail
  go_loopw [3, 4] (fun s3 s4 wr => PowInv k w s3 s4 wr) (fun _ s4 _ => k - (intOf s4).toNat)
  case atStart => exact ⟨0, by omega, rfl, rfl, Below.refl _ _⟩
  case round =>
    obtain ⟨i, hi, rfl, rfl, hB⟩ := hrel
    by_cases hlt : i < k
    · have hle : 2 ^ i ≤ 2 ^ 62 := Nat.pow_le_pow_right (by omega) (by omega)
      have hs : 2 ^ (i + 1) = 2 * 2 ^ i := by rw [Nat.pow_succ]; omega
      generalize hP : 2 ^ i = P at *
      have HS := Lib.hid hs; have HP := Lib.hid hP
      clear hs hP
      have hP2 : (P : Int) ≤ 4611686018427387904 := by omega
      clear hle
      go_wp2_with fail
      go_roundw
      case rel =>
        refine ⟨i + 1, by omega, ?_, by go_num, hB⟩
        rw [HS.out]
        first | rfl | (congr 1; push_cast; omega) | (congr 1; omega)
      case measure => simp [intOf]; omega
    · have hik : i = k := by omega
      subst hik
      go_wp2_with fail
      go_ret
      exact ⟨rfl, hB⟩

set_option maxRecDepth 100000 in
set_option maxHeartbeats 4000000 in
theorem C_R01Fits_yes (n k : Nat) (hn : n < 256 ^ k) (h1 : 1 ≤ k) (h2 : k ≤ 8) (w : World) : Calls Try.prog 72 #[.int .u64 n, .int .i64 k] w fun e w' => e = .returned (.bool true) ∧ Below w.heap.size w w' := by
  by_cases h8 : k = 8
  · subst h8
    go_enter Try.func72, Try.ntmps72
    go_wp2_with fail
    go_ret
    exact ⟨rfl, by (repeat (first | with_reducible assumption | (with_reducible exact Below.refl _ _) | ((with_reducible refine Tr.below_alloc ?_ ?_); rotate_left; focus (first | omega | exact Nat.le_refl _)) | (with_reducible refine Tr.below_drew ?_) | (with_reducible refine Tr.below_drewN ?_) | ((with_reducible refine Tr.below_set ?_ ?_); rotate_left; focus (first | omega | (simp; done) | (simp; omega))) | ((with_reducible refine Tr.below_trans ?_ (by assumption) ?_); rotate_left; focus (first | exact Nat.le_refl _ | omega))))⟩
  · have hp : 256 ^ k = 2 ^ (8 * k) := by rw [show (256 : Nat) = 2 ^ 8 from rfl, ← Nat.pow_mul]
    rw [hp] at hn
    have hC := fun W => C_R01Pow (8 * k) (by omega) W
    generalize hP : 2 ^ (8 * k) = P at *
    have hcast : (((8 * k : Nat)) : Int) = 8 * (k : Int) := by push_cast; rfl
    rw [hcast] at hC
    have HC := Lib.hid hC
    clear hC hP hp hcast
    have hn' : (n : Int) < P := by omega
    go_enter Try.func72, Try.ntmps72
    go_wp2_with (go_at_call 86; refine (HC.out _).mono ?_; rintro e w1 ⟨rfl, hb1⟩)
    go_ret
    refine ⟨?_, hb1⟩
    first
    | rfl
    | (congr 2; simp; omega)
    | (congr 2; simp)
end Go.Proofs.Yteakfibolfapiaa
end
section
namespace Go.Proofs.Yteakfibolfapiaa
open Go.RowKit Go.Sort
set_option linter.unusedVariables false
set_option linter.unusedSimpArgs false

def bcells (bs : List UInt8) : List Value := bs.map fun b => .int .u8 b.toNat
/-- What was written so far. -/
def Wr (w : World) (g : Nat) (bs : List UInt8) : Prop :=
  ∃ sv, w.heap[g]? = some (.cells #[sv, .bool false] 76 (0, 0)) ∧ w.ownsRow (g + 1) 5 1 sv bs.length (bcells bs)
/-- Only the writer and its bytes have changed, and what is new. -/
def ChgW (g : Nat) (w w' : World) : Prop := Below g w w' ∧ ∀ k cs t f, w.heap[k]? = some (.cells cs t f) → k ≠ g → t ≠ 5 → w'.heap[k]? = some (.cells cs t f)
theorem ChgW.trans {g : Nat} {w w1 w2 : World} (h : ChgW g w w1) (k : ChgW g w1 w2) : ChgW g w w2 :=
  ⟨⟨k.1.os.trans h.1.os, k.1.tape.trans h.1.tape, k.1.output.trans h.1.output, Nat.le_trans h.1.size k.1.size, fun j hj => by rw [k.1.block j hj, h.1.block j hj]⟩, fun j cs t f hj hne ht => k.2 j cs t f (h.2 j cs t f hj hne ht) hne ht⟩
theorem ChgW.of_below {g : Nat} {w w' : World} (h : Below w.heap.size w w') (hg : g ≤ w.heap.size) : ChgW g w w' :=
  ⟨⟨h.os, h.tape, h.output, h.size, fun j hj => h.block j (by omega)⟩, fun j cs t f hj hne ht => Tr.blk_keep h hj⟩
theorem Wr.lt {w : World} {g : Nat} {bs : List UInt8} (h : Wr w g bs) : g < w.heap.size := by
  obtain ⟨_, h, _⟩ := h
  exact Tr.blk_lt h
theorem Wr.keep {w w' : World} {g : Nat} {bs : List UInt8} (h : Wr w g bs) (hb : Below w.heap.size w w') : Wr w' g bs := by
  obtain ⟨sv, h1, h2⟩ := h
  exact ⟨sv, Tr.blk_keep hb h1, Tr.ownsRow_keep hb h2⟩
theorem Wr.new (w : World) : Wr (w.alloc (.cells #[.slice none 0 0, .bool false] 76)) w.heap.size [] :=
  ⟨_, Tr.blk_new _ _, by simp [bcells], .inl ⟨by simp, by simp⟩⟩

set_option maxRecDepth 100000 in
set_option maxHeartbeats 4000000 in
theorem C_put (g : Nat) (bs l : List UInt8) (w : World) (h : Wr w g bs) (hlen : bs.length + l.length ≤ 100000000000) :
    Calls Try.prog 77 #[.pointer (some ⟨g, 0, none⟩), .string ⟨l.toArray⟩, .bool true] w fun e w' => e = .returned (.pointer (some ⟨g, 0, none⟩)) ∧ Wr w' g (bs ++ l) ∧ ChgW g w w' := by
  obtain ⟨sv, hb, hown⟩ := h
  have hgl := Tr.blk_lt hb
  have hc := fun o => Tr.cell_blk (o := o) hb
  have hf := fun o => Tr.frozen_blk (o := o) hb
  have HB := Lib.hid hb; have HOWN := Lib.hid hown
  clear hb hown
  have hi0 : (Try.prog.info? 5).map (fun i => (i.zero, i.size, i.bytes)) = some (some (.int .u8 0), 1, 1) := by kernel_rfl
  obtain ⟨i0, hi, hz0, hz1, hz2⟩ := info_parts hi0
  have hown1 : (w.setCell ⟨g, 1, none⟩ (.bool false)).ownsRow (g + 1) 5 1 sv bs.length (bcells bs) := by
    have h := HOWN.out
    refine ⟨h.1, ?_⟩
    rcases h.2 with h0 | ⟨g', cap', cur', hv, hb0, hg, r⟩
    · exact .inl h0
    · exact .inr ⟨g', cap', cur', hv, hb0, by rw [Tr.heap_set_other _ ⟨g, 1, none⟩ _ _ (show g ≠ g' by omega)]; exact hg, r⟩
  have HOWN1 := Lib.hid hown1
  clear hown1
  go_enter Try.func77, Try.ntmps77
  go_wp2_with (at_builtin; refine Go.Lib.wpList_append_own_string _ rfl _ _ 74 9 rfl (g + 1) 5 i0 Try.underlying74 Try.underlying9 hi hz0 hz1 hz2 _ bs.length (bcells bs) rfl HOWN1.out ⟨l.toArray⟩ rfl ?_ ?_ ?_ ?_)
  · unfold maxLen; simp only [ByteArray.size, List.size_toArray]; omega
  · simp only [ByteArray.size, List.size_toArray]; omega
  · simp; omega
  intro v' w1 hown9 hgrow9 hiff9
  have hnb : ∀ k, sv.ownBlock = some k → g < k := fun k hk => by have := Tr.ownsRow_base HOWN.out hk; omega
  have hb1 : w1.heap[g]? = some (.cells #[sv, .bool false] 76 (0, 0)) := by
    rw [hgrow9.block g (by simp; omega) (fun e => by have := hnb g e.symm; omega)]
    rw [Tr.heap_set_same, HB.out]; rfl
  have hty : ∀ k cs t f, w.heap[k]? = some (.cells cs t f) → k ≠ g → t ≠ 5 → w1.heap[k]? = some (.cells cs t f) := by
    intro k cs t f hk hne ht
    have hkl := Tr.blk_lt hk
    rw [hgrow9.block k (by simp; omega) (fun e => ?_), Tr.heap_set_other _ ⟨g, 1, none⟩ _ _ (show g ≠ k from fun e => hne e.symm)]
    · exact hk
    · rcases HOWN.out.2 with ⟨h0, _⟩ | ⟨g', cap', cur', hv, hb0, hg, r⟩
      · rw [h0] at e; cases e
      · rw [hv] at e
        simp only [Value.ownBlock, Option.some.injEq] at e
        subst e
        rw [hg] at hk
        simp only [Option.some.injEq, Obj.cells.injEq] at hk
        exact ht hk.2.1.symm
  have hB1 : Below g w w1 := Below.grown (by (repeat (first | with_reducible assumption | (with_reducible exact Below.refl _ _) | ((with_reducible refine Tr.below_alloc ?_ ?_); rotate_left; focus (first | omega | exact Nat.le_refl _)) | (with_reducible refine Tr.below_drew ?_) | (with_reducible refine Tr.below_drewN ?_) | ((with_reducible refine Tr.below_set ?_ ?_); rotate_left; focus (first | omega | (simp; done) | (simp; omega))) | ((with_reducible refine Tr.below_trans ?_ (by assumption) ?_); rotate_left; focus (first | exact Nat.le_refl _ | omega))))) hgrow9 (by simp; omega) (fun k hk => by have := hnb k hk; omega)
  have hcells : Lib.strCells ⟨l.toArray⟩ = bcells l := by simp [Lib.strCells, bcells]
  rw [hcells] at hown9
  obtain ⟨a', cap', rfl, -⟩ := Tr.ownsRow_cells hown9
  have c1 := fun o => Tr.cell_blk (o := o) hb1
  have f1 := fun o => Tr.frozen_blk (o := o) hb1
  have HB1 := Lib.hid hb1; have HOWN9 := Lib.hid hown9; have HTY := Lib.hid hty; have HNB := Lib.hid hnb
  clear hb1 hown9 hty hgrow9 hiff9 hcells hc hf hnb
  go_wp2_with fail
  go_ret
  refine ⟨rfl, ⟨.slice a' (bs.length + l.length) cap', ?_, ?_⟩, ?_, ?_⟩
  · rw [Tr.heap_set_same, HB1.out]; rfl
  · have h := HOWN9.out
    have e : (bs ++ l).length = bs.length + l.length := by simp
    have e2 : bcells (bs ++ l) = bcells bs ++ bcells l := by simp [bcells]
    rw [e, e2]
    refine ⟨h.1, ?_⟩
    rcases h.2 with h0 | ⟨g', cap2, cur', hv, hb0, hg, r⟩
    · exact .inl h0
    · exact .inr ⟨g', cap2, cur', hv, hb0, by rw [Tr.heap_set_other _ ⟨g, 0, none⟩ _ _ (show g ≠ g' by omega)]; exact hg, r⟩
  · exact Tr.below_set hB1 (Nat.le_refl _)
  · intro k cs t f hk hne ht
    rw [Tr.heap_set_other _ ⟨g, 0, none⟩ _ _ (show g ≠ k from fun e => hne e.symm)]
    exact HTY.out k cs t f hk hne ht

set_option maxHeartbeats 1000000 in
theorem C_put_nil (s : ByteArray) (m : Bool) (w : World) : Calls Try.prog 77 #[.pointer none, .string s, .bool m] w fun e w' => e = .returned (.pointer none) ∧ Below w.heap.size w w' := by
  go_enter Try.func77, Try.ntmps77
  go_wp2_with fail
  go_ret
  exact ⟨rfl, by (repeat (first | with_reducible assumption | (with_reducible exact Below.refl _ _) | ((with_reducible refine Tr.below_alloc ?_ ?_); rotate_left; focus (first | omega | exact Nat.le_refl _)) | (with_reducible refine Tr.below_drew ?_) | (with_reducible refine Tr.below_drewN ?_) | ((with_reducible refine Tr.below_set ?_ ?_); rotate_left; focus (first | omega | (simp; done) | (simp; omega))) | ((with_reducible refine Tr.below_trans ?_ (by assumption) ?_); rotate_left; focus (first | exact Nat.le_refl _ | omega))))⟩
theorem lt64 {n k : Nat} (hn : n < 256 ^ k) (h2 : k ≤ 8) : n < 18446744073709551616 := Nat.lt_of_lt_of_le hn (show 256 ^ k ≤ 256 ^ 8 from Nat.pow_le_pow_right (by omega) h2)
set_option maxRecDepth 100000 in
set_option maxHeartbeats 4000000 in
theorem C_Number (g : Nat) (bs : List UInt8) (n k : Nat) (w : World) (h : Wr w g bs) (hn : n < 256 ^ k) (h1 : 1 ≤ k) (h2 : k ≤ 8) (hlen : bs.length ≤ 1000000000) :
    Calls Try.prog 56 #[.pointer (some ⟨g, 0, none⟩), .int .u64 n, .int .i64 k] w fun e w' => e = .returned (.pointer (some ⟨g, 0, none⟩)) ∧ Wr w' g (bs ++ BE n k) ∧ ChgW g w w' := by
  have hgl := h.lt
  have H := Lib.hid h; have HN := Lib.hid hn
  clear h hn
  go_enter Try.func56, Try.ntmps56
  go_wp2_with (first
    | (go_at_call 78; refine (C_BePut n k (lt64 HN.out h2) h1 h2 _).mono ?_; rintro e w1 ⟨rfl, hb1⟩)
    | (go_at_call 74; refine (C_BeFits_yes n k HN.out h1 h2 _).mono ?_; rintro e w2 ⟨rfl, hb2⟩)
    | (go_at_call 77; refine (C_put g bs (BE n k) _ (Wr.keep H.out (Tr.below_trans hb1 hb2)) (by rw [BE_len n k h2]; omega)).mono ?_; rintro e w3 ⟨rfl, hw3, hc3⟩))
  go_ret
  exact ⟨rfl, hw3, (ChgW.of_below (Tr.below_trans hb1 hb2) (by omega)).trans hc3⟩
set_option maxRecDepth 100000 in
set_option maxHeartbeats 4000000 in
theorem C_Number_nil (n k : Nat) (w : World) (hn : n < 256 ^ k) (h1 : 1 ≤ k) (h2 : k ≤ 8) :
    Calls Try.prog 56 #[.pointer none, .int .u64 n, .int .i64 k] w fun e w' => e = .returned (.pointer none) ∧ Below w.heap.size w w' := by
  have HN := Lib.hid hn
  clear hn
  go_enter Try.func56, Try.ntmps56
  go_wp2_with (first
    | (go_at_call 78; refine (C_BePut n k (lt64 HN.out h2) h1 h2 _).mono ?_; rintro e w1 ⟨rfl, hb1⟩)
    | (go_at_call 74; refine (C_BeFits_yes n k HN.out h1 h2 _).mono ?_; rintro e w2 ⟨rfl, hb2⟩)
    | (go_at_call 77; refine (C_put_nil _ _ _).mono ?_; rintro e w3 ⟨rfl, hb3⟩))
  go_ret
  exact ⟨rfl, Tr.below_trans (Tr.below_trans hb1 hb2) hb3⟩
set_option maxRecDepth 100000 in
set_option maxHeartbeats 4000000 in
theorem C_Signed (g : Nat) (bs : List UInt8) (n : Nat) (w : World) (h : Wr w g bs) (hn : n ≤ 9223372036854775807) (hlen : bs.length ≤ 1000000000) :
    Calls Try.prog 61 #[.pointer (some ⟨g, 0, none⟩), .int .i64 n] w fun e w' => e = .returned (.pointer (some ⟨g, 0, none⟩)) ∧ Wr w' g (bs ++ BE n 8) ∧ ChgW g w w' := by
  have hC := fun W (hW : Wr W g bs) => C_Number g bs n 8 W hW (by omega) (by omega) (by omega) hlen
  have HC := Lib.hid hC; have H := Lib.hid h
  clear hC h
  go_enter Try.func61, Try.ntmps61
  go_wp2_with (go_at_call 56; refine (HC.out _ H.out).mono ?_; rintro e w1 ⟨rfl, hw1, hc1⟩)
  go_ret
  exact ⟨rfl, hw1, hc1⟩
set_option maxRecDepth 100000 in
set_option maxHeartbeats 4000000 in
theorem C_Signed_nil (n : Nat) (w : World) (hn : n ≤ 9223372036854775807) :
    Calls Try.prog 61 #[.pointer none, .int .i64 n] w fun e w' => e = .returned (.pointer none) ∧ Below w.heap.size w w' := by
  have hC := fun W => C_Number_nil n 8 W (by omega) (by omega) (by omega)
  have HC := Lib.hid hC
  clear hC
  go_enter Try.func61, Try.ntmps61
  go_wp2_with (go_at_call 56; refine (HC.out _).mono ?_; rintro e w1 ⟨rfl, hb1⟩)
  go_ret
  exact ⟨rfl, hb1⟩
end Go.Proofs.Yteakfibolfapiaa
end
section
namespace Go.Proofs.Yteakfibolfapiaa
open Go.RowKit Go.Sort
open Tr (Sl Chg)
set_option linter.unusedVariables false
set_option linter.unusedSimpArgs false

/-- The number of bytes. -/
def NUM (l : List UInt8) : Nat := l.foldl (fun n b => 256 * n + b.toNat) 0
theorem NUM_snoc (l : List UInt8) (b : UInt8) : NUM (l ++ [b]) = 256 * NUM l + b.toNat := by simp [NUM]
theorem NUM_take (l : List UInt8) (i : Nat) (h : i < l.length) : NUM (l.take (i + 1)) = 256 * NUM (l.take i) + l[i].toNat := by
  rw [List.take_succ_eq_append_getElem h, NUM_snoc]
theorem NUM_le (l : List UInt8) : ∀ i, NUM (l.take i) < 256 ^ i := by
  intro i
  induction i with
  | zero => simp [NUM]
  | succ i ih =>
    by_cases h : i < l.length
    · rw [NUM_take l i h, Nat.pow_succ]
      have := l[i].toNat_lt
      omega
    · rw [List.take_of_length_le (by omega), ← List.take_of_length_le (i := i) (l := l) (by omega), Nat.pow_succ]
      omega
theorem NUM_lt (l : List UInt8) (k : Nat) (h : l.length ≤ k) : NUM l < 256 ^ k := by
  have := NUM_le l k
  rwa [List.take_of_length_le h] at this
theorem str_take (l : List UInt8) (k : Nat) : (ByteArray.mk l.toArray).extract 0 k = ⟨(l.take k).toArray⟩ := by
  simp [ByteArray.extract_mk]
theorem str_drop (l : List UInt8) (k n : Nat) (h : l.length ≤ n) : (ByteArray.mk l.toArray).extract k n = ⟨(l.drop k).toArray⟩ := by
  simp [ByteArray.extract_mk]
  rw [List.take_of_length_le (by simp; omega)]
theorem str_mid (l : List UInt8) (a b : Nat) : (ByteArray.mk l.toArray).extract a b = ⟨((l.drop a).take (b - a)).toArray⟩ := by
  simp [ByteArray.extract_mk]

theorem or256 (n b : Nat) (hn : n < 72057594037927936) (hb : b < 256) : bits BinOp.or IntKind.u64 (IntKind.u64.wrap ((n : Int) * 256)) (IntKind.u64.wrap (b : Int)) = ((256 * n + b : Nat) : Int) := by
  rw [u64_eq, u64_eq, show (n : Int) * 256 % 18446744073709551616 = ((n * 256 : Nat) : Int) by omega, show (b : Int) % 18446744073709551616 = ((b : Nat) : Int) by omega, u64_or_nat _ _ (by omega) (by omega)]
  congr 1
  rw [show n * 256 = n <<< 8 by rw [Nat.shiftLeft_eq], ← Nat.shiftLeft_add_eq_or_of_lt (by omega), Nat.shiftLeft_eq]
  omega
theorem p256 (i : Nat) (h : i < 8) : 256 ^ i ≤ 72057594037927936 := by
  have := Nat.pow_le_pow_right (n := 256) (by omega) (show i ≤ 7 by omega)
  exact this

set_option maxRecDepth 100000 in
set_option maxHeartbeats 4000000 in
theorem C_BeGet (l : List UInt8) (h : l.length ≤ 8) (w : World) : Calls Try.prog 76 #[.string ⟨l.toArray⟩] w fun e w' => e = .returned (.int .u64 (NUM l)) ∧ Below w.heap.size w w' := by
  have hsz : (ByteArray.mk l.toArray).size = l.length := by simp [ByteArray.size]
  go_enter Try.func76, Try.ntmps76
  go_wp2_with fail
  go_loopw [3, 7] (fun s3 s7 wr => ∃ i : Nat, i ≤ l.length ∧ s3 = .int .u64 (NUM (l.take i)) ∧ s7 = .int .i64 i ∧ Below w.heap.size w wr) (fun _ s7 _ => l.length - (intOf s7).toNat)
  case atStart => exact ⟨0, by omega, by simp [NUM], rfl, Below.refl _ _⟩
  case round =>
    obtain ⟨i, hi, rfl, rfl, hB⟩ := hrel
    by_cases hlt : i < l.length
    · have hn := NUM_le l i
      have hnt := NUM_take l i hlt
      have hp := p256 i (by omega)
      have hbb := l[i].toNat_lt
      obtain ⟨n, hnn⟩ : ∃ n, n = NUM (l.take i) := ⟨_, rfl⟩
      rw [← hnn] at hn hnt ⊢
      have hor := or256 n l[i].toNat (by omega) hbb
      have HN := Lib.hid hnt; have HOR := Lib.hid hor
      clear hnn hnt hn hor hp hbb
      go_wp2_with fail
      refine ⟨⟨i + 1, by omega, ?_, by go_num, hB⟩, by simp [intOf]; omega⟩
      rw [HN.out]
      exact congrArg _ HOR.out
    · have hie : i = l.length := by omega
      subst hie
      go_wp2_with fail
      go_ret
      exact ⟨by simp, hB⟩

end Go.Proofs.Yteakfibolfapiaa
end
section
namespace Go.Proofs.Yteakfibolfapiaa.It
open Go Go.RowKit Go.Maps Go.Sort Go.Shelf
set_option linter.unusedVariables false
set_option linter.unusedSimpArgs false
abbrev ML := List (Int × Value)
/-- An account. -/
structure Acc where
  c : Int
  k : Int
  s : List UInt8
  deriving Inhabited
def acV (c k : Int) (s : List UInt8) : Value := .agg ⟨[.int .i64 c, .int .u8 k, .string ⟨⟨s⟩⟩]⟩
def pr (a : Acc) : Int × Value := (a.c, acV a.c a.k a.s)
abbrev encA (a : Acc) : Array Value := #[.agg #[.int .i64 a.c, .int .u8 a.k, .string ⟨⟨a.s⟩⟩]]
def gC (m : ML) : Prop := ∀ p ∈ m, ∃ k s, p.2 = acV p.1 k s
/-! at the operations -/
section
variable {P : Program} {F : Fence} {n : Nat} {ops : Array Oper} {rest : List Oper} {o : Oper} {a : Act} {w : World} {Q : Exit → Act → World → Prop}
theorem grow_of_below {w w' : World} (h : Below w.heap.size w w') : w.grownBy w' none := ⟨h.os, h.tape, h.output, h.size, fun k hk _ => h.block k hk⟩
theorem grow_of_chg {b : Nat} {w w' : World} (h : Tr.Chg b w w') : w.grownBy w' (some b) := ⟨h.os, h.tape, h.output, h.size, fun k hk hne => h.block k hk (fun e => hne (by rw [e]))⟩
theorem wplIn_range (hg : o.guard = none) (m : Operand) (t k e : TypeId) (hop : o.op = Op.range t m) (ht : P.underlying t = some (.map k e)) (r : Nat) (l : ML) (h : Mk.IMap .i64 w r l) (hm : a.eval m = .map (some r))
    (hK : ∀ w', Mk.IIterC .i64 w' r w.heap.size l none → w.grownBy w' none → Below w.heap.size w w' → wpListIn F n P ops Q rest (a.put o.dst (.pointer (some ⟨w.heap.size, 0, none⟩))) w') : wpListIn F n P ops Q (o :: rest) a w := by
  refine wpListIn_plain hg fun K' hK' => ?_
  obtain ⟨w', hrun, r1, r2⟩ := Mk.run_range h ht
  unfold Oper.wpIn
  refine ⟨?_, ?_⟩
  · simp [Oper.about, hop]
  · rw [Oper.semAt_plain F _ _ (by rw [hop]; intro c hc'; cases hc')]
    simp [execOp, hop, hm, hrun, Result.andThen]
    exact hK' _ _ (hK w' r1.c (grow_of_below r2) r2)
theorem wplIn_next (hg : o.guard = none) (it : Operand) (hop : o.op = Op.next it false) (r i : Nat) (left : ML) (cur : Option (Int × Value)) (h : Mk.IIterC .i64 w r i left cur) (hit : a.eval it = .pointer (some ⟨i, 0, none⟩))
    (hDone : left = [] → wpListIn F n P ops Q rest (a.put o.dst (.tuple #[.bool false])) w)
    (hMore : ∀ (p : Int × Value) (left' : ML) (w' : World), left.Perm (p :: left') → Mk.IIterC .i64 w' r i left' (some p) → w.grownBy w' (some i) →
      wpListIn F n P ops Q rest (a.put o.dst (.tuple #[.bool true, .int .i64 p.1, p.2])) w') : wpListIn F n P ops Q (o :: rest) a w := by
  refine wpListIn_plain hg fun K' hK' => ?_
  unfold Oper.wpIn
  refine ⟨by simp [Oper.about, hop], ?_⟩
  rw [Oper.semAt_plain F _ _ (by rw [hop]; intro c hc'; cases hc')]
  rcases Mk.run_next (P := P) h.it o.type with ⟨h0, hrun⟩ | ⟨p, left', w', h1, hrun, h2, ⟨h3, -⟩, -⟩
  · simp [execOp, hop, hit, hrun, Result.andThen]
    exact hK' _ _ (hDone h0)
  · simp [execOp, hop, hit, hrun, Result.andThen]
    exact hK' _ _ (hMore p left' w' h1 h2 (grow_of_chg h3))
theorem wplIn_entry (hg : o.guard = none) (it : Operand) (hop : o.op = Op.entry it) (r i : Nat) (left : ML) (p : Int × Value) (h : Mk.IIterC .i64 w r i left (some p)) (hit : a.eval it = .pointer (some ⟨i, 0, none⟩))
    (hK : wpListIn F n P ops Q rest (a.put o.dst (.tuple #[.int .i64 p.1, p.2])) w) : wpListIn F n P ops Q (o :: rest) a w := by
  refine wpListIn_plain hg fun K' hK' => ?_
  unfold Oper.wpIn
  refine ⟨by simp [Oper.about, hop], ?_⟩
  rw [Oper.semAt_plain F _ _ (by rw [hop]; intro c hc'; cases hc')]
  simp [execOp, hop, hit, h.entry P, Result.andThen]
  exact hK' _ _ hK
end
theorem IIterC.walks {w w' : World} {r i : Nat} {left : ML} {cur : Option (Int × Value)} (hk : KeepsWalks w w') (h : Mk.IIterC .i64 w r i left cur) : Mk.IIterC .i64 w' r i left cur := by
  obtain ⟨E, c, s, h1, h2, h3⟩ := h
  exact ⟨E, c, s, hk.same r _ h1 rfl, hk.same i _ h2 rfl, h3⟩
theorem IIterC.grown {w w' : World} {r i : Nat} {left : ML} {cur : Option (Int × Value)} {row : Option Nat} (hg : w.grownBy w' row) (h : Mk.IIterC .i64 w r i left cur) (hr : some r ≠ row) (hi : some i ≠ row) : Mk.IIterC .i64 w' r i left cur := by
  obtain ⟨E, c, s, h1, h2, h3⟩ := h
  exact ⟨E, c, s, (hg.block r (Tr.blk_lt h1) hr).trans h1, (hg.block i (Tr.blk_lt h2) hi).trans h2, h3⟩
theorem IIterC.iter_walk {w : World} {r i : Nat} {left : ML} {cur : Option (Int × Value)} (h : Mk.IIterC .i64 w r i left cur) : ∃ o : Obj, w.heap[i]? = some o ∧ o.isWalk = true := by
  obtain ⟨E, c, s, h1, h2, h3⟩ := h
  exact ⟨_, h2, rfl⟩
set_option maxRecDepth 100000 in
set_option maxHeartbeats 1000000 in
/-- The iterator, for every loop body. -/
theorem values1 (F : Fence) (n : Nat) (hf : F.fn 65) (hro : F.round = none) (hn : 1 ≤ n) (l Bm b : Nat) (m : ML) (hm0 : gC m) (J Jx : List Acc → World → Prop)
    (hY : ∀ pre x W, J pre W → pre.length < m.length → YieldAt F (n - 1) Try.prog l (encA x) W fun e W' => (e = .returned (.bool true) ∧ J (pre ++ [x]) W' ∧ KeepsWalks W W') ∨ (e = .returned (.bool false) ∧ Jx (pre ++ [x]) W'))
    (W : World) (hJ : AbidesFrom W.heap.size J) (hm : W.cell? ⟨Bm, 0, none⟩ = some (.map (some b))) (hown : Mk.IMap .i64 W b m) (h0 : J [] W) :
    CallsIn F n Try.prog 65 #[.func (.yield l) #[] #[], .pointer (some ⟨Bm, 0, none⟩)] W fun e W' => (∃ v, e = .returned v) ∧ ((∃ xs : List Acc, (xs.map pr).Perm m ∧ J xs W') ∨ (∃ pre : List Acc, True ∧ Jx pre W')) := by
  refine callsIn_of_wp Try.func65 rfl hf ?_ hro
  simp only [Try.ntmps65, List.size_toArray, List.length_cons, List.length_nil, Nat.reduceAdd, Nat.reduceSub, Array.replicate_succ, Array.replicate_zero, List.push_toArray, List.append_toArray, List.nil_append, List.cons_append]
  gi_wp2_with (first
    | (gi_at_range; refine wplIn_range rfl _ 96 _ _ rfl Try.underlying96 b m hown rfl ?_; intro w0 hrg0 hg0 hb0)
    | gi_in)
  go_frame
  gi_loopw [4] (fun _ wr => ∃ (left : ML) (xs : List Acc) (cur : Option (Int × Value)), Mk.IIterC .i64 wr b W.heap.size left cur ∧ m.Perm (xs.map pr ++ left) ∧ J xs wr) (fun _ wr => Mk.itLeft wr W.heap.size)
  case atStart =>
    exact ⟨m, [], none, hrg0, List.Perm.refl _, hJ [] W w0 none h0 hg0 (fun r e => by cases e)⟩
  case round =>
    obtain ⟨left, xs, cur, hrg, hP, hJs⟩ := hrel
    gi_wp2_with (first
      | (gi_at_next; refine wplIn_next rfl _ rfl b W.heap.size left cur hrg rfl ?_ ?_)
      | gi_in)
    · intro h0
      subst h0
      gi_wp2
      go_end0
      exact ⟨⟨_, rfl⟩, .inl ⟨xs, by simpa using hP.symm, hJs⟩⟩
    · intro key val left' w2 hperm hrg2 hg2
      have hJ2 : J xs w2 := hJ xs wr w2 (some W.heap.size) hJs hg2 (fun r e => by cases e; exact ⟨Nat.le_refl _, IIterC.iter_walk hrg⟩)
      have hpm : (key, val) ∈ m := hP.mem_iff.2 (by simp [hperm.mem_iff])
      obtain ⟨kd, nm, hv⟩ := hm0 (key, val) hpm
      have hv : val = acV key kd nm := hv
      have hlen : xs.length < m.length := by
        have h1 := hP.length_eq
        have h2 := hperm.length_eq
        simp at h1 h2
        omega
      subst hv
      have hen : (Instr.entry (.pointer (some ⟨W.heap.size, 0, none⟩))).run Try.prog w2 = .ok (.tuple #[.int .i64 key, .agg #[.int .i64 key, .int .u8 kd, .string ⟨⟨nm⟩⟩]]) w2 := hrg2.entry Try.prog
      have hg3 : w2.grownBy (w2.alloc (.cells #[.int .i64 key, .int .u8 kd, .string ⟨⟨nm⟩⟩] 31)) none := grow_of_below ((Below.refl _ w2).alloc (Nat.le_refl _) _)
      have hJ3 := hJ xs w2 _ none hJ2 hg3 (fun r e => by cases e)
      have hrg3 := IIterC.grown hg3 hrg2 (by simp) (by simp)
      obtain ⟨fn, tmps, assign, body, hy0, hR⟩ := hY xs ⟨key, kd, nm⟩ _ hJ3 hlen
      have hy : (Instr.yield l #[.agg #[.int .i64 key, .int .u8 kd, .string ⟨⟨nm⟩⟩]]).run Try.prog (w2.alloc (.cells #[.int .i64 key, .int .u8 kd, .string ⟨⟨nm⟩⟩] 31)) = .ok (.round l fn tmps assign body) (w2.alloc (.cells #[.int .i64 key, .int .u8 kd, .string ⟨⟨nm⟩⟩] 31)) := hy0
      clear hy0
      have hP2 : m.Perm ((xs ++ [(⟨key, kd, nm⟩ : Acc)]).map pr ++ left') := by
        refine hP.trans ?_
        rw [List.map_append, List.append_assoc]
        exact List.Perm.append_left _ hperm
      have hll := hperm.length_eq
      unfold acV
      gi_wp2
      refine hR.mono ?_
      rintro e W4 (⟨rfl, hJ4, hk4⟩ | ⟨rfl, hJx4⟩)
      · have hrg4 := IIterC.walks hk4 hrg3
        gi_wp2
        go_roundw
        case rel => exact ⟨left', xs ++ [⟨key, kd, nm⟩], _, hrg4, hP2, hJ4⟩
        case measure =>
          rw [hrg4.it.left_eq, hrg.it.left_eq, hll]
          simp
      · gi_wp2
        refine bodyPost_ret (results_none rfl _ _ _) rfl ?_
        exact ⟨⟨_, rfl⟩, .inr ⟨_, trivial, hJx4⟩⟩
/-- What maps.Values hands back gives all entries. -/
theorem values_stops (F : Fence) (n : Nat) (hf : F.fn 65) (hro : F.round = none) (hn : 1 ≤ n) (Bm b : Nat) (m : ML) (hm0 : gC m) (w : World) (hBm : Bm < w.heap.size)
    (hm : w.cell? ⟨Bm, 0, none⟩ = some (.map (some b))) (hown : Mk.IMap .i64 w b m) :
    SeqStopsK F n Try.prog 65 #[.pointer (some ⟨Bm, 0, none⟩)] encA KeepsWalks (fun xs => (xs.map pr).Perm m) (fun _ => True) m.length w := fun l J Jx W hW hJ _ hY h0 =>
  values1 F n hf hro hn l Bm b m hm0 J Jx hY W hJ ((hW.cell (p := ⟨Bm, 0, none⟩) hBm).trans hm) (hown.keep hW) h0
end Go.Proofs.Yteakfibolfapiaa.It
end
section
namespace Go.Proofs.Yteakfibolfapiaa.It
open Go Go.RowKit Go.Maps Go.Sort Go.Shelf
attribute [local go_sem] Oper.semAt_some
set_option linter.unusedVariables false
set_option linter.unusedSimpArgs false
def cellsA (xs : List Acc) : List Value := xs.flatMap fun a => [.int .i64 a.c, .int .u8 a.k, .string ⟨⟨a.s⟩⟩]
theorem Try.infoAcc : (Try.prog.info? 31).map (fun i => (i.zero, i.size, i.bytes)) = some (some (.agg #[.int .i64 0, .int .u8 0, .string ⟨#[]⟩]), 3, 32) := by kernel_rfl
theorem cells_new3 (w : World) (x y z : Value) (t : TypeId) : ∀ (j : Nat) (u : Value), [x, y, z][j]? = some u → (w.alloc (.cells #[x, y, z] t)).cell? ((⟨w.heap.size, 0, none⟩ : Addr).add j) = some u := by
  intro j u hj
  match j, hj with
  | 0, hj => simp at hj; subst hj; simp [Addr.add]
  | 1, hj => simp at hj; subst hj; simp [Addr.add]
  | 2, hj => simp at hj; subst hj; simp [Addr.add]
theorem walks_of {W W' : World} (h : KeepsOthers W W') : KeepsWalks W W' := ⟨h.size, fun k o hk ho => h.same k o hk (by cases o <;> first | rfl | cases ho)⟩
theorem cellsA_snoc (pre : List Acc) (x : Acc) : cellsA (pre ++ [x]) = cellsA pre ++ [.int .i64 x.c, .int .u8 x.k, .string ⟨⟨x.s⟩⟩] := by simp [cellsA]
/-- What stands between two rounds. -/
def Mid (w : World) (B : Nat) (pre : List Acc) (W : World) : Prop :=
  (∃ v, Boxed W B 32 v ∧ W.ownsRow w.heap.size 31 3 v pre.length (cellsA pre) ∧ (v = .slice none 0 0 ↔ pre = [])) ∧ Below w.heap.size w W
theorem mid_own (w : World) (B D : Nat) (hD : w.heap.size ≤ D) : OwnFrom D (Mid w B) :=
  OwnFrom.and (Own.from (holdsRow_own w.heap.size B 32 31 3 (fun pre : List Acc => pre.length) cellsA (fun pre v => v = .slice none 0 0 ↔ pre = [])) _) (ownFrom_below (Nat.le_refl _) hD)
set_option maxRecDepth 100000 in
set_option maxHeartbeats 2000000 in
theorem append_seq (F : Fence) (n : Nat) (hf : F.fn 81) (hg : F.fn 65) (hro : F.round = none) (hn : 2 ≤ n) (Bm b : Nat) (m : ML) (hm0 : gC m) (hml : m.length ≤ 1000) (w : World) (hBm : Bm < w.heap.size)
    (hm : w.cell? ⟨Bm, 0, none⟩ = some (.map (some b))) (hown : Mk.IMap .i64 w b m) :
    CallsIn F n Try.prog 81 #[.slice none 0 0, .func (.func 65) #[] #[.pointer (some ⟨Bm, 0, none⟩)]] w fun e w' =>
      ∃ (v : Value) (xs : List Acc), e = .returned v ∧ (xs.map pr).Perm m ∧ w'.ownsRow w.heap.size 31 3 v xs.length (cellsA xs) ∧ (v = .slice none 0 0 ↔ xs = []) ∧ Below w.heap.size w w' := by
  refine callsIn_of_wp_marks Try.func81 rfl hf ?_ hro
  simp only [Try.ntmps81, List.size_toArray, List.length_cons, List.length_nil, Nat.reduceAdd, Nat.reduceSub, Array.replicate_succ, Array.replicate_zero, List.push_toArray, List.append_toArray, List.nil_append, List.cons_append]
  gi_wp2
  have hseq := values_stops F (n - 1) hg hro (by omega) Bm b m hm0 w hBm hm hown
  have hB : Boxed (w.alloc (Obj.cells #[.slice none 0 0] 32)) w.heap.size 32 (.slice none 0 0) := Boxed.new _ _ _
  have hb0 : Below w.heap.size w (w.alloc (Obj.cells #[.slice none 0 0] 32)) := (Below.refl _ w).alloc (Nat.le_refl _) _
  have hsz : (w.alloc (Obj.cells #[.slice none 0 0] 32)).heap.size = w.heap.size + 1 := by simp
  generalize w.alloc (Obj.cells #[.slice none 0 0] 32) = w1 at *
  refine wpIn_rangeFunc_ownH hro (by omega) (gf := 65) (lb := #[.pointer (some ⟨Bm, 0, none⟩)]) rfl hg (enters_of Try.func65 (by kernel_rfl) rfl)
    hseq walksK_t walksK_b hb0 (fun _ => rfl) (Mid w w.heap.size) (fun _ _ _ => False) (mid_own w _ _ (by omega)) (fun _ => (Own.from (fun _ _ _ _ h => h.elim) _)) ⟨⟨_, hB, ⟨rfl, .inl ⟨rfl, rfl⟩⟩, by simp⟩, hb0⟩
    (fun x a' W => ∃ Bx, W.heap[Bx]? = some (.cells #[.int .i64 x.c, .int .u8 x.k, .string ⟨⟨x.s⟩⟩] 31 (0, 0)) ∧ a' = { tmps := #[.slice none 0 0, .func (.func 65) #[] #[.pointer (some ⟨Bm, 0, none⟩)], .pointer (some ⟨w.heap.size, 0, none⟩), undef, .slice none 0 0, .pointer (some ⟨Bx, 0, none⟩), .func (.func 65) #[] #[.pointer (some ⟨Bm, 0, none⟩)], .agg #[.int .i64 x.c, .int .u8 x.k, .string ⟨⟨x.s⟩⟩], undef, undef, undef, undef, undef], defers := [] }) ?hAx ?assign ?body ?done ?stop
  case hAx =>
    rintro x a' s X Y row ⟨Bx, hx, rfl⟩ hgr hrow
    refine ⟨Bx, (hgr.block Bx (Array.getElem?_eq_some_iff.1 hx).1 (fun e' => ?_)).trans hx, rfl⟩
    obtain ⟨-, o, ho, hc⟩ := hrow Bx e'.symm
    rw [hx] at ho; cases ho; cases hc
  case assign =>
    rintro l pre x W K hi hK
    gi_wp2
    refine hK _ _ ((KeepsOthers.alloc _ _).from _) (KeepsWalks.alloc _ _) ((mid_own w _ w1.heap.size (by omega)).alloc _ hi) ⟨W.heap.size, World.alloc_heap_new W _, rfl⟩
  case body =>
    rintro l pre x a' W hl ⟨r, hr⟩ ⟨⟨v, hv, hrow, hnil⟩, hbW⟩ ⟨Bx, hx, rfl⟩ hlen
    have hv0 := hv.cell
    have hx0 : W.cell? ⟨Bx, 0, none⟩ = some (.int .i64 x.c) := by simp [World.cell?, hx]
    have hx1 : W.cell? ⟨Bx, 1, none⟩ = some (.int .u8 x.k) := by simp [World.cell?, hx]
    have hx2 : W.cell? ⟨Bx, 2, none⟩ = some (.string ⟨⟨x.s⟩⟩) := by simp [World.cell?, hx]
    obtain ⟨i0, hi, hz0, hz1, hz2⟩ := info_parts Try.infoAcc
    have hle : w.heap.size ≤ W.heap.size := hbW.size
    have hne : 32 ≠ 31 := by decide
    gi_wp2_with (first
      | (gi_at_builtin; refine wpListIn_append_own _ rfl _ _ 32 rfl w.heap.size 31 i0 (.agg #[.int .i64 0, .int .u8 0, .string ⟨#[]⟩]) 3 32 Try.underlying32 hi hz0 hz1 hz2 rfl (by decide) _ _ _ rfl (hrow.alloc _) ⟨W.heap.size, 0, none⟩ 1 1 [.int .i64 x.c, .int .u8 x.k, .string ⟨⟨x.s⟩⟩] rfl rfl (cells_new3 _ _ _ _ _) (by simp [Value.oneCell']) (by simp [maxLen]; omega) (by omega) (by simp; omega) ?_; intro v' w3 hown' hg3 hnil3
         obtain ⟨k1, k2, k3, k4, k5⟩ := Boxed.appended hv hne hrow hle (Nat.le_refl _) hown' hg3
         have hc3 := k1.cell
         have hf3 := k1.frozen
         obtain ⟨g', cap', cur', rfl, hbase', hgb', hr1, hr2, hr3, hr4⟩ : ∃ g' cap' cur', v' = .slice (some ⟨g', 0, none⟩) (pre.length + 1) cap' ∧ w.heap.size ≤ g' ∧ w3.heap[g']? = some (.cells cur' 31 (0, 0)) ∧ pre.length + 1 ≤ cap' ∧ cap' ≤ maxLen ∧ cur'.size = cap' * 3 ∧ cur'.toList.take ((pre.length + 1) * 3) = cellsA pre ++ [.int .i64 x.c, .int .u8 x.k, .string ⟨⟨x.s⟩⟩] := by
           rcases hown'.2 with ⟨_, h0⟩ | h'
           · exact absurd h0 (by omega)
           · exact h'
         go_frame)
      | gi_in)
    exact ⟨k4.from _, walks_of k4, ⟨_, k2, by rw [cellsA_snoc, List.length_append]; exact k3, by simp⟩, hbW.trans k5⟩
  case done =>
    rintro D xs W hD hS ⟨⟨v, hv, hrow, hnil⟩, hbW⟩ hK
    have hv0 := hv.cell
    gi_wp2
    refine ⟨by simp, .inl ⟨_, _, rfl, run_takeDeferred hK, ?_⟩⟩
    have hM : Mid w w.heap.size xs (W.putObj D (.deferred none)) := (mid_own w w.heap.size w1.heap.size (by omega)).putObj _ ⟨⟨v, hv, hrow, hnil⟩, hbW⟩ hD hK rfl
    have hv' : Boxed (W.putObj D (.deferred none)) w.heap.size 32 v := hv.kept (grownBy_putObj' W D _) (fun e => by
      cases e
      rw [show W.heap[w.heap.size]? = _ from hv] at hK
      cases hK)
    obtain ⟨⟨v2, hv2, hrow2, hnil2⟩, hb2⟩ := hM
    have e := (show _ = _ from hv2).symm.trans hv'
    simp only [Option.some.injEq, Obj.cells.injEq, Array.mk.injEq, List.cons.injEq, and_true] at e
    subst e
    exact ⟨_, results_tmp rfl _ _ _, v2, xs, rfl, hS, hrow2, hnil2, hb2⟩
  case stop =>
    rintro D c pre W hD _ h
    exact h.elim
end Go.Proofs.Yteakfibolfapiaa.It
end
section
namespace Go.Proofs.Yteakfibolfapiaa.It
open Go Go.RowKit Go.Maps Go.Sort Go.Shelf
set_option linter.unusedVariables false
set_option linter.unusedSimpArgs false
def encL (a : Acc) : List Value := [.int .i64 a.c, .int .u8 a.k, .string ⟨⟨a.s⟩⟩]
set_option maxHeartbeats 1000000 in
/-- The comparison: by the codes; two blocks are laid. -/
theorem closure (x y : Acc) (W : World) : Calls Try.prog 44 #[.agg #[.int .i64 x.c, .int .u8 x.k, .string ⟨⟨x.s⟩⟩], .agg #[.int .i64 y.c, .int .u8 y.k, .string ⟨⟨y.s⟩⟩]] W fun e w' => e = .returned (.int .i64 (Lib.compareInt x.c y.c)) ∧ ∃ q os', w' = grow (W.drewN q) os' := by
  have hcon := fun W' => Try.cmp_Compare_int x.c y.c W'
  generalize Lib.compareInt x.c y.c = r at hcon ⊢
  go_enter Try.func44, Try.ntmps44
  go_wp2_with (go_at_call 45; refine (hcon _).mono ?_; rintro e w' ⟨rfl, rfl⟩)
  go_ret
  exact ⟨rfl, 0, _, by rw [alloc_eq_grow, alloc_eq_grow, grow_grow]; rfl⟩
theorem cmpLays (blk off size : Nat) (w : World) : CmpLays Try.prog 44 #[] encL 3 (fun x y => Lib.compareInt x.c y.c) blk off size w :=
  fun _ _ _ _ x y => closure x y _
theorem ltC (x y : Acc) : ltOf (fun x y : Acc => Lib.compareInt x.c y.c) x y = decide (x.c < y.c) := by
  unfold ltOf Lib.compareInt
  by_cases h1 : x.c < y.c
  · simp [h1]
  · by_cases h2 : y.c < x.c <;> simp [h1, h2]
theorem swoC : SWO (ltOf fun x y : Acc => Lib.compareInt x.c y.c) where
  irrefl x := by rw [ltC]; simp
  trans x y z h1 h2 := by rw [ltC] at *; simp at *; omega
  ntrans x y z h1 h2 := by rw [ltC] at *; simp at *; omega
set_option maxRecDepth 100000 in
set_option maxHeartbeats 1000000 in
theorem collect (Bm b : Nat) (m : ML) (hm0 : gC m) (hml : m.length ≤ 1000) (w : World) (hBm : Bm < w.heap.size) (hm : w.cell? ⟨Bm, 0, none⟩ = some (.map (some b))) (hown : Mk.IMap .i64 w b m) :
    Calls Try.prog 63 #[.func (.func 65) #[] #[.pointer (some ⟨Bm, 0, none⟩)]] w fun e w' =>
      ∃ (v : Value) (xs : List Acc), e = .returned v ∧ (xs.map pr).Perm m ∧ w'.ownsRow w.heap.size 31 3 v xs.length (cellsA xs) ∧ (v = .slice none 0 0 ↔ xs = []) ∧ Below w.heap.size w w' := by
  have hap := callsIn_wide.1 (append_seq Fence.wide 9 trivial trivial rfl (by omega) Bm b m hm0 hml w hBm hm hown)
  go_enter Try.func63, Try.ntmps63
  go_wp2_with (go_at_call 81; refine hap.mono ?_; rintro e w' ⟨v, xs, rfl, h1, h2, h3, h4⟩)
  go_ret
  exact ⟨v, xs, rfl, h1, h2, h3, h4⟩
set_option maxHeartbeats 1000000 in
theorem values (b : Nat) (w : World) : Calls Try.prog 43 #[.map (some b)] w fun e w' =>
    e = .returned (.func (.func 65) #[] #[.pointer (some ⟨w.heap.size, 0, none⟩)]) ∧ w' = w.alloc (.cells #[.map (some b)] 96) := by
  go_enter Try.func43, Try.ntmps43
  go_wp2
  go_ret
  exact ⟨rfl, rfl⟩
end Go.Proofs.Yteakfibolfapiaa.It
end
