/- Several texts in one: Rb5, Ent3, Ent4, WalkBooksApply. -/
import Derived.Test.YteakfibolfapiaaTrPk18
import Derived.Test.YteakfibolfapiaaTrPk9
import Derived.Test.YteakfibolfapiaaTrArgs
import Derived.Shelf.Abstract
import Derived.LaidLaws
import Derived.Test.YteakfibolfapiaaTrArgs2
import Derived.Test.YteakfibolfapiaaTrSayBooksApply
section
namespace Go.Proofs.Yteakfibolfapiaa.Ab
open Go Go.RowKit Go.Sort
set_option linter.unusedVariables false
set_option linter.unusedSimpArgs false
set_option maxRecDepth 100000
set_option maxHeartbeats 8000000
def gLn (r : List D) : Prop := ∃ zs, r = [.imm (lnR zs)] ∧ ∀ q ∈ zs, I64 q.1 ∧ I64 q.2
theorem ll_wf {l : List (List D)} (h : ∀ r ∈ l, gLn r) : real.wf l 1 = true := by
  simp only [real, rWf, List.all_eq_true]
  intro r hr
  obtain ⟨z, rfl, -⟩ := h r hr
  rfl
theorem ll_cut {l : List (List D)} (N : Nat) (h : ∀ r ∈ l, gLn r) : real.sub2 0 (real.minI (real.len l) N) (real.len l) = true ∧ (real.sub l 0 (real.minI (real.len l) N)).length ≤ N ∧ ∀ r ∈ real.sub l 0 (real.minI (real.len l) N), gLn r := by
  simp only [real]
  refine ⟨decide_eq_true (by omega), by simp; omega, fun r hr => h r (List.mem_of_mem_take (List.mem_of_mem_drop hr))⟩
theorem ll_get {l : List (List D)} (h : ∀ r ∈ l, gLn r) {j : Int} {i : Nat} (hj : j = i) (hi : i < l.length) : ∃ zs, l.getD i [] = [.imm (lnR zs)] ∧ ∀ q ∈ zs, I64 q.1 ∧ I64 q.2 := by
  rw [List.getD, List.getElem?_eq_getElem hi]
  exact h _ (List.getElem_mem _)
theorem ll_lt {l : List (List D)} {j : Int} {i : Nat} (hj : j = i) (h : real.cmp .lss j (real.len l) = true) : i < l.length := by
  simp only [real, rCmp, decide_eq_true_eq] at h; omega
theorem ll_ok {l : List (List D)} (h : ∀ r ∈ l, gLn r) {j : Int} {i : Nat} (hj : j = i) (hb : real.cmp .lss j (real.len l) = true) : real.okR l j 0 [.sl] = true := by
  have hi := ll_lt hj hb
  obtain ⟨zs, e, -⟩ := ll_get h hj hi
  subst hj
  simp only [real, Int.toNat_natCast, e]
  simp [rowOk, kdOk, hi]
theorem ll_cL {l : List (List D)} (h : ∀ r ∈ l, gLn r) {j : Int} {i : Nat} (hj : j = i) (hb : real.cmp .lss j (real.len l) = true) : ∃ zs, real.cL l j 0 = lnR zs ∧ ∀ q ∈ zs, I64 q.1 ∧ I64 q.2 := by
  have hi := ll_lt hj hb
  obtain ⟨zs, e, hz⟩ := ll_get h hj hi
  subst hj
  refine ⟨zs, ?_, hz⟩
  simp only [real, rCell, Int.toNat_natCast, e]
  rfl
theorem BL.of_LB {m : ML} (hm : gB m) {ys : List (Int × Int)} (h : LB ys (bal m)) : BL m ys := by
  refine ⟨?_, h.s⟩
  have hn : m.Nodup := by
    have := hm.nd
    rw [List.Nodup, List.pairwise_map] at this
    exact this.imp fun h e => h (congrArg Prod.fst e)
  have hy : (ys.map Bl.prE).Nodup := by
    rw [List.Nodup, List.pairwise_map]
    refine h.s.imp fun hab e => ?_
    have := congrArg Prod.fst e
    simp [Bl.prE] at this
    omega
  refine (List.perm_ext_iff_of_nodup hy hn).2 fun p => ?_
  obtain ⟨k, v⟩ := p
  constructor
  · intro hp
    obtain ⟨q, hq, e⟩ := List.mem_map.1 hp
    obtain ⟨a, b⟩ := q
    obtain ⟨rfl, rfl⟩ : a = k ∧ v = .int .i64 b := by
      simp only [Bl.prE, Prod.mk.injEq] at e
      exact ⟨e.1, e.2.symm⟩
    obtain ⟨h1, h2⟩ := (h.m _ _).1 hq
    rw [bal_look hm] at h2
    cases hl : Mk.look m a with
    | none => rw [hl] at h2; exact absurd h2.symm h1
    | some u =>
      have h3 := look_in hl
      obtain ⟨z, e2, -⟩ := hm.h _ h3
      have e2 : u = .int .i64 z := e2
      subst e2
      rw [hl] at h2
      have h2 : z = b := h2
      subst h2
      exact h3
  · intro hp
    obtain ⟨z, e2, hz, -⟩ := hm.h _ hp
    have e2 : v = .int .i64 z := e2
    subst e2
    exact List.mem_map.2 ⟨(k, z), (h.m _ _).2 ⟨hz, bal_in hm hp⟩, rfl⟩
theorem lbal_eq {m : ML} (hm : gB m) {xs : List (Int × Int)} (h : BL m xs) : lbal xs = bal m := funext fun k => (LB.of hm h).bal k
theorem BL.LBl {m : ML} (hm : gB m) {xs : List (Int × Int)} (h : BL m xs) : LB xs (lbal xs) := (LB.of hm h).congr fun k => ((LB.of hm h).bal k).symm
/-- What both Applys tell. -/
theorem ap_all {m m' : ML} {xs qs ys : List (Int × Int)} {e e' : Int} (hm : gB m) (hx : BL m xs) (h : AppR m qs e m') (h' : RApp xs qs (lbal xs) e' ys) : e = e' ∧ gB m' ∧ BL m' ys := by
  rw [lbal_eq hm hx] at h'
  have ht : ∀ k, rtot (bal m) qs k = tot m qs k := fun k => rfl
  have hg := h.g hm
  refine (fun (hB : BL m' ys) => ⟨(app_same hm hx h h' hB).1, hg, hB⟩) ?_
  rcases h with ⟨rfl, rfl, h1⟩ | ⟨rfl, rfl, h1, q, hq, h2⟩ | ⟨rfl, h1, h2, h3⟩
  · rcases h' with ⟨rfl, rfl, -⟩ | ⟨-, -, h4, -⟩ | ⟨-, h4, -⟩
    · exact hx
    · exact absurd h4 h1
    · exact absurd h4 h1
  · rcases h' with ⟨-, -, h4⟩ | ⟨rfl, rfl, -⟩ | ⟨-, -, h4, -⟩
    · exact absurd h1 h4
    · exact hx
    · exact absurd (h4 q hq) h2
  · rcases h' with ⟨-, -, h4⟩ | ⟨-, -, -, q, hq, h4⟩ | ⟨rfl, -, -, h4⟩
    · exact absurd h1 h4
    · exact absurd (h2 q hq) h4
    · exact BL.of_LB hg (h4.congr fun k => ((h3.b k).trans (ht k).symm).symm)
section
variable {m : ML} {xs : List (Int × Int)} {L r X : List (List D)} {i : Nat} {j acc z y : Int} {q : List (List D) × Int} {p : Int × ML} {t u : Int × Int × Int}
theorem rn_in (hL : ∀ r ∈ L, gLn r) (hj : j = i) (hb : real.cmp .lss j (real.len L) = true) (hz : ∃ zs, real.cL L j 0 = lnR zs ∧ X = lnR (zs.take 10)) : ∃ qs, X = lnR qs ∧ qs.length ≤ 10 ∧ ∀ q ∈ qs, I64 q.2 := by
  obtain ⟨zs, h1, h2⟩ := hz
  obtain ⟨ys, h3, h4⟩ := ll_cL hL hj hb
  obtain rfl := lnR_inj (h1.symm.trans h3)
  exact ⟨_, h2, by simp; omega, fun q hq => (h4 q (List.mem_of_mem_take hq)).2⟩
theorem rn_args (hm : gB m) (hx : BL m xs) (hr : r = lnR xs) (hl : xs.length ≤ 300) (h : ∃ qs, X = lnR qs ∧ qs.length ≤ 10 ∧ ∀ q ∈ qs, I64 q.2) : ∃ xs qs, r = lnR xs ∧ X = lnR qs ∧ xs.length ≤ 50000 ∧ qs.length ≤ 1000 ∧ (∀ p ∈ xs, I64 p.2) ∧ (∀ q ∈ qs, I64 q.2) ∧ LB xs (lbal xs) := by
  obtain ⟨qs, h1, h2, h3⟩ := h
  exact ⟨xs, qs, hr, h1, by omega, by omega, hx.I hm, h3, hx.LBl hm⟩
theorem rn_args2 (h : ∃ qs, X = lnR qs ∧ qs.length ≤ 10 ∧ ∀ q ∈ qs, I64 q.2) : ∃ qs, X = lnR qs ∧ qs.length ≤ 1000 ∧ ∀ (q : Int × Int), q ∈ qs → I64 q.snd := by
  obtain ⟨qs, h1, h2, h3⟩ := h
  exact ⟨qs, h1, by omega, h3⟩
/-- A round's facts. -/
theorem rnd (hm : gB m) (hx : BL m xs) (hr : r = lnR xs) (h : ∃ qs, X = lnR qs ∧ qs.length ≤ 10 ∧ ∀ q ∈ qs, I64 q.2) (hR : ∃ xs qs ys, r = lnR xs ∧ X = lnR qs ∧ q.1 = lnR ys ∧ RApp xs qs (lbal xs) q.2 ys ∧ ys.length ≤ xs.length + qs.length) (hA : ∃ qs, X = lnR qs ∧ AppR m qs p.1 p.2) :
    p.1 = q.2 ∧ gB p.2 ∧ ∃ ys, q.1 = lnR ys ∧ BL p.2 ys ∧ ys.length ≤ xs.length + 10 := by
  obtain ⟨qs, h1, h2, h3⟩ := h
  obtain ⟨xs', qs', ys, h4, h5, h6, h7, h8⟩ := hR
  obtain ⟨qs2, h9, hA⟩ := hA
  obtain rfl := lnR_inj (hr.symm.trans h4)
  obtain rfl := lnR_inj (h1.symm.trans h5)
  obtain rfl := lnR_inj (h1.symm.trans h9)
  obtain ⟨g1, g2, g3⟩ := ap_all hm hx hA h7
  exact ⟨g1, g2, ys, h6, g3, by omega⟩
theorem rnd_no (h : p.1 = q.2 ∧ gB p.2 ∧ ∃ ys, q.1 = lnR ys ∧ BL p.2 ys ∧ ys.length ≤ xs.length + 10) (hb : real.cmp .neq p.1 q.2 = true) : False := ne_t hb h.1
theorem rnd_t (h : p.1 = q.2 ∧ gB p.2 ∧ ∃ ys, q.1 = lnR ys ∧ BL p.2 ys ∧ ys.length ≤ xs.length + 10) (h1 : ∃ xs, BL p.2 xs ∧ t = tri (debs xs).sum (crds xs).sum) (h2 : ∃ xs, q.1 = lnR xs ∧ u = tri (debs xs).sum (crds xs).sum) : t = u := by
  obtain ⟨-, hg, ys, h3, h4, -⟩ := h
  obtain ⟨a, h5, rfl⟩ := h1
  obtain ⟨b, h6, rfl⟩ := h2
  obtain rfl := lnR_inj (h3.symm.trans h6)
  rw [h5.uniq hg hg h4 fun _ => rfl]
theorem rnd_b (h : p.1 = q.2 ∧ gB p.2 ∧ ∃ ys, q.1 = lnR ys ∧ BL p.2 ys ∧ ys.length ≤ xs.length + 10) (h1 : z = bal p.2 acc) (h2 : ∃ xs, q.1 = lnR xs ∧ y = lbal xs acc) : z = y := by
  obtain ⟨-, hg, ys, h3, h4, -⟩ := h
  obtain ⟨b, h6, rfl⟩ := h2
  obtain rfl := lnR_inj (h3.symm.trans h6)
  rw [h1, lbal_eq hg h4]
theorem rnd_x (h : p.1 = q.2 ∧ gB p.2 ∧ ∃ ys, q.1 = lnR ys ∧ BL p.2 ys ∧ ys.length ≤ xs.length + 10) : ∃ xs, q.1 = lnR xs ∧ BL p.2 xs := by
  obtain ⟨-, hg, ys, h3, h4, -⟩ := h
  exact ⟨ys, h3, h4⟩
theorem rnd_y (hl : xs.length ≤ 300) (h : p.1 = q.2 ∧ gB p.2 ∧ ∃ ys, q.1 = lnR ys ∧ BL p.2 ys ∧ ys.length ≤ xs.length + 10) : ∃ xs, q.1 = lnR xs ∧ xs.length ≤ 60000 ∧ ∀ p ∈ xs, I64 p.2 := by
  obtain ⟨-, hg, ys, h3, h4, h5⟩ := h
  exact ⟨ys, h3, by omega, h4.I hg⟩
theorem rnd_z (hl : xs.length ≤ 300) (h : p.1 = q.2 ∧ gB p.2 ∧ ∃ ys, q.1 = lnR ys ∧ BL p.2 ys ∧ ys.length ≤ xs.length + 10) : ∃ xs, q.1 = lnR xs ∧ xs.length ≤ 60000 := by
  obtain ⟨-, hg, ys, h3, h4, h5⟩ := h
  exact ⟨ys, h3, by omega⟩
theorem BL.rg {m : ML} (hm : gB m) {xs : List (Int × Int)} (h : BL m xs) : ∀ p ∈ xs, 0 ≤ p.1 ∧ p.1 ≤ 65535 := fun p hp => hm.rg (Bl.prE p) (h.p.mem_iff.1 (List.mem_map.2 ⟨p, hp, rfl⟩))
theorem BL.gW {m : ML} (hm : gB m) {xs : List (Int × Int)} (h : BL m xs) (hl : xs.length ≤ 300) : gW xs := ⟨h.rg hm, by omega⟩
theorem rn_by {y : List (List D)} (h : ∃ xs, BL m xs ∧ gW xs ∧ y = real.s2b (bkB xs)) : ∃ s, y = real.s2b s := by
  obtain ⟨xs, -, -, h⟩ := h
  exact ⟨_, h⟩
theorem rn_tx {s x : List UInt8} {y : List (List D)} (hm : gB m) (hx : BL m xs) (hr : r = lnR xs) (h : ∃ xs, BL m xs ∧ gW xs ∧ y = real.s2b (bkB xs)) (h2 : y = real.s2b s) (h3 : ∃ xs, r = lnR xs ∧ x = bkB xs) : s = x := by
  obtain ⟨ys, g1, -, g3⟩ := h
  obtain ⟨zs, g4, g5⟩ := h3
  obtain rfl := lnR_inj (hr.symm.trans g4)
  obtain rfl := g1.uniq hm hm hx fun _ => rfl
  rw [g5, ← b2s_s2b s, ← h2, g3, b2s_s2b]
end
def B8 : CallS := fun f args n h K => match f with
  | 12 => (match args with | [] => S_BNew K n h | _ => False)
  | 13 => (match args with | [] => S_Bwakes K n h | _ => False)
  | 34 => (match args with | [.d (.imm r)] => S_lines r K n h | _ => False)
  | 14 => (match args with | [.ptr i 0] => S_BCopy i K n h | _ => False)
  | 35 => (match args with | [.d (.imm r), .d (.imm p)] => S_RApp r p K n h | _ => False)
  | 16 => (match args with | [.ptr i 0, .d (.imm r)] => S_Apply i r K n h | _ => False)
  | 36 => (match args with | [.ptr i 0, .d (.imm r)] => S_same23 i r K n h | _ => False)
  | 18 => (match args with | [.ptr i 0] => S_Trial i K n h | _ => False)
  | 37 => (match args with | [.d (.imm r)] => S_RTri r K n h | _ => False)
  | 17 => (match args with | [.ptr i 0, .d (.int .i64 k)] => S_Bal i k K n h | _ => False)
  | 38 => (match args with | [.d (.imm r), .d (.int .i64 k)] => S_RBal r k K n h | _ => False)
  | 39 => (match args with | [.ptr i 0, .ptr w 0] => S_BWr i w K n h | [.ptr i 0, .d .nilp] => S_BWrNil i K n h | _ => False)
  | 31 => (match args with | [.ptr i 0] => S_Bytes i K n h | _ => False)
  | 40 => (match args with | [.d (.imm r)] => S_RTx r K n h | _ => False)
  | _ => False
theorem B8_ok : ∀ f args n h K, B8 f args n h K → CallE Try.prog f args n h K := by
  intro f args n h K hc
  unfold B8 at hc
  split at hc
  · split at hc
    · exact L_BNew hc
    · exact hc.elim
  · split at hc
    · exact L_Bwakes hc
    · exact hc.elim
  · split at hc
    · exact L_lines hc
    · exact hc.elim
  · split at hc
    · exact L_BCopy hc
    · exact hc.elim
  · split at hc
    · exact L_RApp hc
    · exact hc.elim
  · split at hc
    · exact L_Apply hc
    · exact hc.elim
  · split at hc
    · exact L_same23 hc
    · exact hc.elim
  · split at hc
    · exact L_Trial hc
    · exact hc.elim
  · split at hc
    · exact L_RTri hc
    · exact hc.elim
  · split at hc
    · exact L_Bal hc
    · exact hc.elim
  · split at hc
    · exact L_RBal hc
    · exact hc.elim
  · split at hc
    · exact L_BWr hc
    · exact L_BWrNil hc
    · exact hc.elim
  · split at hc
    · exact L_Bytes hc
    · exact hc.elim
  · split at hc
    · exact L_RTx hc
    · exact hc.elim
  · exact hc.elim
theorem K_BApply230 (l : List (List D)) (hl : ∀ r ∈ l, gLn r) (acc : Int) : CallE Try.prog 7 [.d (.imm l), .d (.int .i64 acc)] 0 [] (fun v n h => Nd (fun _ => Fin 0 (Gets fun v => v = .d (.bool true)) v n h)) := by
  refine call_fn tysOK orders (C := B8) B8_ok H0 Try.func7 (by kernel_rfl) (by kernel_rfl) ?_
  intro oBin oCmp oWrap oNeg oCom oBnot oBeq oPickB oPickI oPickS oInb oSub2 oMinI oMaxI oSlen oSidx oScat oSsub oScmp oScok oLen oCI oCB oCS oCL oOkR oApp oApok oSub oSetc oRep oMkok oNthI oNthB oNthS oIteI oIteB oIteS oB2s oS2b oAllB oWf oDeq oMlen oMhas oMI oMB oMS oMok oMput oMdel oSgo oSru oSnx ho; cbv
  (repeat (any_goals (first
    | with_reducible refine And.intro ?_ ?_
    | exact True.intro
    | with_reducible exact rfl
    | (with_reducible refine Nd.mk ?_; try dsimp only)
    | (with_reducible refine Nd0.mk ?_; try dsimp only)
    | (with_reducible refine Pz.mk ?_; cbv)
    | (with_reducible refine RgOK.mk ?_; kernel_rfl)
    | (with_reducible refine OrOK.mk ?_; kernel_rfl)
    | (with_reducible refine Al.mk (fun x hx => ?_); cbv)
    | (with_reducible refine hK' _ ?_; clear hK' K'; cbv)
    | (with_reducible refine brA.yes (by first | assumption | exact rfl | (simp only [show oCmp = real.cmp from congrArg Ar.cmp ho, show oBin = real.bin from congrArg Ar.bin ho, show oScmp = real.scmp from congrArg Ar.scmp ho, show oPickB = real.pickB from congrArg Ar.pickB ho, show oBnot = real.bnot from congrArg Ar.bnot ho]; decide)) ?_; cbv)
    | (with_reducible refine brA.no (by first | assumption | exact rfl | (simp only [show oCmp = real.cmp from congrArg Ar.cmp ho, show oBin = real.bin from congrArg Ar.bin ho, show oScmp = real.scmp from congrArg Ar.scmp ho, show oPickB = real.pickB from congrArg Ar.pickB ho, show oBnot = real.bnot from congrArg Ar.bnot ho]; decide)) ?_; cbv)
    | (with_reducible refine bcase (fun hb => ?_) (fun hb => ?_) <;> cbv)
    | (intro K' hK'; cbv))))
  · cases ho; exact (ll_cut 25 hl).1
  · cases ho; exact ll_wf hl
  obtain ⟨L, hLe⟩ : ∃ L, L = oSub l 0 (oMinI (oLen l) 25) := ⟨_, rfl⟩
  have hLL : L.length ≤ 25 ∧ ∀ r ∈ L, gLn r := by
    cases ho
    subst hLe
    exact (ll_cut 25 hl).2
  rw [← hLe]
  clear hLe
  refine ⟨fun st => ∃ (i : Nat) (j : Int) (m : ML) (xs : List (Int × Int)) (r : List (List D)), j = i ∧ i ≤ L.length ∧ r = lnR xs ∧ gB m ∧ BL m xs ∧ xs.length ≤ 10 * i ∧
      st = ⟨mkF 122 0 [(1, .d (.int .i64 acc)), (5, .ptr 1 0), (6, .d (.imm r)), (34, .d (.imm L)), (35, .d (.int .i64 (oLen L))), (36, .d (.int .i64 j))], 2, [(0, .mp .i64 m), (1, .cells [.map 0])]⟩,
    fun st => ((L.length : Int) - ctr 36 st).toNat, ⟨[1000006], [], [1, 5, 6, 34, 35, 36], [0, 1], 2⟩, ?_, ?_, ?_⟩
  · cbv
  · exact ⟨0, 0, [], [], [], rfl, Nat.zero_le _, rfl, gB_nil, ⟨List.Perm.refl _, List.Pairwise.nil⟩, Nat.le_refl _, rfl⟩
  rintro st1 ⟨i, j, m, xs, r, hj, hi, hr, hm, hx0, hxl, rfl⟩
  cbv
  (repeat (any_goals (first
    | with_reducible refine And.intro ?_ ?_
    | exact True.intro
    | with_reducible exact rfl
    | (with_reducible refine Nd.mk ?_; try dsimp only)
    | (with_reducible refine Nd0.mk ?_; try dsimp only)
    | (with_reducible refine Pz.mk ?_; cbv)
    | (with_reducible refine RgOK.mk ?_; kernel_rfl)
    | (with_reducible refine OrOK.mk ?_; kernel_rfl)
    | (with_reducible refine Al.mk (fun x hx => ?_); cbv)
    | (with_reducible refine hK' _ ?_; clear hK' K'; cbv)
    | (with_reducible refine brA.yes (by first | assumption | exact rfl | (simp only [show oCmp = real.cmp from congrArg Ar.cmp ho, show oBin = real.bin from congrArg Ar.bin ho, show oScmp = real.scmp from congrArg Ar.scmp ho, show oPickB = real.pickB from congrArg Ar.pickB ho, show oBnot = real.bnot from congrArg Ar.bnot ho]; decide)) ?_; cbv)
    | (with_reducible refine brA.no (by first | assumption | exact rfl | (simp only [show oCmp = real.cmp from congrArg Ar.cmp ho, show oBin = real.bin from congrArg Ar.bin ho, show oScmp = real.scmp from congrArg Ar.scmp ho, show oPickB = real.pickB from congrArg Ar.pickB ho, show oBnot = real.bnot from congrArg Ar.bnot ho]; decide)) ?_; cbv)
    | (with_reducible refine bcase (fun hb => ?_) (fun hb => ?_) <;> cbv)
    | (intro K' hK'; cbv))))
  all_goals ((try clear hK' K'); cases ho; (try simp only [nc1] at *); (try simp only [Int.ofNat_eq_natCast] at *))
  all_goals first
    | omega
    | decide
    | exact hm
    | with_reducible exact inb_lt hj (by assumption)
    | with_reducible exact ll_wf hLL.2
    | with_reducible exact ll_ok hLL.2 hj (by assumption)
    | exact ⟨xs, hr, hx0⟩
    | exact ⟨xs, hx0, hx0.gW hm (by have := hLL.1; omega)⟩
    | exact ⟨xs, hr, hx0.gW hm (by have := hLL.1; omega)⟩
    | (have hlt := ‹real.cmp .lss j (real.len L) = true›
       have h6 := ll_lt hj hlt
       have h25 := hLL.1
       first
       | (obtain ⟨zs, h, -⟩ := ll_cL hLL.2 hj hlt
          exact ⟨zs, h⟩)
       | exact rn_args hm hx0 hr (by omega) (rn_in hLL.2 hj hlt hx)
       | exact rn_args2 (rn_in hLL.2 hj hlt hx)
       | (have h7 := rnd hm hx0 hr (rn_in hLL.2 hj hlt hx) ‹∃ xs qs ys, _› ‹∃ qs, _ ∧ AppR m qs _ _›
          first
          | exact h7.2.1
          | exact rnd_x h7
          | exact rnd_y (by omega) h7
          | exact rnd_z (by omega) h7
          | exact (ne_t (by assumption) h7.1).elim
          | (have h8 := rnd_t h7 ‹∃ xs, BL _ xs ∧ _› ‹∃ xs, _ = lnR xs ∧ _ = tri _ _›
             first
             | exact (ne_t (by assumption) (congrArg (fun t => t.1) h8)).elim
             | exact (ne_t (by assumption) (congrArg (fun t => t.2.1) h8)).elim
             | exact (ne_t (by assumption) (congrArg (fun t => t.2.2) h8)).elim
             | (have h9 := rnd_b h7 ‹_ = bal _ _› ‹∃ xs, _ = lnR xs ∧ _ = lbal _ _›
                exact (ne_t (by assumption) h9).elim)
             | (obtain ⟨-, g1, ys, g2, g3, g4⟩ := h7
                exact ⟨⟨[], [], [1, 5, 6, 34, 35, 36], [0, 1], 2⟩, rfl, ⟨i + 1, real.bin .add .i64 j 1, _, ys, _, addLL hj (by omega), by omega, g2, g1, g3, by omega, rfl⟩, mea hj h6 (by omega)⟩))))
    | exact rn_by (by assumption)
    | (have h5 := rn_tx hm hx0 hr ‹∃ xs, BL m xs ∧ gW xs ∧ _› (by assumption) (by assumption)
       exact fin_b (by rw [h5]; simp [real, rScmp]))
    | trace_state
end Go.Proofs.Yteakfibolfapiaa.Ab
end
section
namespace Go.Proofs.Yteakfibolfapiaa.Ab
open Go Go.RowKit Go.Sort Go.Shelf
set_option linter.unusedVariables false
set_option linter.unusedSimpArgs false
set_option maxRecDepth 100000
def ρ0 : Env := ⟨fun _ => none, fun _ => False⟩
theorem mut0 {b : Nat} : ¬ Mut ρ0 [] b := by
  unfold Mut
  rintro (h | ⟨id, o, v, h, -⟩)
  · exact h
  · cases h
theorem rep0 (W : World) : Rep ρ0 0 [] W where
  nodup := List.nodup_nil
  objs := fun id o hm => by cases hm
  inj := fun i o j o' v v' b hm => by cases hm
  fresh := fun _ _ => rfl
  sep := fun id o v b hm => by cases hm
  old := ⟨fun b hb => hb.elim, trivial, fun u u' hu hb => trivial⟩
theorem enter_call {f : Nat} {fn : Func} {args : List AV} {vals : List Value} {W : World} (hf : Try.prog.funcs[f]? = some fn) (hn : (fn.name == "runtime.NumGoroutine") = false) (hb : fn.body.isSome = true)
    (hc : CallE Try.prog f args 0 [] (Gets fun v => v = .d (.bool true))) (ha : RelVs ρ0 W (Mut ρ0 []) args vals) :
    Calls Try.prog f vals.toArray W fun e W' => e = .returned (.bool true) ∧ Below W.heap.size W W' := by
  have key : ∀ v W', Done (Gets fun v => v = .d (.bool true)) 0 ρ0 [] W v W' → v = .bool true ∧ Below W.heap.size W W' := by
    rintro v W' ⟨av, ρ', n', h', ⟨⟨rfl⟩, -, rfl, rfl⟩, -, -, h4, h5⟩
    exact ⟨h4, h5.os, h5.tape, h5.output, h5.size, fun k hk => h5.block k hk (by rintro ⟨id, o, v, hm, -⟩; cases hm)⟩
  cases hc with
  | enter fn' hf' hn' hb' run =>
    refine (run ρ0 W vals (rep0 W) ha).mono ?_
    rintro e W' ⟨v, rfl, hd⟩
    obtain ⟨rfl, hb⟩ := key _ _ hd
    exact ⟨rfl, hb⟩
  | ext run =>
    obtain ⟨v, W', h1, -⟩ := run ρ0 W vals (rep0 W) ha
    obtain ⟨c, hc⟩ := Option.isSome_iff_exists.1 hb
    rw [enters_of hf hn hc] at h1
    cases h1
/-! rows of flat cells -/
def dOf : Value → D
  | .int k n => .int k n
  | .bool b => .bool b
  | .string s => .str s.data.toList
  | _ => .nilp
theorem dOf_ok {w : World} {M : Nat → Prop} {k : Tr.CK} {v : Value} (h : k.ok v) : RelD w M (dOf v) v := by
  cases k with
  | int k => obtain ⟨n, rfl, -⟩ := h; rfl
  | bool => obtain ⟨b, rfl⟩ := h; rfl
  | str => obtain ⟨s, rfl, -⟩ := h; simp [dOf, RelD]
theorem tcells_rel {w : World} {M : Nat → Prop} : ∀ (ks : List Tr.CK) (r : List Value), Tr.Cells ks r → RelDs w M (r.map dOf) r
  | [], r, h => by cases h; rfl
  | k :: ks, r, ⟨v, t, e, h1, h2⟩ => by subst e; exact ⟨_, _, rfl, dOf_ok h1, tcells_rel ks t h2⟩
theorem take_of {α : Type} : ∀ (r vs : List α), (∀ (j : Nat) (x : α), r[j]? = some x → vs[j]? = some x) → vs.take r.length = r
  | [], vs, _ => rfl
  | x :: r, vs, h => by
    have h0 := h 0 x rfl
    cases vs with
    | nil => simp at h0
    | cons v t =>
      simp at h0
      subst h0
      simp only [List.length_cons, List.take_succ_cons]
      rw [take_of r t fun j y hj => by simpa using h (j + 1) y (by simpa using hj)]
theorem rel_rows {w : World} {M : Nat → Prop} {ks : List Tr.CK} : ∀ (rows : List (List Value)) (vs : List Value), (∀ r ∈ rows, Tr.Cells ks r) →
    (∀ (i : Nat) (r : List Value), rows[i]? = some r → ∀ (j : Nat) (x : Value), r[j]? = some x → vs[i * ks.length + j]? = some x) → RelRows w M (rows.map (·.map dOf)) vs
  | [], vs, _, _ => trivial
  | r :: rest, vs, h, hx => by
    have h0 := h r (by simp)
    refine ⟨?_, ?_⟩
    · rw [List.length_map, take_of r vs fun j x hj => by simpa using hx 0 r rfl j x hj]
      exact tcells_rel ks r h0
    · rw [List.length_map, h0.length]
      refine rel_rows rest _ (fun q hq => h q (by simp [hq])) fun i q hi j x hj => ?_
      rw [List.getElem?_drop, show ks.length + (i * ks.length + j) = (i + 1) * ks.length + j by rw [Nat.succ_mul]; omega]
      exact hx (i + 1) q (by simpa using hi) j x hj
theorem imm_of_rows {W : World} {a : Option Addr} {rows : List (List Value)} {cap : Nat} {k : Tr.CK} {ks : List Tr.CK} (h : Tr.Rows (k :: ks) W a rows cap) :
    RelD W (Mut ρ0 []) (.imm (rows.map (·.map dOf))) (.slice a rows.length cap) := by
  obtain ⟨hcap, -, -, hc, hcell⟩ := h
  refine ⟨a, cap, by simp, by simpa using hcap, ?_⟩
  cases rows with
  | nil => exact .inl rfl
  | cons r0 rest =>
    right
    obtain ⟨b, off, rfl, hx0⟩ := hcell 0 r0 rfl
    obtain ⟨v0, t0, e0, hv0, -⟩ := hc 0 r0 rfl
    have h0 := hx0 0 v0 (by rw [e0]; rfl)
    have hcell' : ∀ (i : Nat) (r : List Value), (r0 :: rest)[i]? = some r → ∀ (j : Nat) (x : Value), r[j]? = some x → W.cell? ⟨b, off + (i * (k :: ks).length + j), none⟩ = some x := by
      intro i r hi j x hj
      obtain ⟨b', off', e, hx⟩ := hcell i r hi
      cases e
      exact hx j x hj
    simp only [World.cell?] at h0 hcell'
    cases hh : W.heap[b]? with
    | none => simp [hh] at h0
    | some o =>
      cases o with
      | cells cs e fz =>
        refine ⟨b, off, cs, e, fz, (k :: ks).length, rfl, hh, mut0, ?_, rel_rows (ks := k :: ks) _ _ (fun r hr => ?_) fun i r hi j x hj => ?_⟩
        · intro r hr
          obtain ⟨r', hr', rfl⟩ := List.mem_map.1 hr
          obtain ⟨i, hi⟩ := List.getElem?_of_mem hr'
          rw [List.length_map]
          exact (hc i r' hi).length
        · obtain ⟨i, hi⟩ := List.getElem?_of_mem hr
          exact hc i r hi
        · have := hcell' i r hi j x hj
          rw [hh] at this
          rw [List.getElem?_drop]
          simpa using this
      | _ => simp [hh] at h0
theorem i64_wf {n : Int} (h : (Lit.int .i64 n).wf = true) : -9223372036854775808 ≤ n ∧ n ≤ 9223372036854775807 := by
  have e1 : IntKind.i64.min = -9223372036854775808 := rfl
  have e2 : IntKind.i64.max = 9223372036854775807 := rfl
  simpa [Lit.wf, e1, e2] using h
theorem u8_wf {n : Int} (h : (Lit.int .u8 n).wf = true) : 0 ≤ n ∧ n ≤ 255 := by
  have e1 : IntKind.u8.min = 0 := rfl
  have e2 : IntKind.u8.max = 255 := rfl
  simpa [Lit.wf, e1, e2] using h
theorem u16_wf {n : Int} (h : (Lit.int .u16 n).wf = true) : 0 ≤ n ∧ n ≤ 65535 := by
  have e1 : IntKind.u16.min = 0 := rfl
  have e2 : IntKind.u16.max = 65535 := rfl
  simpa [Lit.wf, e1, e2] using h
end Go.Proofs.Yteakfibolfapiaa.Ab
end
section
namespace Go.Proofs.Yteakfibolfapiaa.Ab
open Go Go.RowKit Go.Sort Go.Shelf
set_option linter.unusedVariables false
set_option linter.unusedSimpArgs false
set_option maxRecDepth 100000
def rOf (rs : List (List Value)) : List D := [.imm (rs.map (·.map dOf))]
theorem rel_rows2 {w : World} {k : Tr.CK} {ks : List Tr.CK} : ∀ (rss : List (List (List Value))) (vs : List Value),
    (∀ (i : Nat) (rs : List (List Value)), rss[i]? = some rs → ∃ a' cap', vs[i]? = some (.slice a' rs.length cap') ∧ Tr.Rows (k :: ks) w a' rs cap') → RelRows w (Mut ρ0 []) (rss.map rOf) vs
  | [], vs, _ => trivial
  | rs :: rest, vs, h => by
    obtain ⟨a', cap', h1, h2⟩ := h 0 rs rfl
    cases vs with
    | nil => simp at h1
    | cons v t =>
      simp at h1
      subst h1
      refine ⟨⟨_, _, rfl, imm_of_rows h2, rfl⟩, ?_⟩
      show RelRows w (Mut ρ0 []) (rest.map rOf) t
      exact rel_rows2 rest t fun i q hi => by
        obtain ⟨a2, c2, h3, h4⟩ := h (i + 1) q (by simpa using hi)
        exact ⟨a2, c2, by simpa using h3, h4⟩
theorem imm_of_rows2 {W : World} {a : Option Addr} {rss : List (List (List Value))} {cap : Nat} {k : Tr.CK} {ks : List Tr.CK} (h : Tr.Rows2 (k :: ks) W a rss cap) :
    RelD W (Mut ρ0 []) (.imm (rss.map rOf)) (.slice a rss.length cap) := by
  obtain ⟨hcap, hcell⟩ := h
  refine ⟨a, cap, by simp, by simpa using hcap, ?_⟩
  cases rss with
  | nil => exact .inl rfl
  | cons r0 rest =>
    right
    obtain ⟨b, off, a0, cap0, rfl, hx0, -⟩ := hcell 0 r0 rfl
    have hcell' : ∀ (i : Nat) (rs : List (List Value)), (r0 :: rest)[i]? = some rs → ∃ a' cap', W.cell? ⟨b, off + i, none⟩ = some (.slice a' rs.length cap') ∧ Tr.Rows (k :: ks) W a' rs cap' := by
      intro i rs hi
      obtain ⟨b', off', a', cap', e, hx, hr⟩ := hcell i rs hi
      cases e
      exact ⟨a', cap', hx, hr⟩
    simp only [World.cell?] at hx0 hcell'
    cases hh : W.heap[b]? with
    | none => simp [hh] at hx0
    | some o =>
      cases o with
      | cells cs e fz =>
        refine ⟨b, off, cs, e, fz, 1, rfl, hh, mut0, ?_, rel_rows2 (k := k) (ks := ks) _ _ fun i rs hi => ?_⟩
        · intro r hr
          obtain ⟨r', hr', rfl⟩ := List.mem_map.1 hr
          rfl
        · obtain ⟨a', cap', h1, h2⟩ := hcell' i rs hi
          rw [hh] at h1
          refine ⟨a', cap', ?_, h2⟩
          rw [List.getElem?_drop]
          simpa using h1
      | _ => simp [hh] at hx0
end Go.Proofs.Yteakfibolfapiaa.Ab
end
section
namespace Go.Proofs.Yteakfibolfapiaa
open Go Go.RowKit
open Ab
theorem lines_of : ∀ (rs : List (List Value)), (∀ r ∈ rs, Tr.Cells [.int .i64, .int .i64] r) → ∃ zs : List (Int × Int), rs.map (·.map dOf) = lnR zs ∧ ∀ q ∈ zs, Ab.I64 q.1 ∧ Ab.I64 q.2
  | [], _ => ⟨[], rfl, fun q hq => by cases hq⟩
  | r :: rs, h => by
    obtain ⟨zs, e, hz⟩ := lines_of rs (fun q hq => h q (by simp [hq]))
    obtain ⟨v0, t, rfl, ⟨a, rfl, ha⟩, v1, t1, rfl, ⟨b, rfl, hb⟩, rfl⟩ := h r (by simp)
    refine ⟨(a, b) :: zs, by rw [List.map_cons, e]; rfl, fun q hq => ?_⟩
    rcases List.mem_cons.1 hq with rfl | hq
    · exact ⟨i64_wf ha, i64_wf hb⟩
    · exact hz q hq
theorem lists_of {W : World} {a : Option Addr} {rss : List (List (List Value))} {cap : Nat} (h : Tr.Rows2 [.int .i64, .int .i64] W a rss cap) : ∀ r ∈ rss.map rOf, gLn r := by
  intro r hr
  obtain ⟨rs, hrs, rfl⟩ := List.mem_map.1 hr
  obtain ⟨i, hi⟩ := List.getElem?_of_mem hrs
  obtain ⟨b, off, a', cap', -, -, -, -, -, hc, -⟩ := h.2 i rs hi
  obtain ⟨zs, e, hz⟩ := lines_of rs (fun q hq => by
    obtain ⟨j, hj⟩ := List.getElem?_of_mem hq
    exact hc j q hj)
  exact ⟨zs, by rw [rOf, e], hz⟩
theorem walk_BooksApply : SayBooksApply := fun a rss cap n W hr hw =>
  enter_call (vals := [.slice a rss.length cap, .int .i64 n]) Try.func7 (by kernel_rfl) (by kernel_rfl) (CallE.fin (K_BApply230 (rss.map rOf) (lists_of hr) n)) ⟨_, _, rfl, imm_of_rows2 hr, _, _, rfl, rfl, rfl⟩
end Go.Proofs.Yteakfibolfapiaa
end
