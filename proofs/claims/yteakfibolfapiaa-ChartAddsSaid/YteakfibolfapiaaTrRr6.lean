/- Is a chart the reference's? -/
import Derived.Test.YteakfibolfapiaaTrRrA
import Derived.Test.YteakfibolfapiaaTrCo1
namespace Go.Proofs.Yteakfibolfapiaa.Ab
open Go Go.RowKit Go.Sort
set_option linter.unusedVariables false
set_option linter.unusedSimpArgs false
set_option maxRecDepth 100000
set_option maxHeartbeats 8000000
theorem K_of0 (c k : Int) (s : List UInt8) : CallE Try.prog 26 [.d (.agg [.int .i64 c, .int .u8 k, .str s])] 0 [] (fun v n h => Nd (fun _ => Fin 0 (Gets fun v => v = .d (.agg [.int .i64 c, .int .u8 k, .str s])) v n h)) := by
  refine call_fn tysOK orders (C := C0) C0_ok H0 Try.func26 (by kernel_rfl) (by kernel_rfl) ?_
  intro oBin oCmp oWrap oNeg oCom oBnot oBeq oPickB oPickI oPickS oInb oSub2 oMinI oMaxI oSlen oSidx oScat oSsub oScmp oScok oLen oCI oCB oCS oCL oOkR oApp oApok oSub oSetc oRep oMkok oNthI oNthB oNthS oIteI oIteB oIteS oB2s oS2b oAllB oWf oDeq oMlen oMhas oMI oMB oMS oMok oMput oMdel oSgo oSru oSnx ho; cbv
  (repeat (any_goals (first
    | with_reducible refine And.intro ?_ ?_
    | exact True.intro
    | with_reducible exact rfl
    | (with_reducible refine Nd.mk ?_; try dsimp only)
    | (with_reducible refine Pz.mk ?_; cbv)
    | (with_reducible refine RgOK.mk ?_; kernel_rfl)
    | (with_reducible refine OrOK.mk ?_; kernel_rfl)
    | (with_reducible refine Al.mk (fun x hx => ?_); cbv)
    | (with_reducible refine hK' _ ?_; clear hK' K'; cbv)
    | (with_reducible refine brA.yes (by first | assumption | exact rfl | (simp only [show oCmp = real.cmp from congrArg Ar.cmp ho, show oBin = real.bin from congrArg Ar.bin ho, show oScmp = real.scmp from congrArg Ar.scmp ho, show oPickB = real.pickB from congrArg Ar.pickB ho, show oBnot = real.bnot from congrArg Ar.bnot ho]; decide)) ?_; cbv)
    | (with_reducible refine brA.no (by first | assumption | exact rfl | (simp only [show oCmp = real.cmp from congrArg Ar.cmp ho, show oBin = real.bin from congrArg Ar.bin ho, show oScmp = real.scmp from congrArg Ar.scmp ho, show oPickB = real.pickB from congrArg Ar.pickB ho, show oBnot = real.bnot from congrArg Ar.bnot ho]; decide)) ?_; cbv)
    | (with_reducible refine bcase (fun hb => ?_) (fun hb => ?_) <;> cbv)
    | (intro K' hK'; cbv))))
  all_goals ((try clear hK' K'); cases ho; (try simp only [nc1] at *); (try simp only [Int.ofNat_eq_natCast] at *))
  all_goals first
    | exact ⟨⟨[], [], [0], [], 0⟩, _, 0, _, rfl, rfl, ⟨rfl⟩, rfl, rfl, rfl⟩
    | trace_state
def S_of (c k : Int) (s : List UInt8) (K : CallK) (n : Nat) (h : Hp) : Prop := K (.d (.agg [.int .i64 c, .int .u8 k, .str s])) n h
theorem L_of {c k : Int} {s : List UInt8} {n : Nat} {h : Hp} {K : CallK} (hK : S_of c k s K n h) : CallE Try.prog 26 [.d (.agg [.int .i64 c, .int .u8 k, .str s])] n h K := call_data (CallE.fin (K_of0 c k s)) rfl (by rintro v rfl; exact hK)
def R7 : CallS := fun f args n h K => match f with
  | 32 => (match args with | [.ptr i 0, .d (.int .i64 c)] => S_Get i c K n h | _ => False)
  | 10 => (match args with | [.ptr i 0] => S_List i K n h | _ => False)
  | 26 => (match args with | [.d (.agg [.int .i64 c, .int .u8 k, .str s])] => S_of c k s K n h | _ => False)
  | _ => False
theorem R7_ok : ∀ f args n h K, R7 f args n h K → CallE Try.prog f args n h K := by
  intro f args n h K hc
  unfold R7 at hc
  split at hc
  · split at hc
    · exact L_Get hc
    · exact hc.elim
  · split at hc
    · exact L_List hc
    · exact hc.elim
  · split at hc
    · exact L_of hc
    · exact hc.elim
  · exact hc.elim
/-- A map and a rising list of the same accounts. -/
structure Same (m : ML) (xs : List It.Acc) : Prop where
  pm : (xs.map It.pr).Perm m
  up : xs.Pairwise fun x y => x.c < y.c
theorem Same.codes {m : ML} {xs : List It.Acc} (h : Same m xs) : (m.map (·.1)).Nodup := by
  have h1 : (xs.map fun x => x.c).Nodup := by
    rw [List.Nodup, List.pairwise_map]
    exact h.up.imp fun h => by omega
  have := (h.pm.map (·.1)).nodup_iff.1 (by rw [List.map_map]; exact h1)
  exact this
theorem Same.gC {m : ML} {xs : List It.Acc} (h : Same m xs) : gC m := ⟨fun p hp => by
  have := h.pm.mem_iff.2 hp
  obtain ⟨a, -, rfl⟩ := List.mem_map.1 this
  exact ⟨_, _, rfl⟩⟩
theorem Same.len {m : ML} {xs : List It.Acc} (h : Same m xs) : m.length = xs.length := by simpa using h.pm.length_eq.symm
theorem Same.list {m : ML} {xs : List It.Acc} {r : List (List D)} (h : Same m xs) (hr : isList m r) : r = aR xs :=
  (lists_one hr ⟨xs, h.pm, h.up.imp fun h => by omega, rfl⟩ (List.Perm.refl m) h.codes).1
theorem Same.look {m : ML} {xs : List It.Acc} (h : Same m xs) {a : It.Acc} (ha : a ∈ xs) : Mk.look m a.c = some (acV a.c a.k a.s) :=
  (Mk.look_mem h.codes).2 (h.pm.mem_iff.1 (List.mem_map.2 ⟨a, ha, rfl⟩))
theorem Same.at {m : ML} {xs : List It.Acc} (h : Same m xs) {j : Int} {i : Nat} (hj : j = i) (hi : i < xs.length) {q : Int × Int × List UInt8 × Bool} {c : Int} (hc : c = real.cI (aR xs) j 0)
    (hq : q = (real.mI m c 0, real.mI m c 1, real.mS m c 2, real.mhas m c)) : q = (real.cI (aR xs) j 0, real.cI (aR xs) j 1, real.cS (aR xs) j 2, true) := by
  rw [hq, hc, aR_c hj hi, aR_k hj hi, aR_s hj hi]
  have hl := h.look (List.getElem_mem hi)
  simp only [real, mcell, hl]
  rfl
theorem nq_len {xs ys : List (List D)} (h : real.cmp .neq (real.len xs) (real.len ys) = true) (e : xs = ys) : False := by
  subst e
  simp [real, rCmp] at h
theorem no_deq {c k : Int} {s : List UInt8} {p : Bool} (h : real.pickB p true (real.bnot (real.deq [.int .i64 c, .int .u8 k, .str s] [.int .i64 c, .int .u8 k, .str s])) = true) (hp : p = false) : False := by
  subst hp
  simp [real, deqL, deq1] at h
theorem bn_tt {p : Bool} (h : real.bnot p = true) (hp : p = true) : False := by
  subst hp
  simp [real] at h
theorem no_deq2 {c k : Int} {s : List UInt8} {p : Bool} (h : real.pickB p true (real.bnot (real.deq [.int .i64 c, .int .u8 k, .str s] [.int .i64 c, .int .u8 k, .str s])) = true) (hp : p = false) : False := no_deq h hp
theorem K_same0 (m : ML) (xs : List It.Acc) (hm : Same m xs) (hl : xs.length ≤ 1000) (r : List (List D)) (hr : r = aR xs) : CallE Try.prog 24 [.ptr 1 0, .d (.imm r)] 2 [(0, .mp .i64 m), (1, .cells [.map 0])]
    (fun v n h => Nd (fun _ => Fin 2 (fun v n h => v = .d (.bool true) ∧ n = 2 ∧ h = [(0, .mp .i64 m), (1, .cells [.map 0])]) v n h)) := by
  refine call_fn tysOK orders (C := R7) R7_ok ⟨[((8, 1000000), [0, 2, 4, 6, 8, 10, 12, 14, 16, 18, 20, 22, 24, 27, 28, 30]), ((8, 0), [2, 3])], [], 0⟩ Try.func24 (by kernel_rfl) (by kernel_rfl) ?_
  intro oBin oCmp oWrap oNeg oCom oBnot oBeq oPickB oPickI oPickS oInb oSub2 oMinI oMaxI oSlen oSidx oScat oSsub oScmp oScok oLen oCI oCB oCS oCL oOkR oApp oApok oSub oSetc oRep oMkok oNthI oNthB oNthS oIteI oIteB oIteS oB2s oS2b oAllB oWf oDeq oMlen oMhas oMI oMB oMS oMok oMput oMdel oSgo oSru oSnx ho; cbv
  (repeat (any_goals (first
    | with_reducible refine And.intro ?_ ?_
    | exact True.intro
    | with_reducible exact rfl
    | (with_reducible refine Nd.mk ?_; try dsimp only)
    | (with_reducible refine Pz.mk ?_; cbv)
    | (with_reducible refine RgOK.mk ?_; kernel_rfl)
    | (with_reducible refine OrOK.mk ?_; kernel_rfl)
    | (with_reducible refine Al.mk (fun x hx => ?_); cbv)
    | (with_reducible refine hK' _ ?_; clear hK' K'; cbv)
    | (with_reducible refine brA.yes (by first | assumption | exact rfl | (simp only [show oCmp = real.cmp from congrArg Ar.cmp ho, show oBin = real.bin from congrArg Ar.bin ho, show oScmp = real.scmp from congrArg Ar.scmp ho, show oPickB = real.pickB from congrArg Ar.pickB ho, show oBnot = real.bnot from congrArg Ar.bnot ho]; decide)) ?_; cbv)
    | (with_reducible refine brA.no (by first | assumption | exact rfl | (simp only [show oCmp = real.cmp from congrArg Ar.cmp ho, show oBin = real.bin from congrArg Ar.bin ho, show oScmp = real.scmp from congrArg Ar.scmp ho, show oPickB = real.pickB from congrArg Ar.pickB ho, show oBnot = real.bnot from congrArg Ar.bnot ho]; decide)) ?_; cbv)
    | (with_reducible refine bcase (fun hb => ?_) (fun hb => ?_) <;> cbv)
    | (intro K' hK'; cbv))))
  any_goals (refine ⟨fun st => ∃ (i : Nat) (j : Int), j = i ∧ i ≤ xs.length ∧ st = ⟨mkF 48 0 [(0, .ptr 1 0), (1, .d (.imm r)), (17, .d (.imm x)), (18, .d (.int .i64 (oLen x))), (19, .d (.int .i64 j))], 2, [(0, .mp .i64 m), (1, .cells [.map 0])]⟩,
      fun st => ((xs.length : Int) - ctr 19 st).toNat, ⟨[2], [], [0, 1, 17, 18, 19], [0, 1], 2⟩, ?_, ?_, ?_⟩
             · cbv
             · exact ⟨0, 0, rfl, Nat.zero_le _, rfl⟩
             rintro st1 ⟨i, j, hj, hi, rfl⟩
             cbv
             (repeat (any_goals (first
    | with_reducible refine And.intro ?_ ?_
    | exact True.intro
    | with_reducible exact rfl
    | (with_reducible refine Nd.mk ?_; try dsimp only)
    | (with_reducible refine Pz.mk ?_; cbv)
    | (with_reducible refine RgOK.mk ?_; kernel_rfl)
    | (with_reducible refine OrOK.mk ?_; kernel_rfl)
    | (with_reducible refine Al.mk (fun x hx => ?_); cbv)
    | (with_reducible refine hK' _ ?_; clear hK' K'; cbv)
    | (with_reducible refine brA.yes (by first | assumption | exact rfl | (simp only [show oCmp = real.cmp from congrArg Ar.cmp ho, show oBin = real.bin from congrArg Ar.bin ho, show oScmp = real.scmp from congrArg Ar.scmp ho, show oPickB = real.pickB from congrArg Ar.pickB ho, show oBnot = real.bnot from congrArg Ar.bnot ho]; decide)) ?_; cbv)
    | (with_reducible refine brA.no (by first | assumption | exact rfl | (simp only [show oCmp = real.cmp from congrArg Ar.cmp ho, show oBin = real.bin from congrArg Ar.bin ho, show oScmp = real.scmp from congrArg Ar.scmp ho, show oPickB = real.pickB from congrArg Ar.pickB ho, show oBnot = real.bnot from congrArg Ar.bnot ho]; decide)) ?_; cbv)
    | (with_reducible refine bcase (fun hb => ?_) (fun hb => ?_) <;> cbv)
    | (intro K' hK'; cbv)))))
  all_goals ((try clear hK' K'); cases ho; (try simp only [nc1] at *); (try simp only [Int.ofNat_eq_natCast] at *))
  all_goals first
    | decide
    | exact hm.gC
    | (rw [hm.len]; exact hl)
    | (have e := hm.list ‹isList m _›
       subst e
       subst hr
       first
       | exact (nq_len (by assumption) rfl).elim
       | (have h5 := lt_aR hj ‹real.cmp .lss j _ = true›
          first
          | with_reducible exact in_aR hj h5
          | with_reducible exact aR_wf xs
          | with_reducible exact aR_ok3 hj h5
          | (have hq := hm.at hj h5 rfl hx
             clear hx
             subst hq
             first
             | exact (bn_tt ‹real.bnot _ = true› rfl).elim
             | exact (no_deq ‹real.pickB _ true _ = true› rfl).elim
             | exact (no_deq2 ‹real.pickB _ true _ = true› ‹_›).elim
             | (simp [real, rowOk, kdOk]; done)
             | (have h7 := add_1 hj (by omega)
                refine ⟨⟨[], [], [0, 1, 17, 18, 19], [0, 1], 2⟩, rfl, ⟨i + 1, real.bin .add .i64 j 1, h7, by omega, rfl⟩, ?_⟩
                show ((xs.length : Int) - real.bin .add .i64 j 1).toNat < ((xs.length : Int) - j).toNat
                rw [h7]; omega)))
       | exact ⟨⟨[], [], [0], [0, 1], 2⟩, _, 2, _, rfl, rfl, rfl, rfl, rfl⟩)
    | trace_state
def S_same (i : Nat) (r : List (List D)) (K : CallK) (n : Nat) (h : Hp) : Prop := pat2 h i fun j m => Nd (fun _ => i < n ∧ j < n ∧ i ≠ j ∧ ∃ xs, r = aR xs ∧ Same m xs ∧ xs.length ≤ 1000) ∧ K (.d (.bool true)) n (out2 i j h m)
theorem L_same {i n : Nat} {r : List (List D)} {h : Hp} {K : CallK} (hK : S_same i r K n h) : CallE Try.prog 24 [.ptr i 0, .d (.imm r)] n h K := by
  obtain ⟨j, m, hg, hg2, ⟨⟨hi, hj, hij, xs, hr, hm, hl⟩⟩, hk⟩ := pat2_elim hK
  refine call_recv2 (CallE.fin (K_same0 m xs hm hl r hr)) rfl hi hj hij hg hg2 ?_
  rintro v n1 h1 ⟨rfl, rfl, rfl⟩ -
  exact hk
end Go.Proofs.Yteakfibolfapiaa.Ab
