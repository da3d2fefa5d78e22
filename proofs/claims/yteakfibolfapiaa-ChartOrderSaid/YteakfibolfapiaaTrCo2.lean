/- ChartOrder, by the executor. -/
import Derived.Test.YteakfibolfapiaaTrCo1
import Derived.Test.YteakfibolfapiaaTrCoP
namespace Go.Proofs.Yteakfibolfapiaa.Ab
open Go Go.RowKit Go.Sort
set_option linter.unusedVariables false
set_option linter.unusedSimpArgs false
set_option maxRecDepth 100000
set_option maxHeartbeats 8000000
def C5 : CallS := fun f args n h K => match f with
  | 8 => (match args with | [] => S_New K n h | _ => False)
  | 9 => (match args with | [.ptr i 0, .d (.agg [.int .i64 c, .int .u8 k, .str s])] => S_Add i c k s K n h | _ => False)
  | 10 => (match args with | [.ptr i 0] => S_List i K n h | _ => False)
  | 11 => (match args with | [] => S_wakes K n h | _ => False)
  | _ => False
theorem C5_ok : ∀ f args n h K, C5 f args n h K → CallE Try.prog f args n h K := by
  intro f args n h K hc
  unfold C5 at hc
  split at hc
  · split at hc
    · exact L_New hc
    · exact hc.elim
  · split at hc
    · exact L_Add hc
    · exact hc.elim
  · split at hc
    · exact L_List hc
    · exact hc.elim
  · split at hc
    · exact L_wakes hc
    · exact hc.elim
  · exact hc.elim
/-- Codes as they came in. -/
def gU (r : List D) : Prop := ∃ z, r = [.int .u16 z] ∧ 0 ≤ z ∧ z ≤ 65535
theorem u_wf {l : List (List D)} (h : ∀ r ∈ l, gU r) : real.wf l 1 = true := by
  simp only [real, rWf, List.all_eq_true]
  intro r hr
  obtain ⟨z, rfl, -⟩ := h r hr
  rfl
theorem u_cut {l : List (List D)} (h : ∀ r ∈ l, gU r) : real.sub2 0 (real.minI (real.len l) 40) (real.len l) = true ∧ (real.sub l 0 (real.minI (real.len l) 40)).length ≤ 40 ∧ ∀ r ∈ real.sub l 0 (real.minI (real.len l) 40), gU r := by
  simp only [real]
  refine ⟨decide_eq_true (by omega), by simp; omega, fun r hr => h r (List.mem_of_mem_take (List.mem_of_mem_drop hr))⟩
def rowsM (M : List Int) : List (List D) := M.map fun z => [.int .u16 z]
/-- What was seen. -/
def sv (M : List Int) : ML := M.map fun z => (z, .bool true)
theorem u_get {l : List (List D)} (h : ∀ r ∈ l, gU r) {i : Nat} (hi : i < l.length) : gU (l.getD i []) := by
  rw [List.getD, List.getElem?_eq_getElem hi]
  exact h _ (List.getElem_mem _)
theorem u_ok {l : List (List D)} (h : ∀ r ∈ l, gU r) {j : Int} {i : Nat} (hj : j = i) (hi : i < l.length) : real.okR l j 0 [.int .u16] = true := by
  subst hj
  obtain ⟨z, hr, -⟩ := u_get h hi
  simp only [real, Int.toNat_natCast, hr]
  simp [rowOk, kdOk]
  omega
theorem u_z {l : List (List D)} (h : ∀ r ∈ l, gU r) {j : Int} {i : Nat} (hj : j = i) (hi : i < l.length) : 0 ≤ real.cI l j 0 ∧ real.cI l j 0 ≤ 65535 := by
  subst hj
  obtain ⟨z, hr, ha⟩ := u_get h hi
  simp only [real, rCell, Int.toNat_natCast, hr]
  exact ha
theorem inbL {l : List (List D)} {j : Int} {i : Nat} (hj : j = i) (hi : i < l.length) : real.inb j (real.len l) = true := by
  simp only [real, decide_eq_true_eq]; omega
theorem ltL {l : List (List D)} {j : Int} {i : Nat} (hj : j = i) (h : real.cmp .lss j (real.len l) = true) : i < l.length := by
  simp only [real, rCmp, decide_eq_true_eq] at h; omega
theorem addL {j : Int} {i : Nat} (hj : j = i) (hi : i < 1000) : real.bin .add .i64 j 1 = ((i + 1 : Nat) : Int) := by
  simp only [real, rBin]; rw [wrap_i64 _ (by omega) (by omega)]; omega
theorem sv_ok (M : List Int) : real.mok (sv M) [.bool] false = true := by
  simp only [real, List.all_eq_true]
  intro p hp
  obtain ⟨z, -, rfl⟩ := List.mem_map.1 hp
  rfl
theorem look_sv : ∀ (M : List Int) (x : Int), Mk.look (sv M) x = if x ∈ M then some (.bool true) else none
  | [], x => rfl
  | z :: M, x => by
    have ih := look_sv M x
    unfold Mk.look sv at ih ⊢
    rw [List.map_cons, List.find?_cons]
    by_cases h : z = x
    · subst h
      simp
    · have h' : (z == x) = false := by simpa using h
      rw [h', ih]
      have : ¬ x = z := fun e => h e.symm
      simp [this]
theorem mB_sv (M : List Int) (x : Int) : real.mB (sv M) x 0 = decide (x ∈ M) := by
  simp only [real, mcell, look_sv]
  by_cases h : x ∈ M
  · simp only [h, if_true, decide_true]; rfl
  · simp only [h, if_false, decide_false]; rfl
theorem put_new {m : ML} {x : Int} {v : Value} (h : Mk.look m x = none) : Mk.put m x v = m ++ [(x, v)] := by
  unfold Mk.put
  have : m.findIdx? (fun p => p.1 == x) = none := by
    unfold Mk.look at h
    simp only [Option.map_eq_none_iff, List.find?_eq_none] at h
    rw [List.findIdx?_eq_none_iff]
    intro p hp
    simpa using h p hp
  rw [this]
theorem put_sv {M : List Int} {x : Int} (h : x ∉ M) : real.mput (sv M) x (.bool true) = sv (M ++ [x]) := by
  show Mk.put (sv M) x (.bool true) = _
  rw [put_new (by rw [look_sv, if_neg h])]
  simp [sv]
theorem ap_ok {M : List Int} {x : Int} (h : M.length ≤ 40) : real.apok (rowsM M) [[.int .u16 x]] 1 2 = true := by
  simp [real, rowsM, flatD, maxLen]
  omega
theorem app_M (M : List Int) (x : Int) : real.app (rowsM M) [[.int .u16 x]] = rowsM (M ++ [x]) := by simp [real, rowsM]
/-- What the first loop has gathered. -/
structure gM (M : List Int) (i : Nat) : Prop where
  nd : M.Nodup
  rg : ∀ z ∈ M, 1 ≤ z ∧ z ≤ 65535
  ln : M.length ≤ i
theorem gM.keep {M : List Int} {i : Nat} (h : gM M i) : gM M (i + 1) := ⟨h.nd, h.rg, Nat.le_succ_of_le h.ln⟩
theorem gM.add {M : List Int} {i : Nat} {x : Int} (h : gM M i) (hx : x ∉ M) (h1 : 1 ≤ x ∧ x ≤ 65535) : gM (M ++ [x]) (i + 1) := by
  refine ⟨?_, ?_, by simp; exact h.ln⟩
  · rw [List.nodup_append]
    exact ⟨h.nd, by simp, fun a ha b hb e => hx (by simp at hb; subst hb; subst e; exact ha)⟩
  · intro z hz
    rcases List.mem_append.1 hz with hz | hz
    · exact h.rg z hz
    · simp at hz; subst hz; exact h1
theorem seen_no {M : List Int} {S : ML} {x : Int} (hS : S = sv M) (h : real.pickB true (real.bnot (real.mB S x 0)) false = true) : x ∉ M := by
  subst hS
  rw [mB_sv] at h
  simpa [real] using h
theorem gtr0 {x : Int} (h : real.cmp .gtr x 0 = true) : 1 ≤ x := by
  simp only [real, rCmp, decide_eq_true_eq] at h; omega
theorem put_svS {M : List Int} {S : ML} {x : Int} (hS : S = sv M) (h : x ∉ M) : real.mput S x (.bool true) = sv (M ++ [x]) := by
  subst hS; exact put_sv h
def ac (z : Int) : Int × Value := (z, acV z 3 [110])
theorem look_ac : ∀ (N : List Int) (x : Int), x ∉ N → Mk.look (N.map ac) x = none
  | [], x, _ => rfl
  | z :: N, x, h => by
    have ih := look_ac N x (fun hx => h (by simp [hx]))
    unfold Mk.look at ih ⊢
    rw [List.map_cons, List.find?_cons]
    have h' : ((ac z).1 == x) = false := by
      have : z ≠ x := fun e => h (by simp [e])
      simpa [ac] using this
    rw [h', ih]
theorem gC_ac (N : List Int) : gC (N.map ac) := ⟨fun p hp => by
  obtain ⟨z, -, rfl⟩ := List.mem_map.1 hp
  exact ⟨_, _, rfl⟩⟩
theorem add_ac {N : List Int} {x : Int} (h : x ∉ N) (hx : 1 ≤ x ∧ x ≤ 65535) (hl : N.length < 64) : addE (N.map ac) x 3 [110] = 0 ∧ addC (N.map ac) x 3 [110] = (N ++ [x]).map ac := by
  have e0 : rightB x 3 [110] = true := by
    have e3 : rightN [110] = true := by decide
    simp only [rightB, e3, hx, decide_true, and_self, Bool.and_true]
    decide
  have e : addE (N.map ac) x 3 [110] = 0 := by
    have : ¬ 64 ≤ (N.map ac).length := by simp; omega
    simp only [addE, e0, look_ac N x h, cond_true, Option.isSome_none, cond_false, if_neg this]
  refine ⟨e, ?_⟩
  rw [addC, if_pos e, put_new (look_ac N x h)]
  simp [ac]
theorem len_rows (M : List Int) : (rowsM M).length = M.length := by simp [rowsM]
theorem cI_M {M : List Int} {j : Int} {i : Nat} (hj : j = i) (hi : i < M.length) : real.cI (rowsM M) j 0 = M.getD i 0 := by
  subst hj
  have e : (rowsM M).getD i [] = [.int .u16 M[i]] := by
    rw [List.getD_eq_getElem?_getD, List.getElem?_eq_getElem (by rw [len_rows]; exact hi)]
    simp [rowsM]
  show (match rCell (rowsM M) (i : Int) 0 with | .int _ n => n | _ => 0) = M.getD i 0
  unfold rCell
  rw [Int.toNat_natCast, e, getM hi]
  rfl
theorem rM_g {M : List Int} {k : Nat} (hM : gM M k) : ∀ r ∈ rowsM M, gU r := by
  intro r hr
  obtain ⟨z, hz, rfl⟩ := List.mem_map.1 hr
  have := hM.rg z hz
  exact ⟨z, rfl, by omega, by omega⟩
theorem rgM {M : List Int} {k : Nat} (hM : gM M k) {i : Nat} (hi : i < M.length) : 1 ≤ M.getD i 0 ∧ M.getD i 0 ≤ 65535 := by
  rw [getM hi]
  exact hM.rg _ (List.getElem_mem _)
theorem wrapU {x : Int} (h : 1 ≤ x ∧ x ≤ 65535) : real.wrap .i64 x = x := wrap_i64 x (by omega) (by omega)
theorem remI {M : List Int} {j tu : Int} {i : Nat} (hj : j = i) (hi : i < M.length) (hl : M.length ≤ 40) (ht : 0 ≤ tu ∧ tu ≤ 255) : real.bin .rem .i64 (real.bin .add .i64 j (real.wrap .i64 tu)) (real.len (rowsM M)) = (((i + tu.toNat) % M.length : Nat) : Int) := by
  subst hj
  have e1 : real.wrap .i64 tu = tu := wrap_i64 tu (by omega) (by omega)
  rw [e1]
  simp only [real, rBin, len_rows]
  rw [wrap_i64 _ (by omega) (by omega)]
  rw [show (i : Int) + tu = ((i + tu.toNat : Nat) : Int) by omega]
  rfl
theorem ltL' {l : List (List D)} {j : Int} {i : Nat} (hj : j = i) (hi : i < l.length) : real.cmp .lss j (real.len l) = true := by
  simp only [real, rCmp, decide_eq_true_eq]; omega
theorem end_at {M : List Int} {R : List (List D)} {j : Int} {i : Nat} (hR : R = rowsM M) (hj : j = i) (hi : i ≤ M.length) (hb : real.cmp .lss j (real.len R) = false) : i = M.length := by
  subst hR
  simp only [real, rCmp, decide_eq_false_iff_not, len_rows] at hb
  omega
theorem ne_len {m m' : ML} {r r' : List (List D)} (hb : real.cmp .neq (real.len r) (real.len r') = true) (h : isList m r) (h' : isList m' r') (e : m.length = m'.length) : False := by
  have h1 := list_len h
  have h2 := list_len h'
  simp [real, rCmp, h1, h2, e] at hb
theorem ne_len2 {m : ML} {r R : List (List D)} (hb : real.pickB false true (real.cmp .neq (real.len r) (real.len R)) = true) (h : isList m r) (e : m.length = R.length) : False := by
  have h1 := list_len h
  simp [real, rCmp, h1, e] at hb
def rL (xs : List It.Acc) : List (List D) := xs.map rowA
theorem rL_len (xs : List It.Acc) : (rL xs).length = xs.length := by simp [rL]
theorem rL_at {xs : List It.Acc} {i : Nat} (hi : i < xs.length) : (rL xs).getD i [] = rowA xs[i] := by
  rw [List.getD_eq_getElem?_getD, List.getElem?_eq_getElem (by rw [rL_len]; exact hi)]
  simp [rL]
theorem rL_wf (xs : List It.Acc) : real.wf (rL xs) 3 = true := by
  simp only [real, rWf, List.all_eq_true]
  intro r hr
  obtain ⟨a, -, rfl⟩ := List.mem_map.1 hr
  rfl
theorem rL_ok3 {xs : List It.Acc} {j : Int} {i : Nat} (hj : j = i) (hi : i < xs.length) : real.okR (rL xs) j 0 [.int .i64, .int .u8, .str] = true := by
  subst hj
  simp only [real, Int.toNat_natCast, rL_at hi, rL_len]
  simp [rowOk, kdOk, rowA]
  omega
theorem rL_ok1 {xs : List It.Acc} {j : Int} {i : Nat} (hj : j = i) (hi : i < xs.length) : real.okR (rL xs) j 0 [.int .i64] = true := by
  subst hj
  simp only [real, Int.toNat_natCast, rL_at hi, rL_len]
  simp [rowOk, kdOk, rowA]
  omega
theorem rL_c {xs : List It.Acc} {j : Int} {i : Nat} (hj : j = i) (hi : i < xs.length) : real.cI (rL xs) j 0 = xs[i].c := by
  subst hj
  show (match rCell (rL xs) (i : Int) 0 with | .int _ n => n | _ => 0) = _
  unfold rCell
  rw [Int.toNat_natCast, rL_at hi]
  rfl
theorem bnot_deq {c k : Int} {s : List UInt8} (h : real.bnot (real.deq [.int .i64 c, .int .u8 k, .str s] [.int .i64 c, .int .u8 k, .str s]) = true) : False := by simp [real, deqL, deq1] at h
theorem lss_nil {j : Int} {i : Nat} (hj : j = i) (h : real.cmp .lss j (real.len []) = true) : False := by
  simp only [real, rCmp, decide_eq_true_eq, List.length_nil] at h
  omega
theorem gtr_pos {j : Int} {i : Nat} (hj : j = i) (h : real.cmp .gtr j 0 = true) : 0 < i := by
  simp only [real, rCmp, decide_eq_true_eq] at h
  omega
theorem sub1 {j : Int} {i : Nat} (hj : j = i) (h0 : 0 < i) (hi : i < 1000) : real.bin .sub .i64 j 1 = ((i - 1 : Nat) : Int) := by
  simp only [real, rBin]; rw [wrap_i64 _ (by omega) (by omega)]; omega
theorem no_leq {xs : List It.Acc} (h : xs.Pairwise fun x y => x.c < y.c) {j j' : Int} {i : Nat} (hj : j = i) (hj' : j' = ((i - 1 : Nat) : Int)) (h0 : 0 < i) (hi : i < xs.length) (hb' : real.pickB false true (real.pickB true (real.cmp .leq (real.cI (rL xs) j 0) (real.cI (rL xs) j' 0)) false) = true) : False := by
  have hb : real.cmp .leq (real.cI (rL xs) j 0) (real.cI (rL xs) j' 0) = true := hb'
  rw [rL_c hj hi, rL_c hj' (by omega)] at hb
  have := List.pairwise_iff_getElem.1 h (i - 1) i (by omega) hi (by omega)
  simp only [real, rCmp, decide_eq_true_eq] at hb
  omega
theorem K_Order0 (l : List (List D)) (hl : ∀ r ∈ l, gU r) (tu : Int) (ht : 0 ≤ tu ∧ tu ≤ 255) : CallE Try.prog 3 [.d (.imm l), .d (.int .u8 tu)] 0 [] (fun v n h => Nd (fun _ => Fin 0 (Gets fun v => v = .d (.bool true)) v n h)) := by
  obtain ⟨hc1, hc2, hc3⟩ := u_cut hl
  refine call_fn tysOK orders (C := C5) C5_ok ⟨[((25, 1000000), [0, 2, 4, 6, 8, 10, 12, 14, 16, 18, 20, 22, 24, 26, 28, 30, 32, 34, 36, 38, 40, 42, 44, 46, 48, 50, 52])], [], 0⟩ Try.func3 (by kernel_rfl) (by kernel_rfl) ?_
  intro oBin oCmp oWrap oNeg oCom oBnot oBeq oPickB oPickI oPickS oInb oSub2 oMinI oMaxI oSlen oSidx oScat oSsub oScmp oScok oLen oCI oCB oCS oCL oOkR oApp oApok oSub oSetc oRep oMkok oNthI oNthB oNthS oIteI oIteB oIteS oB2s oS2b oAllB oWf oDeq oMlen oMhas oMI oMB oMS oMok oMput oMdel oSgo oSru oSnx ho; cbv
  (repeat (any_goals (first
    | with_reducible refine And.intro ?_ ?_
    | exact True.intro
    | with_reducible exact rfl
    | (with_reducible refine Nd.mk ?_; try dsimp only)
    | (with_reducible refine Pz.mk ?_; cbv)
    | (with_reducible refine RgOK.mk ?_; kernel_rfl)
    | (with_reducible refine OrOK.mk ?_; kernel_rfl)
    | (with_reducible refine Al.mk (fun x hx => ?_); cbv)
    | (with_reducible refine hK' _ ?_; clear hK' K'; cbv)
    | (with_reducible refine brA.yes (by first | assumption | exact rfl | (simp only [show oCmp = real.cmp from congrArg Ar.cmp ho, show oBin = real.bin from congrArg Ar.bin ho, show oScmp = real.scmp from congrArg Ar.scmp ho, show oPickB = real.pickB from congrArg Ar.pickB ho]; decide)) ?_; cbv)
    | (with_reducible refine brA.no (by first | assumption | exact rfl | (simp only [show oCmp = real.cmp from congrArg Ar.cmp ho, show oBin = real.bin from congrArg Ar.bin ho, show oScmp = real.scmp from congrArg Ar.scmp ho, show oPickB = real.pickB from congrArg Ar.pickB ho]; decide)) ?_; cbv)
    | (with_reducible refine bcase (fun hb => ?_) (fun hb => ?_) <;> cbv)
    | (intro K' hK'; cbv))))
  · cases ho; exact hc1
  · cases ho; exact u_wf hl
  refine ⟨fun st => ∃ (i : Nat) (j : Int) (A : List (List D)) (M : List Int) (S : ML) (R : List (List D)), j = i ∧ i ≤ A.length ∧ A.length ≤ 40 ∧ (∀ r ∈ A, gU r) ∧ gM M i ∧ S = sv M ∧ R = rowsM M ∧
      ((M = [] ∧ st = ⟨mkF 130 0 [(1, .d (.int .u8 tu)), (5, .ptr 1 0), (6, .ptr 3 0), (7, .map 4), (8, .d .nilsl), (25, .d (.imm A)), (26, .d (.int .i64 (oLen A))), (27, .d (.int .i64 j))], 5, [(0, .mp .i64 []), (1, .cells [.map 0]), (2, .mp .i64 []), (3, .cells [.map 2]), (4, .mp .u16 S)]⟩) ∨
       st = ⟨mkF 130 0 [(1, .d (.int .u8 tu)), (5, .ptr 1 0), (6, .ptr 3 0), (7, .map 4), (8, .sl 5), (25, .d (.imm A)), (26, .d (.int .i64 (oLen A))), (27, .d (.int .i64 j))], 6, [(0, .mp .i64 []), (1, .cells [.map 0]), (2, .mp .i64 []), (3, .cells [.map 2]), (4, .mp .u16 S), (5, .row 1 R)]⟩),
    fun st => (40 - ctr 27 st).toNat, ⟨[], [], [1, 5, 6, 7, 8, 25, 26, 27], [0, 1, 2, 3, 4], 5⟩, ?_, ?_, ?_⟩
  · cbv
  · cases ho
    exact ⟨0, 0, _, [], [], [], rfl, Nat.zero_le _, hc2, hc3, ⟨List.nodup_nil, (fun z hz => by cases hz), Nat.le_refl _⟩, rfl, rfl, .inl ⟨rfl, rfl⟩⟩
  clear hc1 hc2 hc3 hl l
  rintro st1 ⟨i, j, A, M, S, R, hj, hi, hA, hg, hM, hS, hR, ⟨hnil, rfl⟩ | rfl⟩
  all_goals cbv
  all_goals (repeat (any_goals (first
    | with_reducible refine And.intro ?_ ?_
    | exact True.intro
    | with_reducible exact rfl
    | (with_reducible refine Nd.mk ?_; try dsimp only)
    | (with_reducible refine Pz.mk ?_; cbv)
    | (with_reducible refine RgOK.mk ?_; kernel_rfl)
    | (with_reducible refine OrOK.mk ?_; kernel_rfl)
    | (with_reducible refine Al.mk (fun x hx => ?_); cbv)
    | (with_reducible refine hK' _ ?_; clear hK' K'; cbv)
    | (with_reducible refine brA.yes (by first | assumption | exact rfl | (simp only [show oCmp = real.cmp from congrArg Ar.cmp ho, show oBin = real.bin from congrArg Ar.bin ho, show oScmp = real.scmp from congrArg Ar.scmp ho, show oPickB = real.pickB from congrArg Ar.pickB ho]; decide)) ?_; cbv)
    | (with_reducible refine brA.no (by first | assumption | exact rfl | (simp only [show oCmp = real.cmp from congrArg Ar.cmp ho, show oBin = real.bin from congrArg Ar.bin ho, show oScmp = real.scmp from congrArg Ar.scmp ho, show oPickB = real.pickB from congrArg Ar.pickB ho]; decide)) ?_; cbv)
    | (with_reducible refine bcase (fun hb => ?_) (fun hb => ?_) <;> cbv)
    | (intro K' hK'; cbv))))
  all_goals first
    | (((try clear hK' K'); cases ho; (try simp only [nc1] at *); (try simp only [Int.ofNat_eq_natCast] at *))
       first
       | with_reducible exact inbL hj (ltL hj (by assumption))
       | with_reducible exact u_wf hg
       | with_reducible exact u_ok hg hj (ltL hj (by assumption))
       | (subst hS; with_reducible exact sv_ok M)
       | (subst hR; with_reducible exact ap_ok (by have := hM.ln; omega))
       | exact ap_ok (M := []) (Nat.zero_le 40)
       | (have h5 := ltL hj (by assumption)
          have hz := u_z hg hj h5
          have hx : real.cI A j 0 ∉ M := seen_no hS (by assumption)
          have h1 : 1 ≤ real.cI A j 0 := gtr0 (by assumption)
          subst hnil
          refine ⟨⟨[], [], [1, 5, 6, 7, 8, 25, 26, 27], [0, 1, 2, 3, 4, 5], 6⟩, rfl, ⟨i + 1, real.bin .add .i64 j 1, A, [] ++ [real.cI A j 0], _, _, addL hj (by omega), by omega, hA, hg, hM.add hx ⟨h1, hz.2⟩, put_svS hS hx, by rw [← app_M]; rfl, .inr rfl⟩, ?_⟩
          show (40 - real.bin .add .i64 j 1).toNat < (40 - j).toNat
          rw [addL hj (by omega)]; omega)
       | (have h5 := ltL hj (by assumption)
          have hz := u_z hg hj h5
          have hx : real.cI A j 0 ∉ M := seen_no hS (by assumption)
          have h1 : 1 ≤ real.cI A j 0 := gtr0 (by assumption)
          refine ⟨⟨[], [(6, 5)], [1, 5, 6, 7, 8, 25, 26, 27], [0, 1, 2, 3, 4, 6], 6⟩, rfl, ⟨i + 1, real.bin .add .i64 j 1, A, M ++ [real.cI A j 0], _, _, addL hj (by omega), by omega, hA, hg, hM.add hx ⟨h1, hz.2⟩, put_svS hS hx, by rw [← app_M, ← hR], .inr rfl⟩, ?_⟩
          show (40 - real.bin .add .i64 j 1).toNat < (40 - j).toNat
          rw [addL hj (by omega)]; omega)
       | (have h5 := ltL hj (by assumption)
          first
          | (refine ⟨⟨[], [], [1, 5, 6, 7, 8, 25, 26, 27], [0, 1, 2, 3, 4], 5⟩, rfl, ⟨i + 1, real.bin .add .i64 j 1, A, M, S, R, addL hj (by omega), by omega, hA, hg, hM.keep, hS, hR, .inl ⟨hnil, rfl⟩⟩, ?_⟩
             show (40 - real.bin .add .i64 j 1).toNat < (40 - j).toNat
             rw [addL hj (by omega)]; omega)
          | (refine ⟨⟨[], [], [1, 5, 6, 7, 8, 25, 26, 27], [0, 1, 2, 3, 4, 5], 6⟩, rfl, ⟨i + 1, real.bin .add .i64 j 1, A, M, S, R, addL hj (by omega), by omega, hA, hg, hM.keep, hS, hR, .inr rfl⟩, ?_⟩
             show (40 - real.bin .add .i64 j 1).toNat < (40 - j).toNat
             rw [addL hj (by omega)]; omega)))
    | skip
  · refine ⟨fun st => ∃ (i : Nat) (j : Int), j = i ∧
       st = ⟨mkF 130 0 [(1, .d (.int .u8 tu)), (5, .ptr 1 0), (6, .ptr 3 0), (8, .d .nilsl), (47, .d (.int .i64 (oLen []))), (48, .d (.int .i64 j))], 4, [(0, .mp .i64 []), (1, .cells [.map 0]), (2, .mp .i64 []), (3, .cells [.map 2])]⟩,
       fun st => ((0 : Int) - ctr 48 st).toNat, ⟨[], [], [1, 5, 6, 8, 47, 48], [0, 1, 2, 3], 4⟩, ?_, ?_, ?_⟩
    · cbv
    · cases ho
      exact ⟨0, 0, rfl, rfl⟩
    rintro st1 ⟨i, j, hj, rfl⟩
    cbv
    (repeat (any_goals (first
    | with_reducible refine And.intro ?_ ?_
    | exact True.intro
    | with_reducible exact rfl
    | (with_reducible refine Nd.mk ?_; try dsimp only)
    | (with_reducible refine Pz.mk ?_; cbv)
    | (with_reducible refine RgOK.mk ?_; kernel_rfl)
    | (with_reducible refine OrOK.mk ?_; kernel_rfl)
    | (with_reducible refine Al.mk (fun x hx => ?_); cbv)
    | (with_reducible refine hK' _ ?_; clear hK' K'; cbv)
    | (with_reducible refine brA.yes (by first | assumption | exact rfl | (simp only [show oCmp = real.cmp from congrArg Ar.cmp ho, show oBin = real.bin from congrArg Ar.bin ho, show oScmp = real.scmp from congrArg Ar.scmp ho, show oPickB = real.pickB from congrArg Ar.pickB ho]; decide)) ?_; cbv)
    | (with_reducible refine brA.no (by first | assumption | exact rfl | (simp only [show oCmp = real.cmp from congrArg Ar.cmp ho, show oBin = real.bin from congrArg Ar.bin ho, show oScmp = real.scmp from congrArg Ar.scmp ho, show oPickB = real.pickB from congrArg Ar.pickB ho]; decide)) ?_; cbv)
    | (with_reducible refine bcase (fun hb => ?_) (fun hb => ?_) <;> cbv)
    | (intro K' hK'; cbv))))
    all_goals first
    | (((try clear hK' K'); cases ho; (try simp only [nc1] at *); (try simp only [Int.ofNat_eq_natCast] at *))
       exact (lss_nil hj (by assumption)).elim)
    | (cases ho
       first
       | with_reducible exact gC_nil
       | exact Nat.zero_le 1000
       | decide
       | with_reducible exact (ne_len hb (by assumption) (by assumption) rfl).elim
       | with_reducible exact (ne_len2 hb (by assumption) rfl).elim)
    | skip
    rename_i p hp hb9
    obtain ⟨hpx, xs, hxs, hxl, hri⟩ : p = x ∧ ∃ xs, p = rL xs ∧ xs.length ≤ 40 ∧ xs.Pairwise (fun x y => x.c < y.c) := by
      obtain ⟨e1, xs, e2, e3, e4⟩ := lists_one hp hx (List.Perm.refl []) List.nodup_nil
      exact ⟨e1, xs, e2, by rw [e3]; decide, e4⟩
    subst hpx
    refine ⟨fun st => ∃ (i : Nat) (j : Int), j = i ∧ i ≤ xs.length ∧ st = ⟨mkF 130 0 [(14, .d (.imm p)), (15, .d (.imm p)), (97, .d (.int .i64 (oLen p))), (98, .d (.int .i64 j))], 0, []⟩, fun st => ((xs.length : Int) - ctr 98 st).toNat, ⟨[4, 5], [], [14, 15, 97, 98], [], 0⟩, ?_, ?_, ?_⟩
    · cbv
    · cases ho
      exact ⟨0, 0, rfl, Nat.zero_le _, rfl⟩
    clear hp hx hg hA hR hS hM
    rintro st1 ⟨i3, j3, hj3, hi3, rfl⟩
    cbv
    (repeat (any_goals (first
    | with_reducible refine And.intro ?_ ?_
    | exact True.intro
    | with_reducible exact rfl
    | (with_reducible refine Nd.mk ?_; try dsimp only)
    | (with_reducible refine Pz.mk ?_; cbv)
    | (with_reducible refine RgOK.mk ?_; kernel_rfl)
    | (with_reducible refine OrOK.mk ?_; kernel_rfl)
    | (with_reducible refine Al.mk (fun x hx => ?_); cbv)
    | (with_reducible refine hK' _ ?_; clear hK' K'; cbv)
    | (with_reducible refine brA.yes (by first | assumption | exact rfl | (simp only [show oCmp = real.cmp from congrArg Ar.cmp ho, show oBin = real.bin from congrArg Ar.bin ho, show oScmp = real.scmp from congrArg Ar.scmp ho, show oPickB = real.pickB from congrArg Ar.pickB ho]; decide)) ?_; cbv)
    | (with_reducible refine brA.no (by first | assumption | exact rfl | (simp only [show oCmp = real.cmp from congrArg Ar.cmp ho, show oBin = real.bin from congrArg Ar.bin ho, show oScmp = real.scmp from congrArg Ar.scmp ho, show oPickB = real.pickB from congrArg Ar.pickB ho]; decide)) ?_; cbv)
    | (with_reducible refine bcase (fun hb => ?_) (fun hb => ?_) <;> cbv)
    | (intro K' hK'; cbv))))
    all_goals ((try clear hK' K'); cases ho; (try simp only [nc1] at *); (try simp only [Int.ofNat_eq_natCast] at *))
    all_goals subst hxs
    all_goals first
      | (have hi' : i3 < xs.length := by rw [← rL_len]; exact ltL hj3 (by assumption)
         first
         | with_reducible exact inbL hj3 (by rw [rL_len]; exact hi')
         | with_reducible exact rL_wf xs
         | with_reducible exact rL_ok3 hj3 hi'
         | with_reducible exact rL_ok1 hj3 hi'
         | with_reducible exact (bnot_deq (by assumption)).elim
         | (have h0 : 0 < i3 := gtr_pos hj3 (by assumption)
            have hs := sub1 hj3 h0 (by omega)
            first
            | with_reducible exact inbL hs (by rw [rL_len]; omega)
            | with_reducible exact rL_ok1 hs (by omega)
            | with_reducible exact rL_ok3 hs (by omega)
            | with_reducible exact (no_leq hri hj3 hs h0 hi' (by assumption)).elim)
         | (refine ⟨⟨[], [], [14, 15, 97, 98], [], 0⟩, rfl, ⟨i3 + 1, real.bin .add .i64 j3 1, addL hj3 (by omega), by omega, rfl⟩, ?_⟩
            show ((xs.length : Int) - real.bin .add .i64 j3 1).toNat < ((xs.length : Int) - j3).toNat
            rw [addL hj3 (by omega)]; omega))
      | with_reducible exact (bnot_deq (by assumption)).elim
      | exact fin_b rfl
      | skip
  · refine ⟨fun st => ∃ (i : Nat) (j : Int) (SA SB : ML), j = i ∧ i ≤ M.length ∧ SA = (M.take i).map ac ∧ SB = ((List.range i).map fun q => M.getD ((q + tu.toNat) % M.length) 0).map ac ∧
       st = ⟨mkF 130 0 [(1, .d (.int .u8 tu)), (5, .ptr 1 0), (6, .ptr 3 0), (8, .d (.imm R)), (47, .d (.int .i64 (oLen R))), (48, .d (.int .i64 j))], 4, [(0, .mp .i64 SA), (1, .cells [.map 0]), (2, .mp .i64 SB), (3, .cells [.map 2])]⟩,
       fun st => ((M.length : Int) - ctr 48 st).toNat, ⟨[5], [], [1, 5, 6, 8, 47, 48], [0, 1, 2, 3], 4⟩, ?_, ?_, ?_⟩
    · cbv
    · cases ho
      exact ⟨0, 0, [], [], rfl, Nat.zero_le _, rfl, rfl, rfl⟩
    rintro st1 ⟨i, j, SA, SB, hj, hi, hSA, hSB, rfl⟩
    cbv
    (repeat (any_goals (first
    | with_reducible refine And.intro ?_ ?_
    | exact True.intro
    | with_reducible exact rfl
    | (with_reducible refine Nd.mk ?_; try dsimp only)
    | (with_reducible refine Pz.mk ?_; cbv)
    | (with_reducible refine RgOK.mk ?_; kernel_rfl)
    | (with_reducible refine OrOK.mk ?_; kernel_rfl)
    | (with_reducible refine Al.mk (fun x hx => ?_); cbv)
    | (with_reducible refine hK' _ ?_; clear hK' K'; cbv)
    | (with_reducible refine brA.yes (by first | assumption | exact rfl | (simp only [show oCmp = real.cmp from congrArg Ar.cmp ho, show oBin = real.bin from congrArg Ar.bin ho, show oScmp = real.scmp from congrArg Ar.scmp ho, show oPickB = real.pickB from congrArg Ar.pickB ho]; decide)) ?_; cbv)
    | (with_reducible refine brA.no (by first | assumption | exact rfl | (simp only [show oCmp = real.cmp from congrArg Ar.cmp ho, show oBin = real.bin from congrArg Ar.bin ho, show oScmp = real.scmp from congrArg Ar.scmp ho, show oPickB = real.pickB from congrArg Ar.pickB ho]; decide)) ?_; cbv)
    | (with_reducible refine bcase (fun hb => ?_) (fun hb => ?_) <;> cbv)
    | (intro K' hK'; cbv))))
    all_goals first
    | (((try clear hK' K'); cases ho; (try simp only [nc1] at *); (try simp only [Int.ofNat_eq_natCast] at *))
       have hn : M.length ≤ 40 := by have := hM.ln; omega
       subst hR
       have hi' : i < M.length := by rw [← len_rows]; exact ltL hj (by assumption)
       have hx := rgM hM hi'
       have hm' : (i + tu.toNat) % M.length < M.length := Nat.mod_lt _ (by omega)
       have hy := rgM hM hm'
       have hrem := remI hj hi' hn ht
       have eA := add_ac (take_no hM.nd hi') hx (by simp; omega)
       have eB := add_ac (rot_no hM.nd (t := tu.toNat) hi') hy (by simp; omega)
       rw [← hSA] at eA
       rw [← hSB] at eB
       have hcx : real.wrap .i64 (real.cI (rowsM M) j 0) = M.getD i 0 := by rw [cI_M hj hi']; exact wrapU hx
       have hcy : real.wrap .i64 (real.cI (rowsM M) (real.bin .rem .i64 (real.bin .add .i64 j (real.wrap .i64 tu)) (real.len (rowsM M))) 0) = M.getD ((i + tu.toNat) % M.length) 0 := by rw [hrem, cI_M rfl hm']; exact wrapU hy
       first
       | omega
       | with_reducible exact inbL hj (by rw [len_rows]; exact hi')
       | with_reducible exact u_wf (rM_g hM)
       | with_reducible exact u_ok (rM_g hM) hj (by rw [len_rows]; exact hi')
       | with_reducible exact inbL hrem (by rw [len_rows]; exact hm')
       | with_reducible exact u_ok (rM_g hM) hrem (by rw [len_rows]; exact hm')
       | (simp only [real, rCmp, len_rows, bne_iff_ne, ne_eq]; omega)
       | (subst hSA; with_reducible exact gC_ac _)
       | (subst hSB; with_reducible exact gC_ac _)
       | (exfalso
          simp only [hcx, hcy, eA.1, eA.2, eB.1, eB.2] at *
          subst_vars
          first | exact absurd ‹real.cmp BinOp.neq _ 0 = true› (by decide) | (simp [real, rCmp, eA.1, eB.1] at *; done))
       | (refine ⟨⟨[], [], [1, 5, 6, 8, 47, 48], [0, 1, 2, 3], 4⟩, rfl, ⟨i + 1, real.bin .add .i64 j 1, _, _, addL hj (by omega), by omega, ?_, ?_, rfl⟩, ?_⟩
          · subst_vars
            show addC _ _ 3 [110] = _
            rw [hcx, eA.2, List.take_add_one, List.getElem?_eq_getElem hi', getM hi']
            try rfl
          · subst_vars
            show addC _ _ 3 [110] = _
            rw [hcy, eB.2, List.range_succ]
            exact congrArg (List.map ac) (by rw [List.map_append]; rfl)
          · show ((M.length : Int) - real.bin .add .i64 j 1).toNat < ((M.length : Int) - j).toNat
            rw [addL hj (by omega)]; omega)
       | (trace "R2"; trace_state; sorry))
    | (cases ho
       have hiM : i = M.length := end_at hR hj hi (by assumption)
       have hlA : SA.length = M.length := by rw [hSA]; simp; omega
       have hlB : SB.length = M.length := by rw [hSB]; simp; omega
       have hln : M.length ≤ 40 := by have := hM.ln; omega
       have hlR : R.length = M.length := by rw [hR, len_rows]
       first
       | (subst hSA; with_reducible exact gC_ac _)
       | (subst hSB; with_reducible exact gC_ac _)
       | omega
       | with_reducible exact (ne_len hb (by assumption) hx (by omega)).elim
       | with_reducible exact (ne_len2 hb (by assumption) (by omega)).elim)
    | skip
    rename_i p hp hb9
    obtain ⟨hpx, xs, hxs, hxl, hri⟩ : p = x ∧ ∃ xs, p = rL xs ∧ xs.length ≤ 40 ∧ xs.Pairwise (fun x y => x.c < y.c) := by
      cases ho
      have hiM := end_at hR hj hi (by assumption)
      have hperm : SA.Perm SB := by
        rw [hSA, hSB, hiM, List.take_length]
        exact ((rot_perm hM.nd tu.toNat).map ac).symm
      have hcn : (SA.map (·.1)).Nodup := by
        rw [hSA, hiM, List.take_length, List.map_map]
        show (M.map (fun z => z)).Nodup
        rw [List.map_id']
        exact hM.nd
      obtain ⟨e1, xs, e2, e3, e4⟩ := lists_one hp hx hperm hcn
      exact ⟨e1, xs, e2, by have := hM.ln; rw [e3, hSA]; simp; omega, e4⟩
    subst hpx
    refine ⟨fun st => ∃ (i : Nat) (j : Int), j = i ∧ i ≤ xs.length ∧ st = ⟨mkF 130 0 [(14, .d (.imm p)), (15, .d (.imm p)), (97, .d (.int .i64 (oLen p))), (98, .d (.int .i64 j))], 0, []⟩, fun st => ((xs.length : Int) - ctr 98 st).toNat, ⟨[4, 5], [], [14, 15, 97, 98], [], 0⟩, ?_, ?_, ?_⟩
    · cbv
    · cases ho
      exact ⟨0, 0, rfl, Nat.zero_le _, rfl⟩
    clear hSA hSB hp hx hR hS hM hg hA
    rintro st1 ⟨i3, j3, hj3, hi3, rfl⟩
    cbv
    (repeat (any_goals (first
    | with_reducible refine And.intro ?_ ?_
    | exact True.intro
    | with_reducible exact rfl
    | (with_reducible refine Nd.mk ?_; try dsimp only)
    | (with_reducible refine Pz.mk ?_; cbv)
    | (with_reducible refine RgOK.mk ?_; kernel_rfl)
    | (with_reducible refine OrOK.mk ?_; kernel_rfl)
    | (with_reducible refine Al.mk (fun x hx => ?_); cbv)
    | (with_reducible refine hK' _ ?_; clear hK' K'; cbv)
    | (with_reducible refine brA.yes (by first | assumption | exact rfl | (simp only [show oCmp = real.cmp from congrArg Ar.cmp ho, show oBin = real.bin from congrArg Ar.bin ho, show oScmp = real.scmp from congrArg Ar.scmp ho, show oPickB = real.pickB from congrArg Ar.pickB ho]; decide)) ?_; cbv)
    | (with_reducible refine brA.no (by first | assumption | exact rfl | (simp only [show oCmp = real.cmp from congrArg Ar.cmp ho, show oBin = real.bin from congrArg Ar.bin ho, show oScmp = real.scmp from congrArg Ar.scmp ho, show oPickB = real.pickB from congrArg Ar.pickB ho]; decide)) ?_; cbv)
    | (with_reducible refine bcase (fun hb => ?_) (fun hb => ?_) <;> cbv)
    | (intro K' hK'; cbv))))
    all_goals ((try clear hK' K'); cases ho; (try simp only [nc1] at *); (try simp only [Int.ofNat_eq_natCast] at *))
    all_goals subst hxs
    all_goals first
      | (have hi' : i3 < xs.length := by rw [← rL_len]; exact ltL hj3 (by assumption)
         first
         | with_reducible exact inbL hj3 (by rw [rL_len]; exact hi')
         | with_reducible exact rL_wf xs
         | with_reducible exact rL_ok3 hj3 hi'
         | with_reducible exact rL_ok1 hj3 hi'
         | with_reducible exact (bnot_deq (by assumption)).elim
         | (have h0 : 0 < i3 := gtr_pos hj3 (by assumption)
            have hs := sub1 hj3 h0 (by omega)
            first
            | with_reducible exact inbL hs (by rw [rL_len]; omega)
            | with_reducible exact rL_ok1 hs (by omega)
            | with_reducible exact rL_ok3 hs (by omega)
            | with_reducible exact (no_leq hri hj3 hs h0 hi' (by assumption)).elim)
         | (refine ⟨⟨[], [], [14, 15, 97, 98], [], 0⟩, rfl, ⟨i3 + 1, real.bin .add .i64 j3 1, addL hj3 (by omega), by omega, rfl⟩, ?_⟩
            show ((xs.length : Int) - real.bin .add .i64 j3 1).toNat < ((xs.length : Int) - j3).toNat
            rw [addL hj3 (by omega)]; omega))
      | with_reducible exact (bnot_deq (by assumption)).elim
      | exact fin_b rfl
      | skip

end Go.Proofs.Yteakfibolfapiaa.Ab
