/- A copy of a chart; the writer of bytes, by the executor. -/
import Derived.Test.YteakfibolfapiaaTrRrA
import Derived.Test.YteakfibolfapiaaTrCo1
namespace Go.Proofs.Yteakfibolfapiaa.Ab
open Go Go.RowKit Go.Sort
set_option linter.unusedVariables false
set_option linter.unusedSimpArgs false
set_option maxRecDepth 100000
set_option maxHeartbeats 8000000
/-! a copy -/
def S_MClone (j : Nat) (K : CallK) (n : Nat) (h : Hp) : Prop := match hget h j with
  | some (.mp .i64 m) => K (.map n) (n + 1) (h ++ [(n, .mp .i64 m)])
  | _ => False
theorem L_MClone {j n : Nat} {h : Hp} {K : CallK} (hK : S_MClone j K n h) : CallE Try.prog 55 [.map j] n h K := by
  unfold S_MClone at hK
  split at hK
  case h_2 => exact hK.elim
  rename_i m hg2
  refine .enter _ Try.func55 (by kernel_rfl) (by kernel_rfl) (fun ρ w vs r a => ?_)
  obtain ⟨v0, rest, rfl, ⟨hv, r0, rfl⟩, hrest⟩ := a
  obtain rfl : rest = [] := hrest
  obtain ⟨bj, h4, h5⟩ := obj_mp r hg2
  obtain rfl : bj = r0 := by
    rw [h4] at hv
    simpa using hv
  have h5' := h5
  obtain ⟨hnd, E, c, hb, h6, h7, h8⟩ := h5
  refine (AnyW.maps_Clone Try.clAcc bj E c w hb).mono ?_
  rintro e w' ⟨rfl, rfl⟩
  have hgr : Grows w (w.alloc (.map E c)) := fun b o hbo => Tr.blk_old hbo
  have hnew : ∀ b, blkOf (.map (some w.heap.size)) = some b → w.heap.size ≤ b := by
    intro b hb
    cases hb
    exact Nat.le_refl _
  have hat : (w.alloc (.map E c)).heap[w.heap.size]? = some (.map E c) := Tr.blk_new _ _
  refine ⟨_, rfl, .map n, upd ρ n (.map (some w.heap.size)), n + 1, h ++ [(n, .mp .i64 m)], hK, r.new (o := .mp .i64 m) hgr hnew (fun hkp => ⟨_, upd_same _ _ _, hnd, E, c, hat, h6, h7, h8⟩), by omega, ⟨upd_same _ _ _, _, rfl⟩, goes_new r hgr hnew rfl rfl rfl (by simp)⟩
def W1 : CallS := fun f args n h K => match f with
  | 55 => (match args with | [.map j] => S_MClone j K n h | _ => False)
  | _ => False
theorem W1_ok : ∀ f args n h K, W1 f args n h K → CallE Try.prog f args n h K := by
  intro f args n h K hc
  unfold W1 at hc
  split at hc
  · split at hc
    · exact L_MClone hc
    · exact hc.elim
  · exact hc.elim
theorem K_Copy0 (m : ML) : CallE Try.prog 29 [.ptr 1 0] 2 [(0, .mp .i64 m), (1, .cells [.map 0])]
    (fun v n h => Nd (fun _ => Fin 2 (fun v n h => v = .ptr 3 0 ∧ n = 4 ∧ h = [(0, .mp .i64 m), (1, .cells [.map 0]), (2, .mp .i64 m), (3, .cells [.map 2])]) v n h)) := by
  refine call_fn tysOK orders (C := W1) W1_ok H0 Try.func29 (by kernel_rfl) (by kernel_rfl) ?_
  intro oBin oCmp oWrap oNeg oCom oBnot oBeq oPickB oPickI oPickS oInb oSub2 oMinI oMaxI oSlen oSidx oScat oSsub oScmp oScok oLen oCI oCB oCS oCL oOkR oApp oApok oSub oSetc oRep oMkok oNthI oNthB oNthS oIteI oIteB oIteS oB2s oS2b oAllB oWf oDeq oMlen oMhas oMI oMB oMS oMok oMput oMdel oSgo oSru oSnx ho; cbv
  (repeat (any_goals (first
    | with_reducible refine And.intro ?_ ?_
    | exact True.intro
    | with_reducible exact rfl
    | (with_reducible refine Nd.mk ?_; try dsimp only)
    | (with_reducible refine Pz.mk ?_; cbv)
    | (with_reducible refine RgOK.mk ?_; kernel_rfl)
    | (with_reducible refine OrOK.mk ?_; kernel_rfl)
    | (with_reducible refine Al.mk (fun x hx => ?_); cbv)
    | (with_reducible refine hK' _ ?_; clear hK' K'; cbv)
    | (with_reducible refine brA.yes (by first | assumption | exact rfl | (simp only [show oCmp = real.cmp from congrArg Ar.cmp ho, show oBin = real.bin from congrArg Ar.bin ho, show oScmp = real.scmp from congrArg Ar.scmp ho, show oPickB = real.pickB from congrArg Ar.pickB ho, show oBnot = real.bnot from congrArg Ar.bnot ho]; decide)) ?_; cbv)
    | (with_reducible refine brA.no (by first | assumption | exact rfl | (simp only [show oCmp = real.cmp from congrArg Ar.cmp ho, show oBin = real.bin from congrArg Ar.bin ho, show oScmp = real.scmp from congrArg Ar.scmp ho, show oPickB = real.pickB from congrArg Ar.pickB ho, show oBnot = real.bnot from congrArg Ar.bnot ho]; decide)) ?_; cbv)
    | (with_reducible refine bcase (fun hb => ?_) (fun hb => ?_) <;> cbv)
    | (intro K' hK'; cbv))))
  all_goals ((try clear hK' K'); cases ho; (try simp only [nc1] at *); (try simp only [Int.ofNat_eq_natCast] at *))
  all_goals first
    | exact ⟨⟨[], [], [0], [0, 1, 2, 3], 4⟩, _, 4, _, rfl, rfl, rfl, rfl, rfl⟩
    | trace_state
def S_Copy (i : Nat) (K : CallK) (n : Nat) (h : Hp) : Prop := pat2 h i fun j m => Nd (fun _ => i < n ∧ j < n ∧ i ≠ j) ∧ K (.ptr (n + 1) 0) (n + 2) (out2 i j h m ++ [(n, .mp .i64 m), (n + 1, .cells [.map n])])
theorem L_Copy {i n : Nat} {h : Hp} {K : CallK} (hK : S_Copy i K n h) : CallE Try.prog 29 [.ptr i 0] n h K := by
  obtain ⟨j, m, hg, hg2, ⟨⟨hi, hj, hij⟩⟩, hk⟩ := pat2_elim hK
  refine call_recv2 (CallE.fin (K_Copy0 m)) rfl hi hj hij hg hg2 ?_
  rintro v n1 h1 ⟨rfl, rfl, rfl⟩ -
  have e0 : lift (two i j) 2 n 0 = j := by simp [lift]; rfl
  have e1 : lift (two i j) 2 n 1 = i := by simp [lift]; rfl
  have e2 : lift (two i j) 2 n 2 = n := by simp [lift]; rfl
  have e3 : lift (two i j) 2 n 3 = n + 1 := by simp [lift]; rfl
  simp only [renH, renV, renO, renVs, e0, e1, e2, e3]
  simpa [out2] using hk
/-! the writer's place -/
def wrN : Ob := .cells [.d .nilsl, .d (.bool false)]
def patW (h : Hp) (i : Nat) (p : Prop) (q : Nat → List (List D) → Prop) : Prop := match hget h i with
  | some (.cells [.d .nilsl, .d (.bool false)]) => p
  | some (.cells [.sl j, .d (.bool false)]) => (match hget h j with | some (.row 1 r) => q j r | _ => False)
  | _ => False
theorem patW_elim {h : Hp} {i : Nat} {p : Prop} {q : Nat → List (List D) → Prop} (hp : patW h i p q) : (hget h i = some (.cells [.d .nilsl, .d (.bool false)]) ∧ p) ∨ ∃ j r, hget h i = some (.cells [.sl j, .d (.bool false)]) ∧ hget h j = some (.row 1 r) ∧ q j r := by
  unfold patW at hp
  split at hp
  · rename_i h1
    exact .inl ⟨h1, hp⟩
  · rename_i j h1
    split at hp
    · rename_i r h2
      exact .inr ⟨j, r, h1, h2, hp⟩
    · exact hp.elim
  · exact hp.elim
theorem call_recvN {f i n : Nat} {h : Hp} {rest : List AV} {K0 K : CallK} (hc : CallE Try.prog f (.ptr 0 0 :: rest) 1 [(0, .cells [.d .nilsl, .d (.bool false)])] K0) (hr : idsVs rest = []) (hi : i < n) (hg : hget h i = some (.cells [.d .nilsl, .d (.bool false)]))
    (hK : ∀ v n1 h1, K0 v n1 h1 → 1 ≤ n1 → K (renV (lift (fun _ => i) 1 n) v) (n + (n1 - 1)) (outs (fun _ => i) 1 h ++ renH (lift (fun _ => i) 1 n) h1)) : CallE Try.prog f (.ptr i 0 :: rest) n h K := call_recv hc hr rfl hi hg hK
theorem call_recvW {f i j n : Nat} {r : List (List D)} {h : Hp} {rest : List AV} {K0 K : CallK} (hc : CallE Try.prog f (.ptr 1 0 :: rest) 2 [(0, .row 1 r), (1, .cells [.sl 0, .d (.bool false)])] K0) (hr : idsVs rest = []) (hi : i < n) (hj : j < n) (hij : i ≠ j) (hg : hget h i = some (.cells [.sl j, .d (.bool false)])) (hg2 : hget h j = some (.row 1 r))
    (hK : ∀ v n1 h1, K0 v n1 h1 → 2 ≤ n1 → K (renV (lift (two i j) 2 n) v) (n + (n1 - 2)) (outs (two i j) 2 h ++ renH (lift (two i j) 2 n) h1)) : CallE Try.prog f (.ptr i 0 :: rest) n h K := by
  refine call_frame (g := two i j) hc ?_ rfl (fun a b ha hb e => ?_) (fun a ha => ?_) ?_ ?_ (fun v n1 h1 hn h2 => hK v n1 h1 h2 hn)
  · simp only [renVs, renV]
    rw [renVs_none rest hr]
    rfl
  · have h1 : a = 0 ∨ a = 1 := by omega
    have h2 : b = 0 ∨ b = 1 := by omega
    rcases h1 with rfl | rfl <;> rcases h2 with rfl | rfl <;> first | rfl | exact absurd e (fun e => hij (by simp [two] at e; omega))
  · have h1 : a = 0 ∨ a = 1 := by omega
    rcases h1 with rfl | rfl
    · exact hj
    · exact hi
  · intro a o hm
    simp only [List.mem_cons, Prod.mk.injEq, List.not_mem_nil, or_false] at hm
    rcases hm with ⟨rfl, rfl⟩ | ⟨rfl, rfl⟩
    · exact ⟨hget_mem hg2, fun j hj => by cases hj⟩
    · exact ⟨hget_mem hg, fun j hj => by simp [idsO, idsVs, idsV] at hj; omega⟩
  · intro j hj
    rw [show idsVs (.ptr 1 0 :: rest) = [1] ++ idsVs rest from rfl, hr] at hj
    simp at hj
    omega
/-! put -/
def kP (i : Nat) (r : List (List D)) : CallK := fun v n h => v = .ptr i 0 ∧ n = i + 2 ∧ h = [(i, .cells [.sl (i + 1), .d (.bool false)]), (i + 1, .row 1 r)]
theorem apokB {r : List (List D)} {s : List UInt8} (h1 : r.length ≤ 10000000) (h2 : s.length ≤ 10000000) : real.apok r (real.s2b s) 1 1 = true := by
  simp [real, flatD, maxLen]
  omega
theorem K_putN0 (s : List UInt8) (hs : s.length ≤ 10000000) : CallE Try.prog 77 [.ptr 0 0, .d (.str s), .d (.bool true)] 1 [(0, .cells [.d .nilsl, .d (.bool false)])] (fun v n h => Nd (fun _ => Fin 1 (kP 0 (real.app [] (real.s2b s))) v n h)) := by
  refine call_fn tysOK orders (C := C0) C0_ok H0 Try.func77 (by kernel_rfl) (by kernel_rfl) ?_
  intro oBin oCmp oWrap oNeg oCom oBnot oBeq oPickB oPickI oPickS oInb oSub2 oMinI oMaxI oSlen oSidx oScat oSsub oScmp oScok oLen oCI oCB oCS oCL oOkR oApp oApok oSub oSetc oRep oMkok oNthI oNthB oNthS oIteI oIteB oIteS oB2s oS2b oAllB oWf oDeq oMlen oMhas oMI oMB oMS oMok oMput oMdel oSgo oSru oSnx ho; cbv
  (repeat (any_goals (first
    | with_reducible refine And.intro ?_ ?_
    | exact True.intro
    | with_reducible exact rfl
    | (with_reducible refine Nd.mk ?_; try dsimp only)
    | (with_reducible refine Pz.mk ?_; cbv)
    | (with_reducible refine RgOK.mk ?_; kernel_rfl)
    | (with_reducible refine OrOK.mk ?_; kernel_rfl)
    | (with_reducible refine Al.mk (fun x hx => ?_); cbv)
    | (with_reducible refine hK' _ ?_; clear hK' K'; cbv)
    | (with_reducible refine brA.yes (by first | assumption | exact rfl | (simp only [show oCmp = real.cmp from congrArg Ar.cmp ho, show oBin = real.bin from congrArg Ar.bin ho, show oScmp = real.scmp from congrArg Ar.scmp ho, show oPickB = real.pickB from congrArg Ar.pickB ho, show oBnot = real.bnot from congrArg Ar.bnot ho]; decide)) ?_; cbv)
    | (with_reducible refine brA.no (by first | assumption | exact rfl | (simp only [show oCmp = real.cmp from congrArg Ar.cmp ho, show oBin = real.bin from congrArg Ar.bin ho, show oScmp = real.scmp from congrArg Ar.scmp ho, show oPickB = real.pickB from congrArg Ar.pickB ho, show oBnot = real.bnot from congrArg Ar.bnot ho]; decide)) ?_; cbv)
    | (with_reducible refine bcase (fun hb => ?_) (fun hb => ?_) <;> cbv)
    | (intro K' hK'; cbv))))
  all_goals ((try clear hK' K'); cases ho; (try simp only [nc1] at *); (try simp only [Int.ofNat_eq_natCast] at *))
  all_goals first
    | exact apokB (Nat.zero_le _) hs
    | exact ⟨⟨[], [], [0], [0, 1], 2⟩, _, 2, _, rfl, rfl, rfl, rfl, rfl⟩
    | trace_state
theorem K_put0 (r : List (List D)) (s : List UInt8) (hr : r.length ≤ 10000000) (hs : s.length ≤ 10000000) : CallE Try.prog 77 [.ptr 1 0, .d (.str s), .d (.bool true)] 2 [(0, .row 1 r), (1, .cells [.sl 0, .d (.bool false)])] (fun v n h => Nd (fun _ => Fin 2 (kP 1 (real.app r (real.s2b s))) v n h)) := by
  refine call_fn tysOK orders (C := C0) C0_ok H0 Try.func77 (by kernel_rfl) (by kernel_rfl) ?_
  intro oBin oCmp oWrap oNeg oCom oBnot oBeq oPickB oPickI oPickS oInb oSub2 oMinI oMaxI oSlen oSidx oScat oSsub oScmp oScok oLen oCI oCB oCS oCL oOkR oApp oApok oSub oSetc oRep oMkok oNthI oNthB oNthS oIteI oIteB oIteS oB2s oS2b oAllB oWf oDeq oMlen oMhas oMI oMB oMS oMok oMput oMdel oSgo oSru oSnx ho; cbv
  (repeat (any_goals (first
    | with_reducible refine And.intro ?_ ?_
    | exact True.intro
    | with_reducible exact rfl
    | (with_reducible refine Nd.mk ?_; try dsimp only)
    | (with_reducible refine Pz.mk ?_; cbv)
    | (with_reducible refine RgOK.mk ?_; kernel_rfl)
    | (with_reducible refine OrOK.mk ?_; kernel_rfl)
    | (with_reducible refine Al.mk (fun x hx => ?_); cbv)
    | (with_reducible refine hK' _ ?_; clear hK' K'; cbv)
    | (with_reducible refine brA.yes (by first | assumption | exact rfl | (simp only [show oCmp = real.cmp from congrArg Ar.cmp ho, show oBin = real.bin from congrArg Ar.bin ho, show oScmp = real.scmp from congrArg Ar.scmp ho, show oPickB = real.pickB from congrArg Ar.pickB ho, show oBnot = real.bnot from congrArg Ar.bnot ho]; decide)) ?_; cbv)
    | (with_reducible refine brA.no (by first | assumption | exact rfl | (simp only [show oCmp = real.cmp from congrArg Ar.cmp ho, show oBin = real.bin from congrArg Ar.bin ho, show oScmp = real.scmp from congrArg Ar.scmp ho, show oPickB = real.pickB from congrArg Ar.pickB ho, show oBnot = real.bnot from congrArg Ar.bnot ho]; decide)) ?_; cbv)
    | (with_reducible refine bcase (fun hb => ?_) (fun hb => ?_) <;> cbv)
    | (intro K' hK'; cbv))))
  all_goals ((try clear hK' K'); cases ho; (try simp only [nc1] at *); (try simp only [Int.ofNat_eq_natCast] at *))
  all_goals first
    | exact apokB hr hs
    | exact ⟨⟨[], [], [0], [1, 2], 3⟩, _, 3, _, rfl, rfl, rfl, rfl, rfl⟩
    | trace_state
theorem K_putNil0 (s : List UInt8) (b : Bool) : CallE Try.prog 77 [.d .nilp, .d (.str s), .d (.bool b)] 0 [] (fun v n h => Nd (fun _ => Fin 0 (Gets fun v => v = .d .nilp) v n h)) := by
  refine call_fn tysOK orders (C := C0) C0_ok H0 Try.func77 (by kernel_rfl) (by kernel_rfl) ?_
  intro oBin oCmp oWrap oNeg oCom oBnot oBeq oPickB oPickI oPickS oInb oSub2 oMinI oMaxI oSlen oSidx oScat oSsub oScmp oScok oLen oCI oCB oCS oCL oOkR oApp oApok oSub oSetc oRep oMkok oNthI oNthB oNthS oIteI oIteB oIteS oB2s oS2b oAllB oWf oDeq oMlen oMhas oMI oMB oMS oMok oMput oMdel oSgo oSru oSnx ho; cbv
  (repeat (any_goals (first
    | with_reducible refine And.intro ?_ ?_
    | exact True.intro
    | with_reducible exact rfl
    | (with_reducible refine Nd.mk ?_; try dsimp only)
    | (with_reducible refine Pz.mk ?_; cbv)
    | (with_reducible refine RgOK.mk ?_; kernel_rfl)
    | (with_reducible refine OrOK.mk ?_; kernel_rfl)
    | (with_reducible refine Al.mk (fun x hx => ?_); cbv)
    | (with_reducible refine hK' _ ?_; clear hK' K'; cbv)
    | (with_reducible refine brA.yes (by first | assumption | exact rfl | (simp only [show oCmp = real.cmp from congrArg Ar.cmp ho, show oBin = real.bin from congrArg Ar.bin ho, show oScmp = real.scmp from congrArg Ar.scmp ho, show oPickB = real.pickB from congrArg Ar.pickB ho, show oBnot = real.bnot from congrArg Ar.bnot ho]; decide)) ?_; cbv)
    | (with_reducible refine brA.no (by first | assumption | exact rfl | (simp only [show oCmp = real.cmp from congrArg Ar.cmp ho, show oBin = real.bin from congrArg Ar.bin ho, show oScmp = real.scmp from congrArg Ar.scmp ho, show oPickB = real.pickB from congrArg Ar.pickB ho, show oBnot = real.bnot from congrArg Ar.bnot ho]; decide)) ?_; cbv)
    | (with_reducible refine bcase (fun hb => ?_) (fun hb => ?_) <;> cbv)
    | (intro K' hK'; cbv))))
  all_goals ((try clear hK' K'); cases ho; (try simp only [nc1] at *); (try simp only [Int.ofNat_eq_natCast] at *))
  all_goals first
    | exact ⟨⟨[], [], [0], [], 0⟩, _, 0, _, rfl, rfl, ⟨rfl⟩, rfl, rfl, rfl⟩
    | trace_state
def wOut1 (i : Nat) (r : List (List D)) (K : CallK) (n : Nat) (h : Hp) : Prop := K (.ptr i 0) (n + 1) (outs (fun _ => i) 1 h ++ [(i, .cells [.sl n, .d (.bool false)]), (n, .row 1 r)])
def wOut2 (i j : Nat) (r : List (List D)) (K : CallK) (n : Nat) (h : Hp) : Prop := K (.ptr i 0) (n + 1) (outs (two i j) 2 h ++ [(i, .cells [.sl n, .d (.bool false)]), (n, .row 1 r)])
theorem wrN_of {f i n : Nat} {rest : List AV} {h : Hp} {K : CallK} {r : List (List D)} (hc : CallE Try.prog f (.ptr 0 0 :: rest) 1 [(0, .cells [.d .nilsl, .d (.bool false)])] (kP 0 r)) (hr : idsVs rest = []) (hi : i < n) (hg : hget h i = some (.cells [.d .nilsl, .d (.bool false)])) (hk : wOut1 i r K n h) : CallE Try.prog f (.ptr i 0 :: rest) n h K := by
  refine call_recvN hc hr hi hg ?_
  rintro v n1 h1 ⟨rfl, rfl, rfl⟩ -
  have e0 : lift (fun _ => i) 1 n 0 = i := by simp [lift]; rfl
  have e1 : lift (fun _ => i) 1 n (0 + 1) = n := by simp [lift]; rfl
  simp only [renH, renV, renO, renVs, e0, e1]
  exact hk
theorem wrW_of {f i j n : Nat} {rest : List AV} {h : Hp} {K : CallK} {r r' : List (List D)} (hc : CallE Try.prog f (.ptr 1 0 :: rest) 2 [(0, .row 1 r), (1, .cells [.sl 0, .d (.bool false)])] (kP 1 r')) (hr : idsVs rest = []) (hi : i < n) (hj : j < n) (hij : i ≠ j) (hg : hget h i = some (.cells [.sl j, .d (.bool false)])) (hg2 : hget h j = some (.row 1 r)) (hk : wOut2 i j r' K n h) : CallE Try.prog f (.ptr i 0 :: rest) n h K := by
  refine call_recvW hc hr hi hj hij hg hg2 ?_
  rintro v n1 h1 ⟨rfl, rfl, rfl⟩ -
  have e0 : lift (two i j) 2 n 1 = i := by simp [lift]; rfl
  have e1 : lift (two i j) 2 n (1 + 1) = n := by simp [lift]; rfl
  simp only [renH, renV, renO, renVs, e0, e1]
  exact hk
def S_put (i : Nat) (s : List UInt8) (K : CallK) (n : Nat) (h : Hp) : Prop := patW h i (Nd (fun _ => i < n ∧ s.length ≤ 10000000) ∧ Al (fun r' => r' = real.app [] (real.s2b s)) fun r' => wOut1 i r' K n h)
  fun j r => Nd (fun _ => i < n ∧ j < n ∧ i ≠ j ∧ r.length ≤ 10000000 ∧ s.length ≤ 10000000) ∧ Al (fun r' => r' = real.app r (real.s2b s)) fun r' => wOut2 i j r' K n h
theorem L_put {i n : Nat} {s : List UInt8} {h : Hp} {K : CallK} (hK : S_put i s K n h) : CallE Try.prog 77 [.ptr i 0, .d (.str s), .d (.bool true)] n h K := by
  rcases patW_elim hK with ⟨hg, ⟨⟨hi, hs⟩⟩, hk⟩ | ⟨j, r, hg, hg2, ⟨⟨hi, hj, hij, hr, hs⟩⟩, hk⟩
  · exact wrN_of (CallE.fin (K_putN0 s hs)) rfl hi hg (hk.h _ rfl)
  · exact wrW_of (CallE.fin (K_put0 r s hr hs)) rfl hi hj hij hg hg2 (hk.h _ rfl)
def S_putNil (K : CallK) (n : Nat) (h : Hp) : Prop := K (.d .nilp) n h
theorem L_putNil {s : List UInt8} {b : Bool} {n : Nat} {h : Hp} {K : CallK} (hK : S_putNil K n h) : CallE Try.prog 77 [.d .nilp, .d (.str s), .d (.bool b)] n h K := call_data (CallE.fin (K_putNil0 s b)) rfl (by rintro v rfl; exact hK)
/-! Number -/
def S_BPut (a k : Int) (K : CallK) (n : Nat) (h : Hp) : Prop := Nd (fun _ => 1 ≤ k ∧ k ≤ 8 ∧ 0 ≤ a ∧ a < 18446744073709551616) ∧ Al (fun s => s = BE a.toNat k.toNat) fun s => K (.d (.str s)) n h
theorem L_BPut {a k : Int} {n : Nat} {h : Hp} {K : CallK} (hK : S_BPut a k K n h) : CallE Try.prog 78 [.d (.int .u64 a), .d (.int .i64 k)] n h K :=
  call_old (v := .string ⟨(BE a.toNat k.toNat).toArray⟩) Try.func78 (by kernel_rfl) (by kernel_rfl) (vals := [.int .u64 a, .int .i64 k]) (by intro ρ w M vs h; simpa [RelVs, RelV, RelD] using h) (by intro ρ w M; simp [RelV, RelD]) (fun w hJ => by
    obtain ⟨⟨h1, h2, h3, h4⟩, -⟩ := hK
    obtain ⟨a, rfl⟩ := Int.eq_ofNat_of_zero_le h3
    obtain ⟨k, rfl⟩ := Int.eq_ofNat_of_zero_le (a := k) (by omega)
    exact C_BePut a k (by omega) (by omega) (by omega) w) (hK.2.h _ rfl)
def W2 : CallS := fun f args n h K => match f with
  | 78 => (match args with | [.d (.int .u64 a), .d (.int .i64 k)] => S_BPut a k K n h | _ => False)
  | 74 => (match args with | [.d (.int .u64 a), .d (.int .i64 k)] => S_Fits a k K n h | _ => False)
  | 77 => (match args with | [.ptr i 0, .d (.str s), .d (.bool true)] => S_put i s K n h | [.d .nilp, .d (.str _), .d (.bool _)] => S_putNil K n h | _ => False)
  | _ => False
theorem W2_ok : ∀ f args n h K, W2 f args n h K → CallE Try.prog f args n h K := by
  intro f args n h K hc
  unfold W2 at hc
  split at hc
  · split at hc
    · exact L_BPut hc
    · exact hc.elim
  · split at hc
    · exact L_Fits hc
    · exact hc.elim
  · split at hc
    · exact L_put hc
    · exact L_putNil hc
    · exact hc.elim
  · exact hc.elim
structure nOk (a k : Int) : Prop where
  k1 : 1 ≤ k
  k8 : k ≤ 8
  a0 : 0 ≤ a
  a1 : a < 256 ^ k.toNat
theorem nOk.a2 {a k : Int} (h : nOk a k) : a < 18446744073709551616 := by
  refine Int.lt_of_lt_of_le h.a1 ?_
  have h8 : k.toNat ≤ 8 := by have := h.k8; omega
  have h9 : ((256 ^ k.toNat : Nat) : Int) ≤ ((256 ^ 8 : Nat) : Int) := by exact_mod_cast Nat.pow_le_pow_right (by omega) h8
  rw [Int.natCast_pow] at h9
  exact h9
theorem be_le {s : List UInt8} {a k : Int} (h : nOk a k) (hs : s = BE a.toNat k.toNat) : s.length ≤ 10000000 := by
  have := h.k8
  rw [hs, BE_len _ _ (by omega)]
  omega
theorem K_WNumN0 (a k : Int) (hn : nOk a k) : CallE Try.prog 56 [.ptr 0 0, .d (.int .u64 a), .d (.int .i64 k)] 1 [(0, .cells [.d .nilsl, .d (.bool false)])] (fun v n h => Nd (fun _ => Fin 1 (kP 0 (real.app [] (real.s2b (BE a.toNat k.toNat)))) v n h)) := by
  refine call_fn tysOK orders (C := W2) W2_ok H0 Try.func56 (by kernel_rfl) (by kernel_rfl) ?_
  intro oBin oCmp oWrap oNeg oCom oBnot oBeq oPickB oPickI oPickS oInb oSub2 oMinI oMaxI oSlen oSidx oScat oSsub oScmp oScok oLen oCI oCB oCS oCL oOkR oApp oApok oSub oSetc oRep oMkok oNthI oNthB oNthS oIteI oIteB oIteS oB2s oS2b oAllB oWf oDeq oMlen oMhas oMI oMB oMS oMok oMput oMdel oSgo oSru oSnx ho; cbv
  (repeat (any_goals (first
    | with_reducible refine And.intro ?_ ?_
    | exact True.intro
    | with_reducible exact rfl
    | (with_reducible refine Nd.mk ?_; try dsimp only)
    | (with_reducible refine Pz.mk ?_; cbv)
    | (with_reducible refine RgOK.mk ?_; kernel_rfl)
    | (with_reducible refine OrOK.mk ?_; kernel_rfl)
    | (with_reducible refine Al.mk (fun x hx => ?_); cbv)
    | (with_reducible refine hK' _ ?_; clear hK' K'; cbv)
    | (with_reducible refine brA.yes (by first | assumption | exact rfl | (simp only [show oCmp = real.cmp from congrArg Ar.cmp ho, show oBin = real.bin from congrArg Ar.bin ho, show oScmp = real.scmp from congrArg Ar.scmp ho, show oPickB = real.pickB from congrArg Ar.pickB ho, show oBnot = real.bnot from congrArg Ar.bnot ho]; decide)) ?_; cbv)
    | (with_reducible refine brA.no (by first | assumption | exact rfl | (simp only [show oCmp = real.cmp from congrArg Ar.cmp ho, show oBin = real.bin from congrArg Ar.bin ho, show oScmp = real.scmp from congrArg Ar.scmp ho, show oPickB = real.pickB from congrArg Ar.pickB ho, show oBnot = real.bnot from congrArg Ar.bnot ho]; decide)) ?_; cbv)
    | (with_reducible refine bcase (fun hb => ?_) (fun hb => ?_) <;> cbv)
    | (intro K' hK'; cbv))))
  all_goals ((try clear hK' K'); cases ho; (try simp only [nc1] at *); (try simp only [Int.ofNat_eq_natCast] at *))
  all_goals first
    | with_reducible exact hn.k1
    | with_reducible exact hn.k8
    | with_reducible exact hn.a0
    | with_reducible exact hn.a1
    | with_reducible exact hn.a2
    | exact be_le hn (by assumption)
    | exact Nat.one_pos
    | (subst_vars; exact ⟨⟨[], [], [0], [0, 1], 2⟩, _, 2, _, rfl, rfl, rfl, rfl, rfl⟩)
    | trace_state
theorem K_WNum0 (r : List (List D)) (a k : Int) (hn : nOk a k) (hr : r.length ≤ 10000000) : CallE Try.prog 56 [.ptr 1 0, .d (.int .u64 a), .d (.int .i64 k)] 2 [(0, .row 1 r), (1, .cells [.sl 0, .d (.bool false)])] (fun v n h => Nd (fun _ => Fin 2 (kP 1 (real.app r (real.s2b (BE a.toNat k.toNat)))) v n h)) := by
  refine call_fn tysOK orders (C := W2) W2_ok H0 Try.func56 (by kernel_rfl) (by kernel_rfl) ?_
  intro oBin oCmp oWrap oNeg oCom oBnot oBeq oPickB oPickI oPickS oInb oSub2 oMinI oMaxI oSlen oSidx oScat oSsub oScmp oScok oLen oCI oCB oCS oCL oOkR oApp oApok oSub oSetc oRep oMkok oNthI oNthB oNthS oIteI oIteB oIteS oB2s oS2b oAllB oWf oDeq oMlen oMhas oMI oMB oMS oMok oMput oMdel oSgo oSru oSnx ho; cbv
  (repeat (any_goals (first
    | with_reducible refine And.intro ?_ ?_
    | exact True.intro
    | with_reducible exact rfl
    | (with_reducible refine Nd.mk ?_; try dsimp only)
    | (with_reducible refine Pz.mk ?_; cbv)
    | (with_reducible refine RgOK.mk ?_; kernel_rfl)
    | (with_reducible refine OrOK.mk ?_; kernel_rfl)
    | (with_reducible refine Al.mk (fun x hx => ?_); cbv)
    | (with_reducible refine hK' _ ?_; clear hK' K'; cbv)
    | (with_reducible refine brA.yes (by first | assumption | exact rfl | (simp only [show oCmp = real.cmp from congrArg Ar.cmp ho, show oBin = real.bin from congrArg Ar.bin ho, show oScmp = real.scmp from congrArg Ar.scmp ho, show oPickB = real.pickB from congrArg Ar.pickB ho, show oBnot = real.bnot from congrArg Ar.bnot ho]; decide)) ?_; cbv)
    | (with_reducible refine brA.no (by first | assumption | exact rfl | (simp only [show oCmp = real.cmp from congrArg Ar.cmp ho, show oBin = real.bin from congrArg Ar.bin ho, show oScmp = real.scmp from congrArg Ar.scmp ho, show oPickB = real.pickB from congrArg Ar.pickB ho, show oBnot = real.bnot from congrArg Ar.bnot ho]; decide)) ?_; cbv)
    | (with_reducible refine bcase (fun hb => ?_) (fun hb => ?_) <;> cbv)
    | (intro K' hK'; cbv))))
  all_goals ((try clear hK' K'); cases ho; (try simp only [nc1] at *); (try simp only [Int.ofNat_eq_natCast] at *))
  all_goals first
    | with_reducible exact hn.k1
    | with_reducible exact hn.k8
    | with_reducible exact hn.a0
    | with_reducible exact hn.a1
    | with_reducible exact hn.a2
    | exact be_le hn (by assumption)
    | exact hr
    | decide
    | (subst_vars; exact ⟨⟨[], [], [0], [1, 2], 3⟩, _, 3, _, rfl, rfl, rfl, rfl, rfl⟩)
    | trace_state
theorem K_WNumNil0 (a k : Int) (hn : nOk a k) : CallE Try.prog 56 [.d .nilp, .d (.int .u64 a), .d (.int .i64 k)] 0 [] (fun v n h => Nd (fun _ => Fin 0 (Gets fun v => v = .d .nilp) v n h)) := by
  refine call_fn tysOK orders (C := W2) W2_ok H0 Try.func56 (by kernel_rfl) (by kernel_rfl) ?_
  intro oBin oCmp oWrap oNeg oCom oBnot oBeq oPickB oPickI oPickS oInb oSub2 oMinI oMaxI oSlen oSidx oScat oSsub oScmp oScok oLen oCI oCB oCS oCL oOkR oApp oApok oSub oSetc oRep oMkok oNthI oNthB oNthS oIteI oIteB oIteS oB2s oS2b oAllB oWf oDeq oMlen oMhas oMI oMB oMS oMok oMput oMdel oSgo oSru oSnx ho; cbv
  (repeat (any_goals (first
    | with_reducible refine And.intro ?_ ?_
    | exact True.intro
    | with_reducible exact rfl
    | (with_reducible refine Nd.mk ?_; try dsimp only)
    | (with_reducible refine Pz.mk ?_; cbv)
    | (with_reducible refine RgOK.mk ?_; kernel_rfl)
    | (with_reducible refine OrOK.mk ?_; kernel_rfl)
    | (with_reducible refine Al.mk (fun x hx => ?_); cbv)
    | (with_reducible refine hK' _ ?_; clear hK' K'; cbv)
    | (with_reducible refine brA.yes (by first | assumption | exact rfl | (simp only [show oCmp = real.cmp from congrArg Ar.cmp ho, show oBin = real.bin from congrArg Ar.bin ho, show oScmp = real.scmp from congrArg Ar.scmp ho, show oPickB = real.pickB from congrArg Ar.pickB ho, show oBnot = real.bnot from congrArg Ar.bnot ho]; decide)) ?_; cbv)
    | (with_reducible refine brA.no (by first | assumption | exact rfl | (simp only [show oCmp = real.cmp from congrArg Ar.cmp ho, show oBin = real.bin from congrArg Ar.bin ho, show oScmp = real.scmp from congrArg Ar.scmp ho, show oPickB = real.pickB from congrArg Ar.pickB ho, show oBnot = real.bnot from congrArg Ar.bnot ho]; decide)) ?_; cbv)
    | (with_reducible refine bcase (fun hb => ?_) (fun hb => ?_) <;> cbv)
    | (intro K' hK'; cbv))))
  all_goals ((try clear hK' K'); cases ho; (try simp only [nc1] at *); (try simp only [Int.ofNat_eq_natCast] at *))
  all_goals first
    | with_reducible exact hn.k1
    | with_reducible exact hn.k8
    | with_reducible exact hn.a0
    | with_reducible exact hn.a1
    | with_reducible exact hn.a2
    | exact ⟨⟨[], [], [0], [], 0⟩, _, 0, _, rfl, rfl, ⟨rfl⟩, rfl, rfl, rfl⟩
    | trace_state
def S_WNum (i : Nat) (a k : Int) (K : CallK) (n : Nat) (h : Hp) : Prop := patW h i (Nd (fun _ => i < n ∧ nOk a k) ∧ Al (fun r' => r' = real.app [] (real.s2b (BE a.toNat k.toNat))) fun r' => wOut1 i r' K n h)
  fun j r => Nd (fun _ => i < n ∧ j < n ∧ i ≠ j ∧ r.length ≤ 10000000 ∧ nOk a k) ∧ Al (fun r' => r' = real.app r (real.s2b (BE a.toNat k.toNat))) fun r' => wOut2 i j r' K n h
theorem L_WNum {i n : Nat} {a k : Int} {h : Hp} {K : CallK} (hK : S_WNum i a k K n h) : CallE Try.prog 56 [.ptr i 0, .d (.int .u64 a), .d (.int .i64 k)] n h K := by
  rcases patW_elim hK with ⟨hg, ⟨⟨hi, hs⟩⟩, hk⟩ | ⟨j, r, hg, hg2, ⟨⟨hi, hj, hij, hr, hs⟩⟩, hk⟩
  · exact wrN_of (CallE.fin (K_WNumN0 a k hs)) rfl hi hg (hk.h _ rfl)
  · exact wrW_of (CallE.fin (K_WNum0 r a k hs hr)) rfl hi hj hij hg hg2 (hk.h _ rfl)
def S_WNumNil (a k : Int) (K : CallK) (n : Nat) (h : Hp) : Prop := Nd (fun _ => nOk a k) ∧ K (.d .nilp) n h
theorem L_WNumNil {a k : Int} {n : Nat} {h : Hp} {K : CallK} (hK : S_WNumNil a k K n h) : CallE Try.prog 56 [.d .nilp, .d (.int .u64 a), .d (.int .i64 k)] n h K := call_data (CallE.fin (K_WNumNil0 a k hK.1.h)) rfl (by rintro v rfl; exact hK.2)
end Go.Proofs.Yteakfibolfapiaa.Ab
