/- Several texts in one: Wt1, Tx, Rr6. -/
import Derived.Test.YteakfibolfapiaaTrPk16
section
namespace Go.Proofs.Yteakfibolfapiaa.Ab
open Go Go.RowKit Go.Sort
set_option linter.unusedVariables false
set_option linter.unusedSimpArgs false
set_option maxRecDepth 100000
set_option maxHeartbeats 8000000
/-! a copy -/
def S_MClone (j : Nat) (K : CallK) (n : Nat) (h : Hp) : Prop := match hget h j with
  | some (.mp .i64 m) => K (.map n) (n + 1) (h ++ [(n, .mp .i64 m)])
  | _ => False
theorem L_MClone {j n : Nat} {h : Hp} {K : CallK} (hK : S_MClone j K n h) : CallE Try.prog 55 [.map j] n h K := by
  unfold S_MClone at hK
  split at hK
  case h_2 => exact hK.elim
  rename_i m hg2
  refine .enter _ Try.func55 (by kernel_rfl) (by kernel_rfl) (fun ρ w vs r a => ?_)
  obtain ⟨v0, rest, rfl, ⟨hv, r0, rfl⟩, hrest⟩ := a
  obtain rfl : rest = [] := hrest
  obtain ⟨bj, h4, h5⟩ := obj_mp r hg2
  obtain rfl : bj = r0 := by
    rw [h4] at hv
    simpa using hv
  have h5' := h5
  obtain ⟨hnd, E, c, hb, h6, h7, h8⟩ := h5
  refine (AnyW.maps_Clone Try.clAcc bj E c w hb).mono ?_
  rintro e w' ⟨rfl, rfl⟩
  have hgr : Grows w (w.alloc (.map E c)) := fun b o hbo => Tr.blk_old hbo
  have hnew : ∀ b, blkIn (.map (some w.heap.size)) b → w.heap.size ≤ b := by
    intro b hb
    cases hb
    exact Nat.le_refl _
  have hat : (w.alloc (.map E c)).heap[w.heap.size]? = some (.map E c) := Tr.blk_new _ _
  refine ⟨_, rfl, .map n, upd ρ n (.map (some w.heap.size)), n + 1, h ++ [(n, .mp .i64 m)], hK, r.new (o := .mp .i64 m) hgr hnew (fun hkp => ⟨_, upd_same _ _ _, hnd, E, c, hat, h6, h7, h8⟩), by omega, ⟨upd_same _ _ _, _, rfl⟩, goes_new r hgr hnew rfl rfl rfl (by simp)⟩
def W1 : CallS := fun f args n h K => match f with
  | 55 => (match args with | [.map j] => S_MClone j K n h | _ => False)
  | _ => False
theorem W1_ok : ∀ f args n h K, W1 f args n h K → CallE Try.prog f args n h K := by
  intro f args n h K hc
  unfold W1 at hc
  split at hc
  · split at hc
    · exact L_MClone hc
    · exact hc.elim
  · exact hc.elim
theorem K_Copy0 (m : ML) : CallE Try.prog 29 [.ptr 1 0] 2 [(0, .mp .i64 m), (1, .cells [.map 0])]
    (fun v n h => Nd (fun _ => Fin 2 (fun v n h => v = .ptr 3 0 ∧ n = 4 ∧ h = [(0, .mp .i64 m), (1, .cells [.map 0]), (2, .mp .i64 m), (3, .cells [.map 2])]) v n h)) := by
  refine call_fn tysOK orders (C := W1) W1_ok H0 Try.func29 (by kernel_rfl) (by kernel_rfl) ?_
  intro oBin oCmp oWrap oNeg oCom oBnot oBeq oPickB oPickI oPickS oInb oSub2 oMinI oMaxI oSlen oSidx oScat oSsub oScmp oScok oLen oCI oCB oCS oCL oOkR oApp oApok oSub oSetc oRep oMkok oNthI oNthB oNthS oIteI oIteB oIteS oB2s oS2b oAllB oWf oDeq oMlen oMhas oMI oMB oMS oMok oMput oMdel oSgo oSru oSnx ho; cbv
  (repeat (any_goals (first
    | with_reducible refine And.intro ?_ ?_
    | exact True.intro
    | with_reducible exact rfl
    | (with_reducible refine Nd.mk ?_; try dsimp only)
    | (with_reducible refine Nd0.mk ?_; try dsimp only)
    | (with_reducible refine Pz.mk ?_; cbv)
    | (with_reducible refine RgOK.mk ?_; kernel_rfl)
    | (with_reducible refine OrOK.mk ?_; kernel_rfl)
    | (with_reducible refine Al.mk (fun x hx => ?_); cbv)
    | (with_reducible refine hK' _ ?_; clear hK' K'; cbv)
    | (with_reducible refine brA.yes (by first | assumption | exact rfl | (simp only [show oCmp = real.cmp from congrArg Ar.cmp ho, show oBin = real.bin from congrArg Ar.bin ho, show oScmp = real.scmp from congrArg Ar.scmp ho, show oPickB = real.pickB from congrArg Ar.pickB ho, show oBnot = real.bnot from congrArg Ar.bnot ho]; decide)) ?_; cbv)
    | (with_reducible refine brA.no (by first | assumption | exact rfl | (simp only [show oCmp = real.cmp from congrArg Ar.cmp ho, show oBin = real.bin from congrArg Ar.bin ho, show oScmp = real.scmp from congrArg Ar.scmp ho, show oPickB = real.pickB from congrArg Ar.pickB ho, show oBnot = real.bnot from congrArg Ar.bnot ho]; decide)) ?_; cbv)
    | (with_reducible refine bcase (fun hb => ?_) (fun hb => ?_) <;> cbv)
    | (intro K' hK'; cbv))))
  all_goals ((try clear hK' K'); cases ho; (try simp only [nc1] at *); (try simp only [Int.ofNat_eq_natCast] at *))
  all_goals first
    | exact ⟨⟨[], [], [0], [0, 1, 2, 3], 4⟩, _, 4, _, rfl, rfl, rfl, rfl, rfl⟩
    | trace_state
def S_Copy (i : Nat) (K : CallK) (n : Nat) (h : Hp) : Prop := pat2 h i fun j m => Nd (fun _ => i < n ∧ j < n ∧ i ≠ j) ∧ K (.ptr (n + 1) 0) (n + 2) (out2 i j h m ++ [(n, .mp .i64 m), (n + 1, .cells [.map n])])
theorem L_Copy {i n : Nat} {h : Hp} {K : CallK} (hK : S_Copy i K n h) : CallE Try.prog 29 [.ptr i 0] n h K := by
  obtain ⟨j, m, hg, hg2, ⟨⟨hi, hj, hij⟩⟩, hk⟩ := pat2_elim hK
  refine call_recv2 (CallE.fin (K_Copy0 m)) rfl hi hj hij hg hg2 ?_
  rintro v n1 h1 ⟨rfl, rfl, rfl⟩ -
  have e0 : lift (two i j) 2 n 0 = j := by simp [lift]; rfl
  have e1 : lift (two i j) 2 n 1 = i := by simp [lift]; rfl
  have e2 : lift (two i j) 2 n 2 = n := by simp [lift]; rfl
  have e3 : lift (two i j) 2 n 3 = n + 1 := by simp [lift]; rfl
  simp only [renH, renV, renO, renVs, e0, e1, e2, e3]
  simpa [out2] using hk
/-! the writer's place -/
def wrN : Ob := .cells [.d .nilsl, .d (.bool false)]
def patW (h : Hp) (i : Nat) (p : Prop) (q : Nat → List (List D) → Prop) : Prop := match hget h i with
  | some (.cells [.d .nilsl, .d (.bool false)]) => p
  | some (.cells [.sl j, .d (.bool false)]) => (match hget h j with | some (.row 1 r) => q j r | _ => False)
  | _ => False
theorem patW_elim {h : Hp} {i : Nat} {p : Prop} {q : Nat → List (List D) → Prop} (hp : patW h i p q) : (hget h i = some (.cells [.d .nilsl, .d (.bool false)]) ∧ p) ∨ ∃ j r, hget h i = some (.cells [.sl j, .d (.bool false)]) ∧ hget h j = some (.row 1 r) ∧ q j r := by
  unfold patW at hp
  split at hp
  · rename_i h1
    exact .inl ⟨h1, hp⟩
  · rename_i j h1
    split at hp
    · rename_i r h2
      exact .inr ⟨j, r, h1, h2, hp⟩
    · exact hp.elim
  · exact hp.elim
theorem call_recvN {f i n : Nat} {h : Hp} {rest : List AV} {K0 K : CallK} (hc : CallE Try.prog f (.ptr 0 0 :: rest) 1 [(0, .cells [.d .nilsl, .d (.bool false)])] K0) (hr : idsVs rest = []) (hi : i < n) (hg : hget h i = some (.cells [.d .nilsl, .d (.bool false)]))
    (hK : ∀ v n1 h1, K0 v n1 h1 → 1 ≤ n1 → K (renV (lift (fun _ => i) 1 n) v) (n + (n1 - 1)) (outs (fun _ => i) 1 h ++ renH (lift (fun _ => i) 1 n) h1)) : CallE Try.prog f (.ptr i 0 :: rest) n h K := call_recv hc hr rfl hi hg hK
theorem call_recvW {f i j n : Nat} {r : List (List D)} {h : Hp} {rest : List AV} {K0 K : CallK} (hc : CallE Try.prog f (.ptr 1 0 :: rest) 2 [(0, .row 1 r), (1, .cells [.sl 0, .d (.bool false)])] K0) (hr : idsVs rest = []) (hi : i < n) (hj : j < n) (hij : i ≠ j) (hg : hget h i = some (.cells [.sl j, .d (.bool false)])) (hg2 : hget h j = some (.row 1 r))
    (hK : ∀ v n1 h1, K0 v n1 h1 → 2 ≤ n1 → K (renV (lift (two i j) 2 n) v) (n + (n1 - 2)) (outs (two i j) 2 h ++ renH (lift (two i j) 2 n) h1)) : CallE Try.prog f (.ptr i 0 :: rest) n h K := by
  refine call_frame (g := two i j) hc ?_ rfl (fun a b ha hb e => ?_) (fun a ha => ?_) ?_ ?_ (fun v n1 h1 hn h2 => hK v n1 h1 h2 hn)
  · simp only [renVs, renV]
    rw [renVs_none rest hr]
    rfl
  · have h1 : a = 0 ∨ a = 1 := by omega
    have h2 : b = 0 ∨ b = 1 := by omega
    rcases h1 with rfl | rfl <;> rcases h2 with rfl | rfl <;> first | rfl | exact absurd e (fun e => hij (by simp [two] at e; omega))
  · have h1 : a = 0 ∨ a = 1 := by omega
    rcases h1 with rfl | rfl
    · exact hj
    · exact hi
  · intro a o hm
    simp only [List.mem_cons, Prod.mk.injEq, List.not_mem_nil, or_false] at hm
    rcases hm with ⟨rfl, rfl⟩ | ⟨rfl, rfl⟩
    · exact ⟨hget_mem hg2, fun j hj => by cases hj⟩
    · exact ⟨hget_mem hg, fun j hj => by simp [idsO, idsVs, idsV] at hj; omega⟩
  · intro j hj
    rw [show idsVs (.ptr 1 0 :: rest) = [1] ++ idsVs rest from rfl, hr] at hj
    simp at hj
    omega
/-! put -/
def kP (i : Nat) (r : List (List D)) : CallK := fun v n h => v = .ptr i 0 ∧ n = i + 2 ∧ h = [(i, .cells [.sl (i + 1), .d (.bool false)]), (i + 1, .row 1 r)]
theorem apokB {r : List (List D)} {s : List UInt8} (h1 : r.length ≤ 10000000) (h2 : s.length ≤ 10000000) : real.apok r (real.s2b s) 1 1 = true := by
  simp [real, flatD, maxLen]
  omega
theorem K_putN0 (s : List UInt8) (hs : s.length ≤ 10000000) : CallE Try.prog 77 [.ptr 0 0, .d (.str s), .d (.bool true)] 1 [(0, .cells [.d .nilsl, .d (.bool false)])] (fun v n h => Nd (fun _ => Fin 1 (kP 0 (real.app [] (real.s2b s))) v n h)) := by
  refine call_fn tysOK orders (C := C0) C0_ok H0 Try.func77 (by kernel_rfl) (by kernel_rfl) ?_
  intro oBin oCmp oWrap oNeg oCom oBnot oBeq oPickB oPickI oPickS oInb oSub2 oMinI oMaxI oSlen oSidx oScat oSsub oScmp oScok oLen oCI oCB oCS oCL oOkR oApp oApok oSub oSetc oRep oMkok oNthI oNthB oNthS oIteI oIteB oIteS oB2s oS2b oAllB oWf oDeq oMlen oMhas oMI oMB oMS oMok oMput oMdel oSgo oSru oSnx ho; cbv
  (repeat (any_goals (first
    | with_reducible refine And.intro ?_ ?_
    | exact True.intro
    | with_reducible exact rfl
    | (with_reducible refine Nd.mk ?_; try dsimp only)
    | (with_reducible refine Nd0.mk ?_; try dsimp only)
    | (with_reducible refine Pz.mk ?_; cbv)
    | (with_reducible refine RgOK.mk ?_; kernel_rfl)
    | (with_reducible refine OrOK.mk ?_; kernel_rfl)
    | (with_reducible refine Al.mk (fun x hx => ?_); cbv)
    | (with_reducible refine hK' _ ?_; clear hK' K'; cbv)
    | (with_reducible refine brA.yes (by first | assumption | exact rfl | (simp only [show oCmp = real.cmp from congrArg Ar.cmp ho, show oBin = real.bin from congrArg Ar.bin ho, show oScmp = real.scmp from congrArg Ar.scmp ho, show oPickB = real.pickB from congrArg Ar.pickB ho, show oBnot = real.bnot from congrArg Ar.bnot ho]; decide)) ?_; cbv)
    | (with_reducible refine brA.no (by first | assumption | exact rfl | (simp only [show oCmp = real.cmp from congrArg Ar.cmp ho, show oBin = real.bin from congrArg Ar.bin ho, show oScmp = real.scmp from congrArg Ar.scmp ho, show oPickB = real.pickB from congrArg Ar.pickB ho, show oBnot = real.bnot from congrArg Ar.bnot ho]; decide)) ?_; cbv)
    | (with_reducible refine bcase (fun hb => ?_) (fun hb => ?_) <;> cbv)
    | (intro K' hK'; cbv))))
  all_goals ((try clear hK' K'); cases ho; (try simp only [nc1] at *); (try simp only [Int.ofNat_eq_natCast] at *))
  all_goals first
    | exact apokB (Nat.zero_le _) hs
    | exact ⟨⟨[], [], [0], [0, 1], 2⟩, _, 2, _, rfl, rfl, rfl, rfl, rfl⟩
    | trace_state
theorem K_put0 (r : List (List D)) (s : List UInt8) (hr : r.length ≤ 10000000) (hs : s.length ≤ 10000000) : CallE Try.prog 77 [.ptr 1 0, .d (.str s), .d (.bool true)] 2 [(0, .row 1 r), (1, .cells [.sl 0, .d (.bool false)])] (fun v n h => Nd (fun _ => Fin 2 (kP 1 (real.app r (real.s2b s))) v n h)) := by
  refine call_fn tysOK orders (C := C0) C0_ok H0 Try.func77 (by kernel_rfl) (by kernel_rfl) ?_
  intro oBin oCmp oWrap oNeg oCom oBnot oBeq oPickB oPickI oPickS oInb oSub2 oMinI oMaxI oSlen oSidx oScat oSsub oScmp oScok oLen oCI oCB oCS oCL oOkR oApp oApok oSub oSetc oRep oMkok oNthI oNthB oNthS oIteI oIteB oIteS oB2s oS2b oAllB oWf oDeq oMlen oMhas oMI oMB oMS oMok oMput oMdel oSgo oSru oSnx ho; cbv
  (repeat (any_goals (first
    | with_reducible refine And.intro ?_ ?_
    | exact True.intro
    | with_reducible exact rfl
    | (with_reducible refine Nd.mk ?_; try dsimp only)
    | (with_reducible refine Nd0.mk ?_; try dsimp only)
    | (with_reducible refine Pz.mk ?_; cbv)
    | (with_reducible refine RgOK.mk ?_; kernel_rfl)
    | (with_reducible refine OrOK.mk ?_; kernel_rfl)
    | (with_reducible refine Al.mk (fun x hx => ?_); cbv)
    | (with_reducible refine hK' _ ?_; clear hK' K'; cbv)
    | (with_reducible refine brA.yes (by first | assumption | exact rfl | (simp only [show oCmp = real.cmp from congrArg Ar.cmp ho, show oBin = real.bin from congrArg Ar.bin ho, show oScmp = real.scmp from congrArg Ar.scmp ho, show oPickB = real.pickB from congrArg Ar.pickB ho, show oBnot = real.bnot from congrArg Ar.bnot ho]; decide)) ?_; cbv)
    | (with_reducible refine brA.no (by first | assumption | exact rfl | (simp only [show oCmp = real.cmp from congrArg Ar.cmp ho, show oBin = real.bin from congrArg Ar.bin ho, show oScmp = real.scmp from congrArg Ar.scmp ho, show oPickB = real.pickB from congrArg Ar.pickB ho, show oBnot = real.bnot from congrArg Ar.bnot ho]; decide)) ?_; cbv)
    | (with_reducible refine bcase (fun hb => ?_) (fun hb => ?_) <;> cbv)
    | (intro K' hK'; cbv))))
  all_goals ((try clear hK' K'); cases ho; (try simp only [nc1] at *); (try simp only [Int.ofNat_eq_natCast] at *))
  all_goals first
    | exact apokB hr hs
    | exact ⟨⟨[], [], [0], [1, 2], 3⟩, _, 3, _, rfl, rfl, rfl, rfl, rfl⟩
    | trace_state
theorem K_putNil0 (s : List UInt8) (b : Bool) : CallE Try.prog 77 [.d .nilp, .d (.str s), .d (.bool b)] 0 [] (fun v n h => Nd (fun _ => Fin 0 (Gets fun v => v = .d .nilp) v n h)) := by
  refine call_fn tysOK orders (C := C0) C0_ok H0 Try.func77 (by kernel_rfl) (by kernel_rfl) ?_
  intro oBin oCmp oWrap oNeg oCom oBnot oBeq oPickB oPickI oPickS oInb oSub2 oMinI oMaxI oSlen oSidx oScat oSsub oScmp oScok oLen oCI oCB oCS oCL oOkR oApp oApok oSub oSetc oRep oMkok oNthI oNthB oNthS oIteI oIteB oIteS oB2s oS2b oAllB oWf oDeq oMlen oMhas oMI oMB oMS oMok oMput oMdel oSgo oSru oSnx ho; cbv
  (repeat (any_goals (first
    | with_reducible refine And.intro ?_ ?_
    | exact True.intro
    | with_reducible exact rfl
    | (with_reducible refine Nd.mk ?_; try dsimp only)
    | (with_reducible refine Nd0.mk ?_; try dsimp only)
    | (with_reducible refine Pz.mk ?_; cbv)
    | (with_reducible refine RgOK.mk ?_; kernel_rfl)
    | (with_reducible refine OrOK.mk ?_; kernel_rfl)
    | (with_reducible refine Al.mk (fun x hx => ?_); cbv)
    | (with_reducible refine hK' _ ?_; clear hK' K'; cbv)
    | (with_reducible refine brA.yes (by first | assumption | exact rfl | (simp only [show oCmp = real.cmp from congrArg Ar.cmp ho, show oBin = real.bin from congrArg Ar.bin ho, show oScmp = real.scmp from congrArg Ar.scmp ho, show oPickB = real.pickB from congrArg Ar.pickB ho, show oBnot = real.bnot from congrArg Ar.bnot ho]; decide)) ?_; cbv)
    | (with_reducible refine brA.no (by first | assumption | exact rfl | (simp only [show oCmp = real.cmp from congrArg Ar.cmp ho, show oBin = real.bin from congrArg Ar.bin ho, show oScmp = real.scmp from congrArg Ar.scmp ho, show oPickB = real.pickB from congrArg Ar.pickB ho, show oBnot = real.bnot from congrArg Ar.bnot ho]; decide)) ?_; cbv)
    | (with_reducible refine bcase (fun hb => ?_) (fun hb => ?_) <;> cbv)
    | (intro K' hK'; cbv))))
  all_goals ((try clear hK' K'); cases ho; (try simp only [nc1] at *); (try simp only [Int.ofNat_eq_natCast] at *))
  all_goals first
    | exact ⟨⟨[], [], [0], [], 0⟩, _, 0, _, rfl, rfl, ⟨rfl⟩, rfl, rfl, rfl⟩
    | trace_state
def wOut1 (i : Nat) (r : List (List D)) (K : CallK) (n : Nat) (h : Hp) : Prop := K (.ptr i 0) (n + 1) (outs (fun _ => i) 1 h ++ [(i, .cells [.sl n, .d (.bool false)]), (n, .row 1 r)])
def wOut2 (i j : Nat) (r : List (List D)) (K : CallK) (n : Nat) (h : Hp) : Prop := K (.ptr i 0) (n + 1) (outs (two i j) 2 h ++ [(i, .cells [.sl n, .d (.bool false)]), (n, .row 1 r)])
theorem wrN_of {f i n : Nat} {rest : List AV} {h : Hp} {K : CallK} {r : List (List D)} (hc : CallE Try.prog f (.ptr 0 0 :: rest) 1 [(0, .cells [.d .nilsl, .d (.bool false)])] (kP 0 r)) (hr : idsVs rest = []) (hi : i < n) (hg : hget h i = some (.cells [.d .nilsl, .d (.bool false)])) (hk : wOut1 i r K n h) : CallE Try.prog f (.ptr i 0 :: rest) n h K := by
  refine call_recvN hc hr hi hg ?_
  rintro v n1 h1 ⟨rfl, rfl, rfl⟩ -
  have e0 : lift (fun _ => i) 1 n 0 = i := by simp [lift]; rfl
  have e1 : lift (fun _ => i) 1 n (0 + 1) = n := by simp [lift]; rfl
  simp only [renH, renV, renO, renVs, e0, e1]
  exact hk
theorem wrW_of {f i j n : Nat} {rest : List AV} {h : Hp} {K : CallK} {r r' : List (List D)} (hc : CallE Try.prog f (.ptr 1 0 :: rest) 2 [(0, .row 1 r), (1, .cells [.sl 0, .d (.bool false)])] (kP 1 r')) (hr : idsVs rest = []) (hi : i < n) (hj : j < n) (hij : i ≠ j) (hg : hget h i = some (.cells [.sl j, .d (.bool false)])) (hg2 : hget h j = some (.row 1 r)) (hk : wOut2 i j r' K n h) : CallE Try.prog f (.ptr i 0 :: rest) n h K := by
  refine call_recvW hc hr hi hj hij hg hg2 ?_
  rintro v n1 h1 ⟨rfl, rfl, rfl⟩ -
  have e0 : lift (two i j) 2 n 1 = i := by simp [lift]; rfl
  have e1 : lift (two i j) 2 n (1 + 1) = n := by simp [lift]; rfl
  simp only [renH, renV, renO, renVs, e0, e1]
  exact hk
def S_put (i : Nat) (s : List UInt8) (K : CallK) (n : Nat) (h : Hp) : Prop := patW h i (Nd (fun _ => i < n ∧ s.length ≤ 10000000) ∧ Al (fun r' => r' = real.app [] (real.s2b s)) fun r' => wOut1 i r' K n h)
  fun j r => Nd (fun _ => i < n ∧ j < n ∧ i ≠ j ∧ r.length ≤ 10000000 ∧ s.length ≤ 10000000) ∧ Al (fun r' => r' = real.app r (real.s2b s)) fun r' => wOut2 i j r' K n h
theorem L_put {i n : Nat} {s : List UInt8} {h : Hp} {K : CallK} (hK : S_put i s K n h) : CallE Try.prog 77 [.ptr i 0, .d (.str s), .d (.bool true)] n h K := by
  rcases patW_elim hK with ⟨hg, ⟨⟨hi, hs⟩⟩, hk⟩ | ⟨j, r, hg, hg2, ⟨⟨hi, hj, hij, hr, hs⟩⟩, hk⟩
  · exact wrN_of (CallE.fin (K_putN0 s hs)) rfl hi hg (hk.h _ rfl)
  · exact wrW_of (CallE.fin (K_put0 r s hr hs)) rfl hi hj hij hg hg2 (hk.h _ rfl)
def S_putNil (K : CallK) (n : Nat) (h : Hp) : Prop := K (.d .nilp) n h
theorem L_putNil {s : List UInt8} {b : Bool} {n : Nat} {h : Hp} {K : CallK} (hK : S_putNil K n h) : CallE Try.prog 77 [.d .nilp, .d (.str s), .d (.bool b)] n h K := call_data (CallE.fin (K_putNil0 s b)) rfl (by rintro v rfl; exact hK)
/-! Number -/
def S_BPut (a k : Int) (K : CallK) (n : Nat) (h : Hp) : Prop := Nd (fun _ => 1 ≤ k ∧ k ≤ 8 ∧ 0 ≤ a ∧ a < 18446744073709551616) ∧ Al (fun s => s = BE a.toNat k.toNat) fun s => K (.d (.str s)) n h
theorem L_BPut {a k : Int} {n : Nat} {h : Hp} {K : CallK} (hK : S_BPut a k K n h) : CallE Try.prog 78 [.d (.int .u64 a), .d (.int .i64 k)] n h K :=
  call_old (v := .string ⟨(BE a.toNat k.toNat).toArray⟩) Try.func78 (by kernel_rfl) (by kernel_rfl) (vals := [.int .u64 a, .int .i64 k]) (by intro ρ w M vs h; simpa [RelVs, RelV, RelD] using h) (by intro ρ w M; simp [RelV, RelD]) (fun w hJ => by
    obtain ⟨⟨h1, h2, h3, h4⟩, -⟩ := hK
    obtain ⟨a, rfl⟩ := Int.eq_ofNat_of_zero_le h3
    obtain ⟨k, rfl⟩ := Int.eq_ofNat_of_zero_le (a := k) (by omega)
    exact C_BePut a k (by omega) (by omega) (by omega) w) (hK.2.h _ rfl)
def W2 : CallS := fun f args n h K => match f with
  | 78 => (match args with | [.d (.int .u64 a), .d (.int .i64 k)] => S_BPut a k K n h | _ => False)
  | 74 => (match args with | [.d (.int .u64 a), .d (.int .i64 k)] => S_Fits a k K n h | _ => False)
  | 77 => (match args with | [.ptr i 0, .d (.str s), .d (.bool true)] => S_put i s K n h | [.d .nilp, .d (.str _), .d (.bool _)] => S_putNil K n h | _ => False)
  | _ => False
theorem W2_ok : ∀ f args n h K, W2 f args n h K → CallE Try.prog f args n h K := by
  intro f args n h K hc
  unfold W2 at hc
  split at hc
  · split at hc
    · exact L_BPut hc
    · exact hc.elim
  · split at hc
    · exact L_Fits hc
    · exact hc.elim
  · split at hc
    · exact L_put hc
    · exact L_putNil hc
    · exact hc.elim
  · exact hc.elim
structure nOk (a k : Int) : Prop where
  k1 : 1 ≤ k
  k8 : k ≤ 8
  a0 : 0 ≤ a
  a1 : a < 256 ^ k.toNat
theorem nOk.a2 {a k : Int} (h : nOk a k) : a < 18446744073709551616 := by
  refine Int.lt_of_lt_of_le h.a1 ?_
  have h8 : k.toNat ≤ 8 := by have := h.k8; omega
  have h9 : ((256 ^ k.toNat : Nat) : Int) ≤ ((256 ^ 8 : Nat) : Int) := by exact_mod_cast Nat.pow_le_pow_right (by omega) h8
  rw [Int.natCast_pow] at h9
  exact h9
theorem be_le {s : List UInt8} {a k : Int} (h : nOk a k) (hs : s = BE a.toNat k.toNat) : s.length ≤ 10000000 := by
  have := h.k8
  rw [hs, BE_len _ _ (by omega)]
  omega
theorem K_WNumN0 (a k : Int) (hn : nOk a k) : CallE Try.prog 56 [.ptr 0 0, .d (.int .u64 a), .d (.int .i64 k)] 1 [(0, .cells [.d .nilsl, .d (.bool false)])] (fun v n h => Nd (fun _ => Fin 1 (kP 0 (real.app [] (real.s2b (BE a.toNat k.toNat)))) v n h)) := by
  refine call_fn tysOK orders (C := W2) W2_ok H0 Try.func56 (by kernel_rfl) (by kernel_rfl) ?_
  intro oBin oCmp oWrap oNeg oCom oBnot oBeq oPickB oPickI oPickS oInb oSub2 oMinI oMaxI oSlen oSidx oScat oSsub oScmp oScok oLen oCI oCB oCS oCL oOkR oApp oApok oSub oSetc oRep oMkok oNthI oNthB oNthS oIteI oIteB oIteS oB2s oS2b oAllB oWf oDeq oMlen oMhas oMI oMB oMS oMok oMput oMdel oSgo oSru oSnx ho; cbv
  (repeat (any_goals (first
    | with_reducible refine And.intro ?_ ?_
    | exact True.intro
    | with_reducible exact rfl
    | (with_reducible refine Nd.mk ?_; try dsimp only)
    | (with_reducible refine Nd0.mk ?_; try dsimp only)
    | (with_reducible refine Pz.mk ?_; cbv)
    | (with_reducible refine RgOK.mk ?_; kernel_rfl)
    | (with_reducible refine OrOK.mk ?_; kernel_rfl)
    | (with_reducible refine Al.mk (fun x hx => ?_); cbv)
    | (with_reducible refine hK' _ ?_; clear hK' K'; cbv)
    | (with_reducible refine brA.yes (by first | assumption | exact rfl | (simp only [show oCmp = real.cmp from congrArg Ar.cmp ho, show oBin = real.bin from congrArg Ar.bin ho, show oScmp = real.scmp from congrArg Ar.scmp ho, show oPickB = real.pickB from congrArg Ar.pickB ho, show oBnot = real.bnot from congrArg Ar.bnot ho]; decide)) ?_; cbv)
    | (with_reducible refine brA.no (by first | assumption | exact rfl | (simp only [show oCmp = real.cmp from congrArg Ar.cmp ho, show oBin = real.bin from congrArg Ar.bin ho, show oScmp = real.scmp from congrArg Ar.scmp ho, show oPickB = real.pickB from congrArg Ar.pickB ho, show oBnot = real.bnot from congrArg Ar.bnot ho]; decide)) ?_; cbv)
    | (with_reducible refine bcase (fun hb => ?_) (fun hb => ?_) <;> cbv)
    | (intro K' hK'; cbv))))
  all_goals ((try clear hK' K'); cases ho; (try simp only [nc1] at *); (try simp only [Int.ofNat_eq_natCast] at *))
  all_goals first
    | with_reducible exact hn.k1
    | with_reducible exact hn.k8
    | with_reducible exact hn.a0
    | with_reducible exact hn.a1
    | with_reducible exact hn.a2
    | exact be_le hn (by assumption)
    | exact Nat.one_pos
    | (subst_vars; exact ⟨⟨[], [], [0], [0, 1], 2⟩, _, 2, _, rfl, rfl, rfl, rfl, rfl⟩)
    | trace_state
theorem K_WNum0 (r : List (List D)) (a k : Int) (hn : nOk a k) (hr : r.length ≤ 10000000) : CallE Try.prog 56 [.ptr 1 0, .d (.int .u64 a), .d (.int .i64 k)] 2 [(0, .row 1 r), (1, .cells [.sl 0, .d (.bool false)])] (fun v n h => Nd (fun _ => Fin 2 (kP 1 (real.app r (real.s2b (BE a.toNat k.toNat)))) v n h)) := by
  refine call_fn tysOK orders (C := W2) W2_ok H0 Try.func56 (by kernel_rfl) (by kernel_rfl) ?_
  intro oBin oCmp oWrap oNeg oCom oBnot oBeq oPickB oPickI oPickS oInb oSub2 oMinI oMaxI oSlen oSidx oScat oSsub oScmp oScok oLen oCI oCB oCS oCL oOkR oApp oApok oSub oSetc oRep oMkok oNthI oNthB oNthS oIteI oIteB oIteS oB2s oS2b oAllB oWf oDeq oMlen oMhas oMI oMB oMS oMok oMput oMdel oSgo oSru oSnx ho; cbv
  (repeat (any_goals (first
    | with_reducible refine And.intro ?_ ?_
    | exact True.intro
    | with_reducible exact rfl
    | (with_reducible refine Nd.mk ?_; try dsimp only)
    | (with_reducible refine Nd0.mk ?_; try dsimp only)
    | (with_reducible refine Pz.mk ?_; cbv)
    | (with_reducible refine RgOK.mk ?_; kernel_rfl)
    | (with_reducible refine OrOK.mk ?_; kernel_rfl)
    | (with_reducible refine Al.mk (fun x hx => ?_); cbv)
    | (with_reducible refine hK' _ ?_; clear hK' K'; cbv)
    | (with_reducible refine brA.yes (by first | assumption | exact rfl | (simp only [show oCmp = real.cmp from congrArg Ar.cmp ho, show oBin = real.bin from congrArg Ar.bin ho, show oScmp = real.scmp from congrArg Ar.scmp ho, show oPickB = real.pickB from congrArg Ar.pickB ho, show oBnot = real.bnot from congrArg Ar.bnot ho]; decide)) ?_; cbv)
    | (with_reducible refine brA.no (by first | assumption | exact rfl | (simp only [show oCmp = real.cmp from congrArg Ar.cmp ho, show oBin = real.bin from congrArg Ar.bin ho, show oScmp = real.scmp from congrArg Ar.scmp ho, show oPickB = real.pickB from congrArg Ar.pickB ho, show oBnot = real.bnot from congrArg Ar.bnot ho]; decide)) ?_; cbv)
    | (with_reducible refine bcase (fun hb => ?_) (fun hb => ?_) <;> cbv)
    | (intro K' hK'; cbv))))
  all_goals ((try clear hK' K'); cases ho; (try simp only [nc1] at *); (try simp only [Int.ofNat_eq_natCast] at *))
  all_goals first
    | with_reducible exact hn.k1
    | with_reducible exact hn.k8
    | with_reducible exact hn.a0
    | with_reducible exact hn.a1
    | with_reducible exact hn.a2
    | exact be_le hn (by assumption)
    | exact hr
    | decide
    | (subst_vars; exact ⟨⟨[], [], [0], [1, 2], 3⟩, _, 3, _, rfl, rfl, rfl, rfl, rfl⟩)
    | trace_state
theorem K_WNumNil0 (a k : Int) (hn : nOk a k) : CallE Try.prog 56 [.d .nilp, .d (.int .u64 a), .d (.int .i64 k)] 0 [] (fun v n h => Nd (fun _ => Fin 0 (Gets fun v => v = .d .nilp) v n h)) := by
  refine call_fn tysOK orders (C := W2) W2_ok H0 Try.func56 (by kernel_rfl) (by kernel_rfl) ?_
  intro oBin oCmp oWrap oNeg oCom oBnot oBeq oPickB oPickI oPickS oInb oSub2 oMinI oMaxI oSlen oSidx oScat oSsub oScmp oScok oLen oCI oCB oCS oCL oOkR oApp oApok oSub oSetc oRep oMkok oNthI oNthB oNthS oIteI oIteB oIteS oB2s oS2b oAllB oWf oDeq oMlen oMhas oMI oMB oMS oMok oMput oMdel oSgo oSru oSnx ho; cbv
  (repeat (any_goals (first
    | with_reducible refine And.intro ?_ ?_
    | exact True.intro
    | with_reducible exact rfl
    | (with_reducible refine Nd.mk ?_; try dsimp only)
    | (with_reducible refine Nd0.mk ?_; try dsimp only)
    | (with_reducible refine Pz.mk ?_; cbv)
    | (with_reducible refine RgOK.mk ?_; kernel_rfl)
    | (with_reducible refine OrOK.mk ?_; kernel_rfl)
    | (with_reducible refine Al.mk (fun x hx => ?_); cbv)
    | (with_reducible refine hK' _ ?_; clear hK' K'; cbv)
    | (with_reducible refine brA.yes (by first | assumption | exact rfl | (simp only [show oCmp = real.cmp from congrArg Ar.cmp ho, show oBin = real.bin from congrArg Ar.bin ho, show oScmp = real.scmp from congrArg Ar.scmp ho, show oPickB = real.pickB from congrArg Ar.pickB ho, show oBnot = real.bnot from congrArg Ar.bnot ho]; decide)) ?_; cbv)
    | (with_reducible refine brA.no (by first | assumption | exact rfl | (simp only [show oCmp = real.cmp from congrArg Ar.cmp ho, show oBin = real.bin from congrArg Ar.bin ho, show oScmp = real.scmp from congrArg Ar.scmp ho, show oPickB = real.pickB from congrArg Ar.pickB ho, show oBnot = real.bnot from congrArg Ar.bnot ho]; decide)) ?_; cbv)
    | (with_reducible refine bcase (fun hb => ?_) (fun hb => ?_) <;> cbv)
    | (intro K' hK'; cbv))))
  all_goals ((try clear hK' K'); cases ho; (try simp only [nc1] at *); (try simp only [Int.ofNat_eq_natCast] at *))
  all_goals first
    | with_reducible exact hn.k1
    | with_reducible exact hn.k8
    | with_reducible exact hn.a0
    | with_reducible exact hn.a1
    | with_reducible exact hn.a2
    | exact ⟨⟨[], [], [0], [], 0⟩, _, 0, _, rfl, rfl, ⟨rfl⟩, rfl, rfl, rfl⟩
    | trace_state
def S_WNum (i : Nat) (a k : Int) (K : CallK) (n : Nat) (h : Hp) : Prop := patW h i (Nd (fun _ => i < n ∧ nOk a k) ∧ Al (fun r' => r' = real.app [] (real.s2b (BE a.toNat k.toNat))) fun r' => wOut1 i r' K n h)
  fun j r => Nd (fun _ => i < n ∧ j < n ∧ i ≠ j ∧ r.length ≤ 10000000 ∧ nOk a k) ∧ Al (fun r' => r' = real.app r (real.s2b (BE a.toNat k.toNat))) fun r' => wOut2 i j r' K n h
theorem L_WNum {i n : Nat} {a k : Int} {h : Hp} {K : CallK} (hK : S_WNum i a k K n h) : CallE Try.prog 56 [.ptr i 0, .d (.int .u64 a), .d (.int .i64 k)] n h K := by
  rcases patW_elim hK with ⟨hg, ⟨⟨hi, hs⟩⟩, hk⟩ | ⟨j, r, hg, hg2, ⟨⟨hi, hj, hij, hr, hs⟩⟩, hk⟩
  · exact wrN_of (CallE.fin (K_WNumN0 a k hs)) rfl hi hg (hk.h _ rfl)
  · exact wrW_of (CallE.fin (K_WNum0 r a k hs hr)) rfl hi hj hij hg hg2 (hk.h _ rfl)
def S_WNumNil (a k : Int) (K : CallK) (n : Nat) (h : Hp) : Prop := Nd (fun _ => nOk a k) ∧ K (.d .nilp) n h
theorem L_WNumNil {a k : Int} {n : Nat} {h : Hp} {K : CallK} (hK : S_WNumNil a k K n h) : CallE Try.prog 56 [.d .nilp, .d (.int .u64 a), .d (.int .i64 k)] n h K := call_data (CallE.fin (K_WNumNil0 a k hK.1.h)) rfl (by rintro v rfl; exact hK.2)
end Go.Proofs.Yteakfibolfapiaa.Ab
end
section
namespace Go.Proofs.Yteakfibolfapiaa.Ab
open Go Go.RowKit Go.Sort
set_option linter.unusedVariables false
set_option linter.unusedSimpArgs false
set_option maxRecDepth 100000
set_option maxHeartbeats 8000000
def S_R01Fits (a k : Int) (K : CallK) (n : Nat) (h : Hp) : Prop := Nd (fun _ => 1 ≤ k ∧ k ≤ 8 ∧ 0 ≤ a ∧ a < 256 ^ k.toNat) ∧ K (.d (.bool true)) n h
theorem L_R01Fits {a k : Int} {n : Nat} {h : Hp} {K : CallK} (hK : S_R01Fits a k K n h) : CallE Try.prog 72 [.d (.int .u64 a), .d (.int .i64 k)] n h K :=
  call_old (v := .bool true) Try.func72 (by kernel_rfl) (by kernel_rfl) (vals := [.int .u64 a, .int .i64 k]) (by intro ρ w M vs h; simpa [RelVs, RelV, RelD] using h) (by intro ρ w M; simp [RelV, RelD]) (fun w hJ => by
    obtain ⟨⟨h1, h2, h3, h4⟩, -⟩ := hK
    obtain ⟨a, rfl⟩ := Int.eq_ofNat_of_zero_le h3
    obtain ⟨k, rfl⟩ := Int.eq_ofNat_of_zero_le (a := k) (by omega)
    exact C_R01Fits_yes a k (by rw [Int.toNat_natCast] at h4; exact_mod_cast h4) (by omega) (by omega) w) hK.2
def S_R01Put (a k : Int) (K : CallK) (n : Nat) (h : Hp) : Prop := Nd (fun _ => 1 ≤ k ∧ k ≤ 8 ∧ 0 ≤ a ∧ a < 18446744073709551616) ∧ Al (fun s => s = BE a.toNat k.toNat) fun s => K (.d (.str s)) n h
theorem L_R01Put {a k : Int} {n : Nat} {h : Hp} {K : CallK} (hK : S_R01Put a k K n h) : CallE Try.prog 73 [.d (.int .u64 a), .d (.int .i64 k)] n h K :=
  call_old (v := .string ⟨(BE a.toNat k.toNat).toArray⟩) Try.func73 (by kernel_rfl) (by kernel_rfl) (vals := [.int .u64 a, .int .i64 k]) (by intro ρ w M vs h; simpa [RelVs, RelV, RelD] using h) (by intro ρ w M; simp [RelV, RelD]) (fun w hJ => by
    obtain ⟨⟨h1, h2, h3, h4⟩, -⟩ := hK
    obtain ⟨a, rfl⟩ := Int.eq_ofNat_of_zero_le h3
    obtain ⟨k, rfl⟩ := Int.eq_ofNat_of_zero_le (a := k) (by omega)
    exact C_R01Put a k (by omega) (by omega) (by omega) w) (hK.2.h _ rfl)
/-- A field: a number of a width, a signed one, a text. -/
structure Fl where
  k : Int
  w : Int
  n : Int
  s : List UInt8
def rowF (f : Fl) : List D := [.int .i64 f.k, .int .i64 f.w, .int .u64 f.n, .str f.s]
def okF (f : Fl) : Prop := (f.k = 0 ∧ 1 ≤ f.w ∧ f.w ≤ 8 ∧ 0 ≤ f.n ∧ f.n < 256 ^ f.w.toNat) ∨ (f.k = 1 ∧ 0 ≤ f.n ∧ f.n < 18446744073709551616) ∨ (f.k = 2 ∧ f.s.length ≤ 255)
def byF (f : Fl) : List UInt8 := if f.k = 2 then UInt8.ofNat f.s.length :: f.s else if f.k = 1 then BE f.n.toNat 8 else BE f.n.toNat f.w.toNat
def fR (l : List Fl) : List (List D) := l.map rowF
def bysF (l : List Fl) : List UInt8 := l.flatMap byF
theorem fR_len (l : List Fl) : (fR l).length = l.length := by simp [fR]
section
variable {l : List Fl} {j : Int} {i : Nat} {s x : List UInt8}
theorem fR_at (hi : i < l.length) : (fR l).getD i [] = rowF l[i] := by
  rw [List.getD_eq_getElem?_getD, List.getElem?_eq_getElem (by rw [fR_len]; exact hi)]
  simp [fR]
theorem fR_wf (l : List Fl) : real.wf (fR l) 4 = true := by
  simp only [real, rWf, List.all_eq_true]
  intro r hr
  obtain ⟨a, -, rfl⟩ := List.mem_map.1 hr
  rfl
theorem fR_ok (hj : j = i) (hi : i < l.length) : real.okR (fR l) j 0 [.int .i64, .int .i64, .int .u64, .str] = true := by
  subst hj
  simp only [real, Int.toNat_natCast, fR_at hi, fR_len]
  simp [rowOk, kdOk, rowF]
  omega
theorem fR_0 (hj : j = i) (hi : i < l.length) : real.cI (fR l) j 0 = l[i].k := by
  subst hj
  show (match rCell (fR l) (i : Int) 0 with | .int _ n => n | _ => 0) = _
  unfold rCell
  rw [Int.toNat_natCast, fR_at hi]
  rfl
theorem fR_1 (hj : j = i) (hi : i < l.length) : real.cI (fR l) j 1 = l[i].w := by
  subst hj
  show (match rCell (fR l) (i : Int) 1 with | .int _ n => n | _ => 0) = _
  unfold rCell
  rw [Int.toNat_natCast, fR_at hi]
  rfl
theorem fR_2 (hj : j = i) (hi : i < l.length) : real.cI (fR l) j 2 = l[i].n := by
  subst hj
  show (match rCell (fR l) (i : Int) 2 with | .int _ n => n | _ => 0) = _
  unfold rCell
  rw [Int.toNat_natCast, fR_at hi]
  rfl
theorem fR_3 (hj : j = i) (hi : i < l.length) : real.cS (fR l) j 3 = l[i].s := by
  subst hj
  show (match rCell (fR l) (i : Int) 3 with | .str s => s | _ => []) = _
  unfold rCell
  rw [Int.toNat_natCast, fR_at hi]
  rfl
theorem lt_fR (hj : j = i) (h : real.cmp .lss j (real.len (fR l)) = true) : i < l.length := by
  have := lt_R hj h; rwa [fR_len] at this
theorem ge_fR (hj : j = i) (h : real.cmp .lss j (real.len (fR l)) = false) : l.length ≤ i := by
  have := ge_R hj h; rwa [fR_len] at this
theorem eql_t {x y : Int} (h : real.cmp .eql x y = true) : x = y := by simpa [real, rCmp] using h
theorem eql_f {x y : Int} (h : real.cmp .eql x y = false) : x ≠ y := by simpa [real, rCmp] using h
theorem byF_len {f : Fl} (h : okF f) : (byF f).length ≤ 256 := by
  unfold byF
  rcases h with ⟨h1, h2, h3, -⟩ | ⟨h1, -⟩ | ⟨h1, h2⟩
  · rw [if_neg (by omega), if_neg (by omega), BE_len _ _ (by omega)]; omega
  · rw [if_neg (by omega), if_pos h1, BE_len _ _ (by omega)]; omega
  · rw [if_pos h1]; simp; omega
theorem bysF_len : ∀ {l : List Fl}, (∀ f ∈ l, okF f) → (bysF l).length ≤ 256 * l.length
  | [], _ => by simp [bysF]
  | f :: l, h => by
    have h1 := byF_len (h f (by simp))
    have h2 := bysF_len (l := l) (fun g hg => h g (by simp [hg]))
    simp only [bysF, List.flatMap_cons, List.length_append, List.length_cons] at h2 ⊢
    omega
theorem bysF_take (hi : i < l.length) : bysF (l.take (i + 1)) = bysF (l.take i) ++ byF l[i] := by
  rw [List.take_succ_eq_append_getElem hi, bysF, List.flatMap_append, List.flatMap_cons, List.flatMap_nil, List.append_nil]
  rfl
theorem w_big (hj : j = i) (h5 : i < l.length) (ho : ∀ f ∈ l, okF f) (h2 : real.cmp .eql (real.cI (fR l) j 0) 2 = true) (h : real.cmp .gtr (real.slen (real.cS (fR l) j 3)) 255 = true) : False := by
  rw [fR_0 hj h5] at h2
  rw [fR_3 hj h5] at h
  have h2 := eql_t h2
  have h : (l[i].s.length : Int) > 255 := of_decide_eq_true h
  rcases ho l[i] (List.getElem_mem h5) with h3 | h3 | h3 <;> omega
theorem w_num (hj : j = i) (h5 : i < l.length) (ho : ∀ f ∈ l, okF f) (h1 : real.cmp .eql (real.cI (fR l) j 0) 1 = false) (h2 : real.cmp .eql (real.cI (fR l) j 0) 2 = false) :
    1 ≤ real.cI (fR l) j 1 ∧ real.cI (fR l) j 1 ≤ 8 ∧ 0 ≤ real.cI (fR l) j 2 ∧ real.cI (fR l) j 2 < 256 ^ (real.cI (fR l) j 1).toNat ∧ real.cI (fR l) j 2 < 18446744073709551616 := by
  rw [fR_0 hj h5] at h1 h2
  rw [fR_1 hj h5, fR_2 hj h5]
  have h1 := eql_f h1
  have h2 := eql_f h2
  rcases ho l[i] (List.getElem_mem h5) with ⟨-, h3, h4, h6, h7⟩ | h3 | h3
  · refine ⟨h3, h4, h6, h7, Int.lt_of_lt_of_le h7 ?_⟩
    have h8 : l[i].w.toNat ≤ 8 := by omega
    have : (256 ^ l[i].w.toNat : Nat) ≤ 256 ^ 8 := Nat.pow_le_pow_right (by omega) h8
    have h9 : ((256 ^ l[i].w.toNat : Nat) : Int) ≤ ((256 ^ 8 : Nat) : Int) := by exact_mod_cast this
    rw [Int.natCast_pow] at h9
    exact h9
  · exact absurd h3.1 h1
  · exact absurd h3.1 h2
theorem w_sig (hj : j = i) (h5 : i < l.length) (ho : ∀ f ∈ l, okF f) (h1 : real.cmp .eql (real.cI (fR l) j 0) 1 = true) :
    0 ≤ real.cI (fR l) j 2 ∧ real.cI (fR l) j 2 < 256 ^ Int.toNat 8 ∧ real.cI (fR l) j 2 < 18446744073709551616 := by
  rw [fR_0 hj h5] at h1
  rw [fR_2 hj h5]
  have h1 := eql_t h1
  rcases ho l[i] (List.getElem_mem h5) with h3 | h3 | h3
  · omega
  · exact ⟨h3.2.1, h3.2.2, h3.2.2⟩
  · omega
theorem w_12 {x' : Int} (h1 : real.cmp .eql x' 1 = true) (h2 : real.cmp .eql x' 2 = true) : False := by
  have h1 := eql_t h1
  have h2 := eql_t h2
  omega
theorem scok_i {a b : List UInt8} (ha : a.length ≤ 3000000) (hb : b.length ≤ 3000000) : real.scok a b = true := decide_eq_true (by omega)
theorem w_row1 (hj : j = i) (h5 : i < l.length) (h1 : real.cmp .eql (real.cI (fR l) j 0) 1 = false) (h2 : real.cmp .eql (real.cI (fR l) j 0) 2 = false) (hs : s = bysF (l.take i)) (hx : x = BE (real.cI (fR l) j 2).toNat (real.cI (fR l) j 1).toNat) : real.scat s x = bysF (l.take (i + 1)) := by
  rw [fR_0 hj h5] at h1 h2
  rw [fR_1 hj h5, fR_2 hj h5] at hx
  rw [bysF_take h5, hs, hx]
  have h1 := eql_f h1
  have h2 := eql_f h2
  unfold byF
  rw [if_neg h2, if_neg h1]
  rfl
theorem w_row2 (hj : j = i) (h5 : i < l.length) (h1 : real.cmp .eql (real.cI (fR l) j 0) 1 = true) (hs : s = bysF (l.take i)) (hx : x = BE (real.cI (fR l) j 2).toNat (Int.toNat 8)) : real.scat s x = bysF (l.take (i + 1)) := by
  rw [fR_0 hj h5] at h1
  rw [fR_2 hj h5] at hx
  rw [bysF_take h5, hs, hx]
  have h1 := eql_t h1
  unfold byF
  rw [if_neg (by omega), if_pos h1]
  rfl
theorem w_len {c : List UInt8} (h : real.cmp .gtr (real.slen c) 255 = false) : real.wrap .u8 (real.slen c) = c.length ∧ c.length ≤ 255 := by
  have h : ¬ (c.length : Int) > 255 := of_decide_eq_false h
  exact ⟨wrap_u8 _ (by show (0 : Int) ≤ (c.length : Int); omega) (by show (c.length : Int) ≤ 255; omega), by omega⟩
theorem w_b2s {c : List UInt8} (h : real.cmp .gtr (real.slen c) 255 = false) : real.b2s [[.int .u8 (real.wrap .u8 (real.slen c))]] = [UInt8.ofNat c.length] ∧ real.allB [[.int .u8 (real.wrap .u8 (real.slen c))]] = true := by
  obtain ⟨h1, h2⟩ := w_len h
  rw [h1]
  have h3 : (0 : Int) ≤ (c.length : Int) ∧ (c.length : Int) < 256 := by omega
  constructor
  · simp [real, byteOf, h3]
  · simp [real, byteOf, h3]
theorem w_row3 (hj : j = i) (h5 : i < l.length) (h2 : real.cmp .eql (real.cI (fR l) j 0) 2 = true) (hs : s = bysF (l.take i)) (h : real.cmp .gtr (real.slen (real.cS (fR l) j 3)) 255 = false) : real.scat (real.scat s (real.b2s [[.int .u8 (real.wrap .u8 (real.slen (real.cS (fR l) j 3)))]])) (real.cS (fR l) j 3) = bysF (l.take (i + 1)) := by
  rw [fR_0 hj h5] at h2
  rw [(w_b2s h).1, bysF_take h5, hs, fR_3 hj h5]
  have h2 := eql_t h2
  unfold byF
  rw [if_pos h2]
  simp [real]
end
def T1 : CallS := fun f args n h K => match f with
  | 72 => (match args with | [.d (.int .u64 a), .d (.int .i64 k)] => S_R01Fits a k K n h | _ => False)
  | 73 => (match args with | [.d (.int .u64 a), .d (.int .i64 k)] => S_R01Put a k K n h | _ => False)
  | _ => False
theorem T1_ok : ∀ f args n h K, T1 f args n h K → CallE Try.prog f args n h K := by
  intro f args n h K hc
  unfold T1 at hc
  split at hc
  · split at hc
    · exact L_R01Fits hc
    · exact hc.elim
  · split at hc
    · exact L_R01Put hc
    · exact hc.elim
  · exact hc.elim
theorem wf1 (x : D) : real.wf [[x]] 1 = true := rfl
theorem K_W0 (r : List (List D)) (l : List Fl) (hr : r = fR l) (hl : l.length ≤ 10000) (ho : ∀ f ∈ l, okF f) : CallE Try.prog 51 [.d (.imm r)] 0 [] (fun v n h => Nd (fun _ => Fin 0 (Gets fun v => v = .tup [.d (.str (bysF l)), .d (.bool true)]) v n h)) := by
  have hof := ho
  clear ho
  refine call_fn tysOK orders (C := T1) T1_ok H0 Try.func51 (by kernel_rfl) (by kernel_rfl) ?_
  intro oBin oCmp oWrap oNeg oCom oBnot oBeq oPickB oPickI oPickS oInb oSub2 oMinI oMaxI oSlen oSidx oScat oSsub oScmp oScok oLen oCI oCB oCS oCL oOkR oApp oApok oSub oSetc oRep oMkok oNthI oNthB oNthS oIteI oIteB oIteS oB2s oS2b oAllB oWf oDeq oMlen oMhas oMI oMB oMS oMok oMput oMdel oSgo oSru oSnx ho; cbv
  (repeat (any_goals (first
    | with_reducible refine And.intro ?_ ?_
    | exact True.intro
    | with_reducible exact rfl
    | (with_reducible refine Nd.mk ?_; try dsimp only)
    | (with_reducible refine Nd0.mk ?_; try dsimp only)
    | (with_reducible refine Pz.mk ?_; cbv)
    | (with_reducible refine RgOK.mk ?_; kernel_rfl)
    | (with_reducible refine OrOK.mk ?_; kernel_rfl)
    | (with_reducible refine Al.mk (fun x hx => ?_); cbv)
    | (with_reducible refine hK' _ ?_; clear hK' K'; cbv)
    | (with_reducible refine brA.yes (by first | assumption | exact rfl | (simp only [show oCmp = real.cmp from congrArg Ar.cmp ho, show oBin = real.bin from congrArg Ar.bin ho, show oScmp = real.scmp from congrArg Ar.scmp ho, show oPickB = real.pickB from congrArg Ar.pickB ho, show oBnot = real.bnot from congrArg Ar.bnot ho]; decide)) ?_; cbv)
    | (with_reducible refine brA.no (by first | assumption | exact rfl | (simp only [show oCmp = real.cmp from congrArg Ar.cmp ho, show oBin = real.bin from congrArg Ar.bin ho, show oScmp = real.scmp from congrArg Ar.scmp ho, show oPickB = real.pickB from congrArg Ar.pickB ho, show oBnot = real.bnot from congrArg Ar.bnot ho]; decide)) ?_; cbv)
    | (with_reducible refine bcase (fun hb => ?_) (fun hb => ?_) <;> cbv)
    | (intro K' hK'; cbv))))
  any_goals (refine ⟨fun st => ∃ (i : Nat) (j : Int) (s : List UInt8), j = i ∧ i ≤ l.length ∧ s = bysF (l.take i) ∧ st = ⟨mkF 57 0 [(0, .d (.imm r)), (4, .d (.str s)), (5, .d (.int .i64 j))], 0, []⟩,
      fun st => ((l.length : Int) - ctr 5 st).toNat, ⟨[], [], [0, 4, 5], [], 0⟩, ?_, ?_, ?_⟩
             · cbv
             · exact ⟨0, 0, [], rfl, Nat.zero_le _, rfl, rfl⟩
             rintro st1 ⟨i, j, s, hj, hi, hs, rfl⟩
             cbv
             (repeat (any_goals (first
    | with_reducible refine And.intro ?_ ?_
    | exact True.intro
    | with_reducible exact rfl
    | (with_reducible refine Nd.mk ?_; try dsimp only)
    | (with_reducible refine Nd0.mk ?_; try dsimp only)
    | (with_reducible refine Pz.mk ?_; cbv)
    | (with_reducible refine RgOK.mk ?_; kernel_rfl)
    | (with_reducible refine OrOK.mk ?_; kernel_rfl)
    | (with_reducible refine Al.mk (fun x hx => ?_); cbv)
    | (with_reducible refine hK' _ ?_; clear hK' K'; cbv)
    | (with_reducible refine brA.yes (by first | assumption | exact rfl | (simp only [show oCmp = real.cmp from congrArg Ar.cmp ho, show oBin = real.bin from congrArg Ar.bin ho, show oScmp = real.scmp from congrArg Ar.scmp ho, show oPickB = real.pickB from congrArg Ar.pickB ho, show oBnot = real.bnot from congrArg Ar.bnot ho]; decide)) ?_; cbv)
    | (with_reducible refine brA.no (by first | assumption | exact rfl | (simp only [show oCmp = real.cmp from congrArg Ar.cmp ho, show oBin = real.bin from congrArg Ar.bin ho, show oScmp = real.scmp from congrArg Ar.scmp ho, show oPickB = real.pickB from congrArg Ar.pickB ho, show oBnot = real.bnot from congrArg Ar.bnot ho]; decide)) ?_; cbv)
    | (with_reducible refine bcase (fun hb => ?_) (fun hb => ?_) <;> cbv)
    | (intro K' hK'; cbv)))))
  all_goals ((try clear hK' K'); cases ho; (try simp only [nc1] at *); (try simp only [Int.ofNat_eq_natCast] at *))
  all_goals subst hr
  all_goals first
    | with_reducible exact wf1 _
    | with_reducible exact (show (1 : Int) ≤ 8 by decide)
    | with_reducible exact (show (8 : Int) ≤ 8 by decide)
    | (have h5 := lt_fR hj ‹real.cmp .lss j _ = true›
       have h7 := add_1 hj (by omega)
       have hlen : s.length ≤ 2560000 := by
         have := bysF_len (l := l.take i) (fun f hf => hof f (List.mem_of_mem_take hf))
         rw [← hs, List.length_take] at this
         omega
       first
       | with_reducible exact in_R hj (by rw [fR_len]; exact h5)
       | with_reducible exact fR_wf l
       | with_reducible exact fR_ok hj h5
       | exact (w_12 ‹real.cmp .eql (real.cI (fR l) j 0) 1 = true› ‹real.cmp .eql (real.cI (fR l) j 0) 2 = true›).elim
       | exact (w_big hj h5 hof ‹real.cmp .eql (real.cI (fR l) j 0) 2 = true› ‹real.cmp .gtr _ 255 = true›).elim
       | (have h9 := w_b2s (c := real.cS (fR l) j 3) ‹real.cmp .gtr _ 255 = false›
          have h8 := (w_len (c := real.cS (fR l) j 3) ‹real.cmp .gtr _ 255 = false›).2
          first
          | with_reducible exact h9.2
          | (rw [h9.1]; exact scok_i (by omega) (by simp))
          | (rw [h9.1]; refine scok_i ?_ (by omega); show (s ++ [_]).length ≤ 3000000; simp; omega)
          | (refine ⟨⟨[], [], [0, 4, 5], [], 0⟩, rfl, ⟨i + 1, real.bin .add .i64 j 1, _, h7, by omega, w_row3 hj h5 ‹real.cmp .eql (real.cI (fR l) j 0) 2 = true› hs ‹real.cmp .gtr _ 255 = false›, rfl⟩, ?_⟩; show ((l.length : Int) - real.bin .add .i64 j 1).toNat < ((l.length : Int) - j).toNat; rw [h7]; omega))
       | (have h9 := w_sig hj h5 hof ‹real.cmp .eql (real.cI (fR l) j 0) 1 = true›
          first
          | with_reducible exact h9.1
          | with_reducible exact h9.2.1
          | with_reducible exact h9.2.2
          | (refine scok_i (by omega) ?_; rw [hx, BE_len _ _ (by decide)]; decide)
          | (refine ⟨⟨[], [], [0, 4, 5], [], 0⟩, rfl, ⟨i + 1, real.bin .add .i64 j 1, _, h7, by omega, w_row2 hj h5 ‹real.cmp .eql (real.cI (fR l) j 0) 1 = true› hs hx, rfl⟩, ?_⟩; show ((l.length : Int) - real.bin .add .i64 j 1).toNat < ((l.length : Int) - j).toNat; rw [h7]; omega))
       | (have h9 := w_num hj h5 hof ‹real.cmp .eql (real.cI (fR l) j 0) 1 = false› ‹real.cmp .eql (real.cI (fR l) j 0) 2 = false›
          first
          | with_reducible exact h9.1
          | with_reducible exact h9.2.1
          | with_reducible exact h9.2.2.1
          | with_reducible exact h9.2.2.2.1
          | with_reducible exact h9.2.2.2.2
          | (refine scok_i (by omega) ?_; rw [hx, BE_len _ _ (by omega)]; omega)
          | (refine ⟨⟨[], [], [0, 4, 5], [], 0⟩, rfl, ⟨i + 1, real.bin .add .i64 j 1, _, h7, by omega, w_row1 hj h5 ‹real.cmp .eql (real.cI (fR l) j 0) 1 = false› ‹real.cmp .eql (real.cI (fR l) j 0) 2 = false› hs hx, rfl⟩, ?_⟩; show ((l.length : Int) - real.bin .add .i64 j 1).toNat < ((l.length : Int) - j).toNat; rw [h7]; omega)))
    | (have h5 := ge_fR hj ‹real.cmp .lss j _ = false›
       rw [List.take_of_length_le h5] at hs
       exact ⟨⟨[], [], [0], [], 0⟩, _, 0, _, rfl, rfl, ⟨by subst hs; rfl⟩, rfl, rfl, rfl⟩)
    | trace_state
/-- Rows that are some fields'. -/
def isFR (r : List (List D)) : Prop := ∃ l, r = fR l ∧ l.length ≤ 10000 ∧ ∀ f ∈ l, okF f
theorem fR_inj {xs ys : List Fl} (h : fR xs = fR ys) : xs = ys := by
  have key : ∀ a b : Fl, rowF a = rowF b → a = b := by
    rintro ⟨a, b, c, d⟩ ⟨a', b', c', d'⟩ h
    simp [rowF] at h
    obtain ⟨rfl, rfl, rfl, rfl⟩ := h
    rfl
  induction xs generalizing ys with
  | nil => cases ys with
    | nil => rfl
    | cons y ys => simp [fR] at h
  | cons x xs ih => cases ys with
    | nil => simp [fR] at h
    | cons y ys =>
      simp only [fR, List.map_cons, List.cons.injEq] at h
      rw [key x y h.1, ih h.2]
def S_Wr4 (r : List (List D)) (K : CallK) (n : Nat) (h : Hp) : Prop := Nd (fun _ => isFR r) ∧ Al (fun s : List UInt8 => ∀ l, r = fR l → s = bysF l) fun s => K (.tup [.d (.str s), .d (.bool true)]) n h
theorem L_Wr4 {r : List (List D)} {n : Nat} {h : Hp} {K : CallK} (hK : S_Wr4 r K n h) : CallE Try.prog 51 [.d (.imm r)] n h K := by
  obtain ⟨⟨l, hr, hl, ho⟩, hk⟩ := hK
  refine call_data (CallE.fin (K_W0 r l hr hl ho)) rfl ?_
  rintro v rfl
  exact hk.h (bysF l) fun l' e => by rw [hr] at e; rw [← fR_inj e]
def T2 : CallS := fun f args n h K => match f with
  | 51 => (match args with | [.d (.imm r)] => S_Wr4 r K n h | _ => False)
  | _ => False
theorem T2_ok : ∀ f args n h K, T2 f args n h K → CallE Try.prog f args n h K := by
  intro f args n h K hc
  unfold T2 at hc
  split at hc
  · split at hc
    · exact L_Wr4 hc
    · exact hc.elim
  · exact hc.elim
def fl3 (a : It.Acc) : List Fl := [⟨0, 2, a.c, []⟩, ⟨0, 1, a.k, []⟩, ⟨2, 0, 0, a.s⟩]
def flC (l : List It.Acc) : List Fl := ⟨0, 1, l.length, []⟩ :: l.flatMap fl3
/-- A chart's bytes. -/
def chB (l : List It.Acc) : List UInt8 := bysF (flC l)
theorem rgt_bd {a : It.Acc} (h : rgt a = true) : 1 ≤ a.c ∧ a.c ≤ 65535 ∧ 1 ≤ a.k ∧ a.k ≤ 5 ∧ a.s.length ≤ 24 := by
  have h : rightB a.c a.k a.s = true := h
  simp only [rightB, rightN, Bool.and_eq_true, decide_eq_true_eq] at h
  omega
theorem okF_3 {a : It.Acc} (h : rgt a = true) : ∀ f ∈ fl3 a, okF f := by
  obtain ⟨h1, h2, h3, h4, h5⟩ := rgt_bd h
  intro f hf
  simp only [fl3, List.mem_cons, List.not_mem_nil, or_false] at hf
  rcases hf with rfl | rfl | rfl
  · refine .inl ⟨rfl, (by show (1 : Int) ≤ 2; decide), (by show (2 : Int) ≤ 8; decide), by show (0 : Int) ≤ a.c; omega, ?_⟩
    show a.c < (65536 : Int)
    omega
  · refine .inl ⟨rfl, (by show (1 : Int) ≤ 1; decide), (by show (1 : Int) ≤ 8; decide), by show (0 : Int) ≤ a.k; omega, ?_⟩
    show a.k < (256 : Int)
    omega
  · exact .inr (.inr ⟨rfl, by show a.s.length ≤ 255; omega⟩)
theorem okF_C {l : List It.Acc} (hg : gL l) : ∀ f ∈ flC l, okF f := by
  intro f hf
  rcases List.mem_cons.1 hf with rfl | hf
  · refine .inl ⟨rfl, (by show (1 : Int) ≤ 1; decide), (by show (1 : Int) ≤ 8; decide), Int.natCast_nonneg _, ?_⟩
    have := hg.ln
    show (l.length : Int) < (256 : Int)
    omega
  · obtain ⟨a, ha, hf⟩ := List.mem_flatMap.1 hf
    exact okF_3 (hg.rg a ha) f hf
theorem fl3_len (l : List It.Acc) : (l.flatMap fl3).length = 3 * l.length := by
  induction l with
  | nil => rfl
  | cons a l ih => rw [List.flatMap_cons, List.length_append, ih]; simp [fl3]; omega
theorem apok4 {o : List (List D)} {a b c : Int} {d : List UInt8} (h : o.length ≤ 10000) : real.apok o [[.int .i64 a, .int .i64 b, .int .u64 c, .str d]] 4 40 = true := by
  simp [real, flatD, maxLen]
  omega
theorem app_len (o : List (List D)) (x : List D) : (real.app o [x]).length = o.length + 1 := by simp [real]
theorem o_len {l : List It.Acc} {i : Nat} {o : List (List D)} (hg : gL l) (ho : o = fR (⟨0, 1, l.length, []⟩ :: (l.take i).flatMap fl3)) : o.length ≤ 200 := by
  have := hg.ln
  rw [ho, fR_len, List.length_cons, fl3_len, List.length_take]
  omega
theorem o_step {l : List It.Acc} {i : Nat} {j : Int} {o : List (List D)} (hg : gL l) (hj : j = i) (h5 : i < l.length) (ho : o = fR (⟨0, 1, l.length, []⟩ :: (l.take i).flatMap fl3)) :
    real.app (real.app (real.app o [[.int .i64 0, .int .i64 2, .int .u64 (real.wrap .u64 (real.cI (aR l) j 0)), .str []]]) [[.int .i64 0, .int .i64 1, .int .u64 (real.wrap .u64 (real.cI (aR l) j 1)), .str []]]) [[.int .i64 2, .int .i64 0, .int .u64 0, .str (real.cS (aR l) j 2)]] =
      fR (⟨0, 1, l.length, []⟩ :: (l.take (i + 1)).flatMap fl3) := by
  obtain ⟨h1, h2, h3, h4, -⟩ := rgt_bd (hg.rg l[i] (List.getElem_mem h5))
  rw [aR_c hj h5, aR_k hj h5, aR_s hj h5, wrap_u64' (by omega) (by omega), wrap_u64' (by omega) (by omega), List.take_succ_eq_append_getElem h5, List.flatMap_append, ho]
  simp [real, fR, fl3, rowF]
where
  wrap_u64' {x : Int} (h0 : 0 ≤ x) (h1 : x ≤ 65535) : real.wrap .u64 x = x := wrap_u64 x h0 (by omega)
theorem fin_v2 {p : AV → Prop} {d : D} (h : p (.d d)) : Fin 0 (Gets p) (.d d) 0 [] := ⟨⟨[], [], [0], [], 0⟩, _, 0, _, rfl, rfl, ⟨h⟩, rfl, rfl, rfl⟩
theorem K_Tx0 (r : List (List D)) (l : List It.Acc) (hr : r = aR l) (hg : gL l) : CallE Try.prog 20 [.d (.imm r)] 0 [] (fun v n h => Nd (fun _ => Fin 0 (Gets fun v => v = .d (.str (chB l))) v n h)) := by
  refine call_fn tysOK orders (C := T2) T2_ok ⟨[((8, 1), [0])], [(1, 4)], 0⟩ Try.func20 (by kernel_rfl) (by kernel_rfl) ?_
  intro oBin oCmp oWrap oNeg oCom oBnot oBeq oPickB oPickI oPickS oInb oSub2 oMinI oMaxI oSlen oSidx oScat oSsub oScmp oScok oLen oCI oCB oCS oCL oOkR oApp oApok oSub oSetc oRep oMkok oNthI oNthB oNthS oIteI oIteB oIteS oB2s oS2b oAllB oWf oDeq oMlen oMhas oMI oMB oMS oMok oMput oMdel oSgo oSru oSnx ho; cbv
  (repeat (any_goals (first
    | with_reducible refine And.intro ?_ ?_
    | exact True.intro
    | with_reducible exact rfl
    | (with_reducible refine Nd.mk ?_; try dsimp only)
    | (with_reducible refine Nd0.mk ?_; try dsimp only)
    | (with_reducible refine Pz.mk ?_; cbv)
    | (with_reducible refine RgOK.mk ?_; kernel_rfl)
    | (with_reducible refine OrOK.mk ?_; kernel_rfl)
    | (with_reducible refine Al.mk (fun x hx => ?_); cbv)
    | (with_reducible refine hK' _ ?_; clear hK' K'; cbv)
    | (with_reducible refine brA.yes (by first | assumption | exact rfl | (simp only [show oCmp = real.cmp from congrArg Ar.cmp ho, show oBin = real.bin from congrArg Ar.bin ho, show oScmp = real.scmp from congrArg Ar.scmp ho, show oPickB = real.pickB from congrArg Ar.pickB ho, show oBnot = real.bnot from congrArg Ar.bnot ho]; decide)) ?_; cbv)
    | (with_reducible refine brA.no (by first | assumption | exact rfl | (simp only [show oCmp = real.cmp from congrArg Ar.cmp ho, show oBin = real.bin from congrArg Ar.bin ho, show oScmp = real.scmp from congrArg Ar.scmp ho, show oPickB = real.pickB from congrArg Ar.pickB ho, show oBnot = real.bnot from congrArg Ar.bnot ho]; decide)) ?_; cbv)
    | (with_reducible refine bcase (fun hb => ?_) (fun hb => ?_) <;> cbv)
    | (intro K' hK'; cbv))))
  any_goals (refine ⟨fun st => ∃ (i : Nat) (j : Int) (o : List (List D)), j = i ∧ i ≤ l.length ∧ o = fR (⟨0, 1, l.length, []⟩ :: (l.take i).flatMap fl3) ∧ st = ⟨mkF 53 0 [(0, .d (.imm r)), (3, .sl 0), (4, .d (.int .i64 j))], 1, [(0, .row 4 o)]⟩,
      fun st => ((l.length : Int) - ctr 4 st).toNat, ⟨[], [], [0, 3, 4], [0], 1⟩, ?_, ?_, ?_⟩
             · cbv
             · cases ho
               subst hr
               have e : real.wrap .u64 (real.len (aR l)) = l.length := by
                 have := hg.ln
                 rw [show real.len (aR l) = ((aR l).length : Int) from rfl, aR_len]
                 exact wrap_u64 _ (by omega) (by omega)
               exact ⟨0, 0, _, rfl, Nat.zero_le _, by rw [e]; rfl, rfl⟩
             rintro st1 ⟨i, j, o, hj, hi, hs, rfl⟩
             cbv
             (repeat (any_goals (first
    | with_reducible refine And.intro ?_ ?_
    | exact True.intro
    | with_reducible exact rfl
    | (with_reducible refine Nd.mk ?_; try dsimp only)
    | (with_reducible refine Nd0.mk ?_; try dsimp only)
    | (with_reducible refine Pz.mk ?_; cbv)
    | (with_reducible refine RgOK.mk ?_; kernel_rfl)
    | (with_reducible refine OrOK.mk ?_; kernel_rfl)
    | (with_reducible refine Al.mk (fun x hx => ?_); cbv)
    | (with_reducible refine hK' _ ?_; clear hK' K'; cbv)
    | (with_reducible refine brA.yes (by first | assumption | exact rfl | (simp only [show oCmp = real.cmp from congrArg Ar.cmp ho, show oBin = real.bin from congrArg Ar.bin ho, show oScmp = real.scmp from congrArg Ar.scmp ho, show oPickB = real.pickB from congrArg Ar.pickB ho, show oBnot = real.bnot from congrArg Ar.bnot ho]; decide)) ?_; cbv)
    | (with_reducible refine brA.no (by first | assumption | exact rfl | (simp only [show oCmp = real.cmp from congrArg Ar.cmp ho, show oBin = real.bin from congrArg Ar.bin ho, show oScmp = real.scmp from congrArg Ar.scmp ho, show oPickB = real.pickB from congrArg Ar.pickB ho, show oBnot = real.bnot from congrArg Ar.bnot ho]; decide)) ?_; cbv)
    | (with_reducible refine bcase (fun hb => ?_) (fun hb => ?_) <;> cbv)
    | (intro K' hK'; cbv)))))
  all_goals ((try clear hK' K'); cases ho; (try simp only [nc1] at *); (try simp only [Int.ofNat_eq_natCast] at *))
  all_goals subst hr
  all_goals first
    | (have h5 := lt_aR hj ‹real.cmp .lss j _ = true›
       have hln := o_len hg hs
       first
       | with_reducible exact in_aR hj h5
       | with_reducible exact aR_wf l
       | with_reducible exact aR_ok1 hj h5
       | with_reducible exact aR_okk hj h5
       | with_reducible exact aR_oks hj h5
       | exact apok4 (by omega)
       | exact apok4 (by rw [app_len]; omega)
       | exact apok4 (by rw [app_len, app_len]; omega)
       | (have h7 := add_1 hj (by have := hg.ln; omega)
          refine ⟨⟨[], [(3, 0)], [0, 3, 4], [3], 1⟩, rfl, ⟨i + 1, real.bin .add .i64 j 1, _, h7, by omega, o_step hg hj h5 hs, rfl⟩, ?_⟩
          show ((l.length : Int) - real.bin .add .i64 j 1).toNat < ((l.length : Int) - j).toNat
          rw [h7]; omega))
    | (have h5 := ge_aR hj ‹real.cmp .lss j _ = false›
       rw [List.take_of_length_le h5] at hs
       first
       | exact ⟨flC l, hs, by have := hg.ln; simp only [flC, List.length_cons, fl3_len]; omega, okF_C hg⟩
       | (have e := hx (flC l) hs
          subst e
          exact fin_v2 rfl))
    | trace_state
def S_CTx (r : List (List D)) (K : CallK) (n : Nat) (h : Hp) : Prop := Nd (fun _ => ∃ l, r = aR l ∧ gL l) ∧ Al (fun s : List UInt8 => ∀ l, r = aR l → s = chB l) fun s => K (.d (.str s)) n h
theorem L_CTx {r : List (List D)} {n : Nat} {h : Hp} {K : CallK} (hK : S_CTx r K n h) : CallE Try.prog 20 [.d (.imm r)] n h K := by
  obtain ⟨⟨l, hr, hg⟩, hk⟩ := hK
  refine call_data (CallE.fin (K_Tx0 r l hr hg)) rfl ?_
  rintro v rfl
  exact hk.h (chB l) fun l' e => by rw [hr] at e; rw [← aR_inj e]
theorem chB_len {l : List It.Acc} (hg : gL l) : (chB l).length ≤ 50000 := by
  have h1 := bysF_len (okF_C hg)
  have h2 : (flC l).length = 3 * l.length + 1 := by simp only [flC, List.length_cons, fl3_len]
  have h3 := hg.ln
  unfold chB
  omega
end Go.Proofs.Yteakfibolfapiaa.Ab
end
section
namespace Go.Proofs.Yteakfibolfapiaa.Ab
open Go Go.RowKit Go.Sort
set_option linter.unusedVariables false
set_option linter.unusedSimpArgs false
set_option maxRecDepth 100000
set_option maxHeartbeats 8000000
theorem K_of0 (c k : Int) (s : List UInt8) : CallE Try.prog 26 [.d (.agg [.int .i64 c, .int .u8 k, .str s])] 0 [] (fun v n h => Nd (fun _ => Fin 0 (Gets fun v => v = .d (.agg [.int .i64 c, .int .u8 k, .str s])) v n h)) := by
  refine call_fn tysOK orders (C := C0) C0_ok H0 Try.func26 (by kernel_rfl) (by kernel_rfl) ?_
  intro oBin oCmp oWrap oNeg oCom oBnot oBeq oPickB oPickI oPickS oInb oSub2 oMinI oMaxI oSlen oSidx oScat oSsub oScmp oScok oLen oCI oCB oCS oCL oOkR oApp oApok oSub oSetc oRep oMkok oNthI oNthB oNthS oIteI oIteB oIteS oB2s oS2b oAllB oWf oDeq oMlen oMhas oMI oMB oMS oMok oMput oMdel oSgo oSru oSnx ho; cbv
  (repeat (any_goals (first
    | with_reducible refine And.intro ?_ ?_
    | exact True.intro
    | with_reducible exact rfl
    | (with_reducible refine Nd.mk ?_; try dsimp only)
    | (with_reducible refine Nd0.mk ?_; try dsimp only)
    | (with_reducible refine Pz.mk ?_; cbv)
    | (with_reducible refine RgOK.mk ?_; kernel_rfl)
    | (with_reducible refine OrOK.mk ?_; kernel_rfl)
    | (with_reducible refine Al.mk (fun x hx => ?_); cbv)
    | (with_reducible refine hK' _ ?_; clear hK' K'; cbv)
    | (with_reducible refine brA.yes (by first | assumption | exact rfl | (simp only [show oCmp = real.cmp from congrArg Ar.cmp ho, show oBin = real.bin from congrArg Ar.bin ho, show oScmp = real.scmp from congrArg Ar.scmp ho, show oPickB = real.pickB from congrArg Ar.pickB ho, show oBnot = real.bnot from congrArg Ar.bnot ho]; decide)) ?_; cbv)
    | (with_reducible refine brA.no (by first | assumption | exact rfl | (simp only [show oCmp = real.cmp from congrArg Ar.cmp ho, show oBin = real.bin from congrArg Ar.bin ho, show oScmp = real.scmp from congrArg Ar.scmp ho, show oPickB = real.pickB from congrArg Ar.pickB ho, show oBnot = real.bnot from congrArg Ar.bnot ho]; decide)) ?_; cbv)
    | (with_reducible refine bcase (fun hb => ?_) (fun hb => ?_) <;> cbv)
    | (intro K' hK'; cbv))))
  all_goals ((try clear hK' K'); cases ho; (try simp only [nc1] at *); (try simp only [Int.ofNat_eq_natCast] at *))
  all_goals first
    | exact ⟨⟨[], [], [0], [], 0⟩, _, 0, _, rfl, rfl, ⟨rfl⟩, rfl, rfl, rfl⟩
    | trace_state
def S_of (c k : Int) (s : List UInt8) (K : CallK) (n : Nat) (h : Hp) : Prop := K (.d (.agg [.int .i64 c, .int .u8 k, .str s])) n h
theorem L_of {c k : Int} {s : List UInt8} {n : Nat} {h : Hp} {K : CallK} (hK : S_of c k s K n h) : CallE Try.prog 26 [.d (.agg [.int .i64 c, .int .u8 k, .str s])] n h K := call_data (CallE.fin (K_of0 c k s)) rfl (by rintro v rfl; exact hK)
def R7 : CallS := fun f args n h K => match f with
  | 32 => (match args with | [.ptr i 0, .d (.int .i64 c)] => S_Get i c K n h | _ => False)
  | 10 => (match args with | [.ptr i 0] => S_List i K n h | _ => False)
  | 26 => (match args with | [.d (.agg [.int .i64 c, .int .u8 k, .str s])] => S_of c k s K n h | _ => False)
  | _ => False
theorem R7_ok : ∀ f args n h K, R7 f args n h K → CallE Try.prog f args n h K := by
  intro f args n h K hc
  unfold R7 at hc
  split at hc
  · split at hc
    · exact L_Get hc
    · exact hc.elim
  · split at hc
    · exact L_List hc
    · exact hc.elim
  · split at hc
    · exact L_of hc
    · exact hc.elim
  · exact hc.elim
/-- A map and a rising list of the same accounts. -/
structure Same (m : ML) (xs : List It.Acc) : Prop where
  pm : (xs.map It.pr).Perm m
  up : xs.Pairwise fun x y => x.c < y.c
theorem Same.codes {m : ML} {xs : List It.Acc} (h : Same m xs) : (m.map (·.1)).Nodup := by
  have h1 : (xs.map fun x => x.c).Nodup := by
    rw [List.Nodup, List.pairwise_map]
    exact h.up.imp fun h => by omega
  have := (h.pm.map (·.1)).nodup_iff.1 (by rw [List.map_map]; exact h1)
  exact this
theorem Same.gC {m : ML} {xs : List It.Acc} (h : Same m xs) : gC m := ⟨fun p hp => by
  have := h.pm.mem_iff.2 hp
  obtain ⟨a, -, rfl⟩ := List.mem_map.1 this
  exact ⟨_, _, rfl⟩⟩
theorem Same.len {m : ML} {xs : List It.Acc} (h : Same m xs) : m.length = xs.length := by simpa using h.pm.length_eq.symm
theorem Same.list {m : ML} {xs : List It.Acc} {r : List (List D)} (h : Same m xs) (hr : isList m r) : r = aR xs :=
  (lists_one hr ⟨xs, h.pm, h.up.imp fun h => by omega, rfl⟩ (List.Perm.refl m) h.codes).1
theorem Same.look {m : ML} {xs : List It.Acc} (h : Same m xs) {a : It.Acc} (ha : a ∈ xs) : Mk.look m a.c = some (acV a.c a.k a.s) :=
  (Mk.look_mem h.codes).2 (h.pm.mem_iff.1 (List.mem_map.2 ⟨a, ha, rfl⟩))
theorem Same.at {m : ML} {xs : List It.Acc} (h : Same m xs) {j : Int} {i : Nat} (hj : j = i) (hi : i < xs.length) {q : Int × Int × List UInt8 × Bool} {c : Int} (hc : c = real.cI (aR xs) j 0)
    (hq : q = (real.mI m c 0, real.mI m c 1, real.mS m c 2, real.mhas m c)) : q = (real.cI (aR xs) j 0, real.cI (aR xs) j 1, real.cS (aR xs) j 2, true) := by
  rw [hq, hc, aR_c hj hi, aR_k hj hi, aR_s hj hi]
  have hl := h.look (List.getElem_mem hi)
  simp only [real, mcell, hl]
  rfl
theorem nq_len {xs ys : List (List D)} (h : real.cmp .neq (real.len xs) (real.len ys) = true) (e : xs = ys) : False := by
  subst e
  simp [real, rCmp] at h
theorem no_deq {c k : Int} {s : List UInt8} {p : Bool} (h : real.pickB p true (real.bnot (real.deq [.int .i64 c, .int .u8 k, .str s] [.int .i64 c, .int .u8 k, .str s])) = true) (hp : p = false) : False := by
  subst hp
  simp [real, deqL, deq1] at h
theorem bn_tt {p : Bool} (h : real.bnot p = true) (hp : p = true) : False := by
  subst hp
  simp [real] at h
theorem no_deq2 {c k : Int} {s : List UInt8} {p : Bool} (h : real.pickB p true (real.bnot (real.deq [.int .i64 c, .int .u8 k, .str s] [.int .i64 c, .int .u8 k, .str s])) = true) (hp : p = false) : False := no_deq h hp
theorem K_same0 (m : ML) (xs : List It.Acc) (hm : Same m xs) (hl : xs.length ≤ 1000) (r : List (List D)) (hr : r = aR xs) : CallE Try.prog 24 [.ptr 1 0, .d (.imm r)] 2 [(0, .mp .i64 m), (1, .cells [.map 0])]
    (fun v n h => Nd (fun _ => Fin 2 (fun v n h => v = .d (.bool true) ∧ n = 2 ∧ h = [(0, .mp .i64 m), (1, .cells [.map 0])]) v n h)) := by
  refine call_fn tysOK orders (C := R7) R7_ok ⟨[((8, 1000000), [0, 2, 4, 6, 8, 10, 12, 14, 16, 18, 20, 22, 24, 27, 28, 30]), ((8, 0), [2, 3])], [], 0⟩ Try.func24 (by kernel_rfl) (by kernel_rfl) ?_
  intro oBin oCmp oWrap oNeg oCom oBnot oBeq oPickB oPickI oPickS oInb oSub2 oMinI oMaxI oSlen oSidx oScat oSsub oScmp oScok oLen oCI oCB oCS oCL oOkR oApp oApok oSub oSetc oRep oMkok oNthI oNthB oNthS oIteI oIteB oIteS oB2s oS2b oAllB oWf oDeq oMlen oMhas oMI oMB oMS oMok oMput oMdel oSgo oSru oSnx ho; cbv
  (repeat (any_goals (first
    | with_reducible refine And.intro ?_ ?_
    | exact True.intro
    | with_reducible exact rfl
    | (with_reducible refine Nd.mk ?_; try dsimp only)
    | (with_reducible refine Nd0.mk ?_; try dsimp only)
    | (with_reducible refine Pz.mk ?_; cbv)
    | (with_reducible refine RgOK.mk ?_; kernel_rfl)
    | (with_reducible refine OrOK.mk ?_; kernel_rfl)
    | (with_reducible refine Al.mk (fun x hx => ?_); cbv)
    | (with_reducible refine hK' _ ?_; clear hK' K'; cbv)
    | (with_reducible refine brA.yes (by first | assumption | exact rfl | (simp only [show oCmp = real.cmp from congrArg Ar.cmp ho, show oBin = real.bin from congrArg Ar.bin ho, show oScmp = real.scmp from congrArg Ar.scmp ho, show oPickB = real.pickB from congrArg Ar.pickB ho, show oBnot = real.bnot from congrArg Ar.bnot ho]; decide)) ?_; cbv)
    | (with_reducible refine brA.no (by first | assumption | exact rfl | (simp only [show oCmp = real.cmp from congrArg Ar.cmp ho, show oBin = real.bin from congrArg Ar.bin ho, show oScmp = real.scmp from congrArg Ar.scmp ho, show oPickB = real.pickB from congrArg Ar.pickB ho, show oBnot = real.bnot from congrArg Ar.bnot ho]; decide)) ?_; cbv)
    | (with_reducible refine bcase (fun hb => ?_) (fun hb => ?_) <;> cbv)
    | (intro K' hK'; cbv))))
  any_goals (refine ⟨fun st => ∃ (i : Nat) (j : Int), j = i ∧ i ≤ xs.length ∧ st = ⟨mkF 48 0 [(0, .ptr 1 0), (1, .d (.imm r)), (17, .d (.imm x)), (18, .d (.int .i64 (oLen x))), (19, .d (.int .i64 j))], 2, [(0, .mp .i64 m), (1, .cells [.map 0])]⟩,
      fun st => ((xs.length : Int) - ctr 19 st).toNat, ⟨[2], [], [0, 1, 17, 18, 19], [0, 1], 2⟩, ?_, ?_, ?_⟩
             · cbv
             · exact ⟨0, 0, rfl, Nat.zero_le _, rfl⟩
             rintro st1 ⟨i, j, hj, hi, rfl⟩
             cbv
             (repeat (any_goals (first
    | with_reducible refine And.intro ?_ ?_
    | exact True.intro
    | with_reducible exact rfl
    | (with_reducible refine Nd.mk ?_; try dsimp only)
    | (with_reducible refine Nd0.mk ?_; try dsimp only)
    | (with_reducible refine Pz.mk ?_; cbv)
    | (with_reducible refine RgOK.mk ?_; kernel_rfl)
    | (with_reducible refine OrOK.mk ?_; kernel_rfl)
    | (with_reducible refine Al.mk (fun x hx => ?_); cbv)
    | (with_reducible refine hK' _ ?_; clear hK' K'; cbv)
    | (with_reducible refine brA.yes (by first | assumption | exact rfl | (simp only [show oCmp = real.cmp from congrArg Ar.cmp ho, show oBin = real.bin from congrArg Ar.bin ho, show oScmp = real.scmp from congrArg Ar.scmp ho, show oPickB = real.pickB from congrArg Ar.pickB ho, show oBnot = real.bnot from congrArg Ar.bnot ho]; decide)) ?_; cbv)
    | (with_reducible refine brA.no (by first | assumption | exact rfl | (simp only [show oCmp = real.cmp from congrArg Ar.cmp ho, show oBin = real.bin from congrArg Ar.bin ho, show oScmp = real.scmp from congrArg Ar.scmp ho, show oPickB = real.pickB from congrArg Ar.pickB ho, show oBnot = real.bnot from congrArg Ar.bnot ho]; decide)) ?_; cbv)
    | (with_reducible refine bcase (fun hb => ?_) (fun hb => ?_) <;> cbv)
    | (intro K' hK'; cbv)))))
  all_goals ((try clear hK' K'); cases ho; (try simp only [nc1] at *); (try simp only [Int.ofNat_eq_natCast] at *))
  all_goals first
    | decide
    | exact hm.gC
    | (rw [hm.len]; exact hl)
    | (have e := hm.list ‹isList m _›
       subst e
       subst hr
       first
       | exact (nq_len (by assumption) rfl).elim
       | (have h5 := lt_aR hj ‹real.cmp .lss j _ = true›
          first
          | with_reducible exact in_aR hj h5
          | with_reducible exact aR_wf xs
          | with_reducible exact aR_ok3 hj h5
          | (have hq := hm.at hj h5 rfl hx
             clear hx
             subst hq
             first
             | exact (bn_tt ‹real.bnot _ = true› rfl).elim
             | exact (no_deq ‹real.pickB _ true _ = true› rfl).elim
             | exact (no_deq2 ‹real.pickB _ true _ = true› ‹_›).elim
             | (simp [real, rowOk, kdOk]; done)
             | (have h7 := add_1 hj (by omega)
                refine ⟨⟨[], [], [0, 1, 17, 18, 19], [0, 1], 2⟩, rfl, ⟨i + 1, real.bin .add .i64 j 1, h7, by omega, rfl⟩, ?_⟩
                show ((xs.length : Int) - real.bin .add .i64 j 1).toNat < ((xs.length : Int) - j).toNat
                rw [h7]; omega)))
       | exact ⟨⟨[], [], [0], [0, 1], 2⟩, _, 2, _, rfl, rfl, rfl, rfl, rfl⟩)
    | trace_state
def S_same (i : Nat) (r : List (List D)) (K : CallK) (n : Nat) (h : Hp) : Prop := pat2 h i fun j m => Nd (fun _ => i < n ∧ j < n ∧ i ≠ j ∧ ∃ xs, r = aR xs ∧ Same m xs ∧ xs.length ≤ 1000) ∧ K (.d (.bool true)) n (out2 i j h m)
theorem L_same {i n : Nat} {r : List (List D)} {h : Hp} {K : CallK} (hK : S_same i r K n h) : CallE Try.prog 24 [.ptr i 0, .d (.imm r)] n h K := by
  obtain ⟨j, m, hg, hg2, ⟨⟨hi, hj, hij, xs, hr, hm, hl⟩⟩, hk⟩ := pat2_elim hK
  refine call_recv2 (CallE.fin (K_same0 m xs hm hl r hr)) rfl hi hj hij hg hg2 ?_
  rintro v n1 h1 ⟨rfl, rfl, rfl⟩ -
  exact hk
end Go.Proofs.Yteakfibolfapiaa.Ab
end
