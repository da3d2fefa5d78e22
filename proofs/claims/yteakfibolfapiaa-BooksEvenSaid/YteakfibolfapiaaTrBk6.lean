/- Books: copies; lists are told by balances; what wakes says; contra postings. -/
import Derived.Test.YteakfibolfapiaaTrBk5
namespace Go.Proofs.Yteakfibolfapiaa.Ab
open Go Go.RowKit Go.Sort
set_option linter.unusedVariables false
set_option linter.unusedSimpArgs false
set_option maxRecDepth 100000
set_option maxHeartbeats 8000000
/-! a copy -/
def S_BMClone (j : Nat) (K : CallK) (n : Nat) (h : Hp) : Prop := match hget h j with
  | some (.mp .i64 m) => K (.map n) (n + 1) (h ++ [(n, .mp .i64 m)])
  | _ => False
theorem L_BMClone {j n : Nat} {h : Hp} {K : CallK} (hK : S_BMClone j K n h) : CallE Try.prog 47 [.map j] n h K := by
  unfold S_BMClone at hK
  split at hK
  case h_2 => exact hK.elim
  rename_i m hg2
  refine .enter _ Try.func47 (by kernel_rfl) (by kernel_rfl) (fun ρ w vs r a => ?_)
  obtain ⟨v0, rest, rfl, ⟨hv, r0, rfl⟩, hrest⟩ := a
  obtain rfl : rest = [] := hrest
  obtain ⟨bj, h4, h5⟩ := obj_mp r hg2
  obtain rfl : bj = r0 := by
    rw [h4] at hv
    simpa using hv
  have h5' := h5
  obtain ⟨hnd, E, c, hb, h6, h7, h8⟩ := h5
  refine (AnyW.maps_Clone Try.clEnt bj E c w hb).mono ?_
  rintro e w' ⟨rfl, rfl⟩
  have hgr : Grows w (w.alloc (.map E c)) := fun b o hbo => Tr.blk_old hbo
  have hnew : ∀ b, blkIn (.map (some w.heap.size)) b → w.heap.size ≤ b := by
    intro b hb
    cases hb
    exact Nat.le_refl _
  have hat : (w.alloc (.map E c)).heap[w.heap.size]? = some (.map E c) := Tr.blk_new _ _
  refine ⟨_, rfl, .map n, upd ρ n (.map (some w.heap.size)), n + 1, h ++ [(n, .mp .i64 m)], hK, r.new (o := .mp .i64 m) hgr hnew (fun hkp => ⟨_, upd_same _ _ _, hnd, E, c, hat, h6, h7, h8⟩), by omega, ⟨upd_same _ _ _, _, rfl⟩, goes_new r hgr hnew rfl rfl rfl (by simp)⟩
def B3 : CallS := fun f args n h K => match f with
  | 47 => (match args with | [.map j] => S_BMClone j K n h | _ => False)
  | _ => False
theorem B3_ok : ∀ f args n h K, B3 f args n h K → CallE Try.prog f args n h K := by
  intro f args n h K hc
  unfold B3 at hc
  split at hc
  · split at hc
    · exact L_BMClone hc
    · exact hc.elim
  · exact hc.elim
theorem K_BCopy0 (m : ML) : CallE Try.prog 14 [.ptr 1 0] 2 [(0, .mp .i64 m), (1, .cells [.map 0])]
    (fun v n h => Nd (fun _ => Fin 2 (fun v n h => v = .ptr 3 0 ∧ n = 4 ∧ h = [(0, .mp .i64 m), (1, .cells [.map 0]), (2, .mp .i64 m), (3, .cells [.map 2])]) v n h)) := by
  refine call_fn tysOK orders (C := B3) B3_ok H0 Try.func14 (by kernel_rfl) (by kernel_rfl) ?_
  intro oBin oCmp oWrap oNeg oCom oBnot oBeq oPickB oPickI oPickS oInb oSub2 oMinI oMaxI oSlen oSidx oScat oSsub oScmp oScok oLen oCI oCB oCS oCL oOkR oApp oApok oSub oSetc oRep oMkok oNthI oNthB oNthS oIteI oIteB oIteS oB2s oS2b oAllB oWf oDeq oMlen oMhas oMI oMB oMS oMok oMput oMdel oSgo oSru oSnx ho; cbv
  (repeat (any_goals (first
    | with_reducible refine And.intro ?_ ?_
    | exact True.intro
    | with_reducible exact rfl
    | (with_reducible refine Nd.mk ?_; try dsimp only)
    | (with_reducible refine Nd0.mk ?_; try dsimp only)
    | (with_reducible refine Pz.mk ?_; cbv)
    | (with_reducible refine RgOK.mk ?_; kernel_rfl)
    | (with_reducible refine OrOK.mk ?_; kernel_rfl)
    | (with_reducible refine Al.mk (fun x hx => ?_); cbv)
    | (with_reducible refine hK' _ ?_; clear hK' K'; cbv)
    | (with_reducible refine brA.yes (by first | assumption | exact rfl | (simp only [show oCmp = real.cmp from congrArg Ar.cmp ho, show oBin = real.bin from congrArg Ar.bin ho, show oScmp = real.scmp from congrArg Ar.scmp ho, show oPickB = real.pickB from congrArg Ar.pickB ho, show oBnot = real.bnot from congrArg Ar.bnot ho]; decide)) ?_; cbv)
    | (with_reducible refine brA.no (by first | assumption | exact rfl | (simp only [show oCmp = real.cmp from congrArg Ar.cmp ho, show oBin = real.bin from congrArg Ar.bin ho, show oScmp = real.scmp from congrArg Ar.scmp ho, show oPickB = real.pickB from congrArg Ar.pickB ho, show oBnot = real.bnot from congrArg Ar.bnot ho]; decide)) ?_; cbv)
    | (with_reducible refine bcase (fun hb => ?_) (fun hb => ?_) <;> cbv)
    | (intro K' hK'; cbv))))
  all_goals ((try clear hK' K'); cases ho; (try simp only [nc1] at *); (try simp only [Int.ofNat_eq_natCast] at *))
  all_goals first
    | exact ⟨⟨[], [], [0], [0, 1, 2, 3], 4⟩, _, 4, _, rfl, rfl, rfl, rfl, rfl⟩
    | trace_state
def S_BCopy (i : Nat) (K : CallK) (n : Nat) (h : Hp) : Prop := pat2 h i fun j m => Nd (fun _ => i < n ∧ j < n ∧ i ≠ j) ∧ K (.ptr (n + 1) 0) (n + 2) (out2 i j h m ++ [(n, .mp .i64 m), (n + 1, .cells [.map n])])
theorem L_BCopy {i n : Nat} {h : Hp} {K : CallK} (hK : S_BCopy i K n h) : CallE Try.prog 14 [.ptr i 0] n h K := by
  obtain ⟨j, m, hg, hg2, ⟨⟨hi, hj, hij⟩⟩, hk⟩ := pat2_elim hK
  refine call_recv2 (CallE.fin (K_BCopy0 m)) rfl hi hj hij hg hg2 ?_
  rintro v n1 h1 ⟨rfl, rfl, rfl⟩ -
  have e0 : lift (two i j) 2 n 0 = j := by simp [lift]; rfl
  have e1 : lift (two i j) 2 n 1 = i := by simp [lift]; rfl
  have e2 : lift (two i j) 2 n 2 = n := by simp [lift]; rfl
  have e3 : lift (two i j) 2 n 3 = n + 1 := by simp [lift]; rfl
  simp only [renH, renV, renO, renVs, e0, e1, e2, e3]
  simpa [out2] using hk
/-! lists by balances -/
theorem BL.mem {m : ML} (hm : gB m) {xs : List (Int × Int)} (h : BL m xs) (k z : Int) : (k, z) ∈ xs ↔ z ≠ 0 ∧ bal m k = z := by
  constructor
  · intro hx
    have h1 : (k, Value.int .i64 z) ∈ m := h.p.mem_iff.1 (List.mem_map.2 ⟨(k, z), hx, rfl⟩)
    obtain ⟨z', e, h2, -⟩ := hm.h _ h1
    have e : Value.int .i64 z = .int .i64 z' := e
    injection e with _ e
    exact ⟨by rw [e]; exact h2, bal_in hm h1⟩
  · rintro ⟨hz, hb⟩
    rw [bal_look hm] at hb
    cases hl : Mk.look m k with
    | none => rw [hl] at hb; exact absurd hb.symm hz
    | some v =>
      have h1 := look_in hl
      obtain ⟨z', e, -⟩ := hm.h _ h1
      have e : v = .int .i64 z' := e
      subst e
      rw [hl] at hb
      have hb : z' = z := hb
      subst hb
      obtain ⟨p, hp, e⟩ := List.mem_map.1 (h.p.mem_iff.2 h1)
      have e1 : (Bl.prE p).1 = k := by rw [e]
      have e2 : (Bl.prE p).2 = .int .i64 z' := by rw [e]
      have e2 : Value.int .i64 p.2 = .int .i64 z' := e2
      injection e2 with _ e2
      have e1 : p.1 = k := e1
      rw [← e1, ← e2]
      exact hp
theorem sorted_ext : ∀ (a b : List (Int × Int)), (a.Pairwise fun x y => x.1 < y.1) → (b.Pairwise fun x y => x.1 < y.1) → (∀ p, p ∈ a ↔ p ∈ b) → a = b
  | [], [], _, _, _ => rfl
  | [], y :: b, _, _, h => by have := (h y).2 (by simp); cases this
  | x :: a, [], _, _, h => by have := (h x).1 (by simp); cases this
  | x :: a, y :: b, ha, hb, h => by
    rw [List.pairwise_cons] at ha hb
    have hxy : x = y := by
      rcases List.mem_cons.1 ((h x).1 (by simp)) with e | h1
      · exact e
      · rcases List.mem_cons.1 ((h y).2 (by simp)) with e | h2
        · exact e.symm
        · have h3 := hb.1 x h1
          have h4 := ha.1 y h2
          omega
    subst hxy
    rw [sorted_ext a b ha.2 hb.2 fun p => ?_]
    have hp := h p
    constructor
    · intro hpa
      rcases List.mem_cons.1 (hp.1 (by simp [hpa])) with e | h1
      · subst e
        have := ha.1 p hpa
        omega
      · exact h1
    · intro hpb
      rcases List.mem_cons.1 (hp.2 (by simp [hpb])) with e | h1
      · subst e
        have := hb.1 p hpb
        omega
      · exact h1
theorem BL.uniq {m m' : ML} (hm : gB m) (hm' : gB m') {xs ys : List (Int × Int)} (h : BL m xs) (h' : BL m' ys) (hb : ∀ k, bal m k = bal m' k) : xs = ys :=
  sorted_ext xs ys h.s h'.s fun p => by
    obtain ⟨k, z⟩ := p
    rw [h.mem hm, h'.mem hm', hb]
theorem AppR.g {m m' : ML} {qs : List (Int × Int)} {e : Int} (hm : gB m) (h : AppR m qs e m') : gB m' := by
  rcases h with ⟨-, rfl, -⟩ | ⟨-, rfl, -⟩ | ⟨-, -, -, h⟩
  · exact hm
  · exact hm
  · exact h.g
/-! what wakes says -/
def qW : List (Int × Int) := [(1, 5), (2, -5)]
def mW : ML := [(1, .int .i64 5), (2, .int .i64 (-5))]
theorem gB_W : gB mW := by
  refine ⟨fun p hp => ?_, by decide, fun p hp => ?_⟩
  · simp only [mW, List.mem_cons, List.not_mem_nil, or_false] at hp
    rcases hp with rfl | rfl
    · exact ⟨5, rfl, by decide, by unfold I64; omega⟩
    · exact ⟨-5, rfl, by decide, by unfold I64; omega⟩
  · simp only [mW, List.mem_cons, List.not_mem_nil, or_false] at hp
    rcases hp with rfl | rfl <;> exact ⟨by decide, by decide⟩
theorem BL_W : BL mW qW := ⟨List.Perm.refl _, by simp [qW]⟩
theorem sel_W (k : Int) : (sel qW k).sum = if k = 1 then 5 else if k = 2 then -5 else 0 := by
  unfold sel qW
  by_cases h1 : k = 1
  · subst h1; rfl
  · by_cases h2 : k = 2
    · subst h2; rfl
    · have e1 : ((1 : Int) == k) = false := by simpa using fun e => h1 e.symm
      have e2 : ((2 : Int) == k) = false := by simpa using fun e => h2 e.symm
      simp [List.filter_cons, e1, e2, h1, h2]
theorem bal_W (k : Int) : bal mW k = if k = 1 then 5 else if k = 2 then -5 else 0 := by
  rw [bal_look gB_W]
  unfold Mk.look mW
  by_cases h1 : k = 1
  · subst h1; rfl
  · by_cases h2 : k = 2
    · subst h2; rfl
    · have e1 : ((1 : Int) == k) = false := by simpa using fun e => h1 e.symm
      have e2 : ((2 : Int) == k) = false := by simpa using fun e => h2 e.symm
      simp [List.find?_cons, e1, e2, h1, h2, valI]
theorem bal_nil (k : Int) : bal [] k = 0 := by rw [bal_look gB_nil]; rfl
theorem app_W {q : Int × ML} {r : List (List D)} (hr : r = lnR qW) (h : ∃ qs, r = lnR qs ∧ AppR [] qs q.1 q.2) : q.1 = 0 ∧ gB q.2 ∧ ∀ k, bal q.2 k = bal mW k := by
  obtain ⟨qs, h1, h2⟩ := h
  obtain rfl := lnR_inj (hr.symm.trans h1)
  have ht : ∀ k, tot [] qW k = bal mW k := fun k => by
    unfold tot
    rw [sel_W, bal_nil, bal_W]
    omega
  rcases h2 with ⟨-, -, h3⟩ | ⟨-, -, -, p, -, h3⟩ | ⟨h3, -, -, h4⟩
  · refine absurd ?_ h3
    intro p hp
    simp only [qW, List.mem_cons, List.not_mem_nil, or_false] at hp
    rcases hp with rfl | rfl <;> exact ⟨by decide, by decide⟩
  · rw [ht] at h3
    exact absurd (bal_I gB_W _) h3
  · exact ⟨h3, h4.g, fun k => by rw [h4.b, ht]⟩
theorem tri_W {q : Int × ML} {x : Int × Int × Int} (h : gB q.2 ∧ ∀ k, bal q.2 k = bal mW k) (hx : ∃ xs, BL q.2 xs ∧ x = tri (debs xs).sum (crds xs).sum) : x = (5, 5, 0) := by
  obtain ⟨xs, h1, rfl⟩ := hx
  rw [h1.uniq h.1 gB_W BL_W h.2]
  rfl
theorem list_W {q : Int × ML} {x : List (List D)} (h : gB q.2 ∧ ∀ k, bal q.2 k = bal mW k) (hx : ∃ xs, x = lnR xs ∧ BL q.2 xs) : x = lnR qW := by
  obtain ⟨xs, rfl, h1⟩ := hx
  rw [h1.uniq h.1 gB_W BL_W h.2]
theorem args_W : ∃ qs, [[D.int IntKind.i64 1, D.int IntKind.i64 5], [D.int IntKind.i64 2, D.int IntKind.i64 (-5)]] = lnR qs ∧ qs.length ≤ 1000 ∧ ∀ (q : Int × Int), q ∈ qs → I64 q.snd := by
  refine ⟨qW, rfl, by decide, fun q hq => ?_⟩
  simp only [qW, List.mem_cons, List.not_mem_nil, or_false] at hq
  rcases hq with rfl | rfl <;> (unfold I64; omega)
def B4 : CallS := fun f args n h K => match f with
  | 12 => (match args with | [] => S_BNew K n h | _ => False)
  | 16 => (match args with | [.ptr i 0, .d (.imm r)] => S_Apply i r K n h | _ => False)
  | 17 => (match args with | [.ptr i 0, .d (.int .i64 k)] => S_Bal i k K n h | _ => False)
  | 18 => (match args with | [.ptr i 0] => S_Trial i K n h | _ => False)
  | 46 => (match args with | [.ptr i 0] => S_BList i K n h | _ => False)
  | _ => False
theorem B4_ok : ∀ f args n h K, B4 f args n h K → CallE Try.prog f args n h K := by
  intro f args n h K hc
  unfold B4 at hc
  split at hc
  · split at hc
    · exact L_BNew hc
    · exact hc.elim
  · split at hc
    · exact L_Apply hc
    · exact hc.elim
  · split at hc
    · exact L_Bal hc
    · exact hc.elim
  · split at hc
    · exact L_Trial hc
    · exact hc.elim
  · split at hc
    · exact L_BList hc
    · exact hc.elim
  · exact hc.elim
theorem K_Bwakes0 : CallE Try.prog 13 [] 0 [] (fun v n h => Nd (fun _ => Fin 0 (Gets fun v => v = .d (.bool true)) v n h)) := by
  refine call_fn tysOK orders (C := B4) B4_ok H0 Try.func13 (by kernel_rfl) (by kernel_rfl) ?_
  intro oBin oCmp oWrap oNeg oCom oBnot oBeq oPickB oPickI oPickS oInb oSub2 oMinI oMaxI oSlen oSidx oScat oSsub oScmp oScok oLen oCI oCB oCS oCL oOkR oApp oApok oSub oSetc oRep oMkok oNthI oNthB oNthS oIteI oIteB oIteS oB2s oS2b oAllB oWf oDeq oMlen oMhas oMI oMB oMS oMok oMput oMdel oSgo oSru oSnx ho; cbv
  (repeat (any_goals (first
    | with_reducible refine And.intro ?_ ?_
    | exact True.intro
    | with_reducible exact rfl
    | (with_reducible refine Nd.mk ?_; try dsimp only)
    | (with_reducible refine Nd0.mk ?_; try dsimp only)
    | (with_reducible refine Pz.mk ?_; cbv)
    | (with_reducible refine RgOK.mk ?_; kernel_rfl)
    | (with_reducible refine OrOK.mk ?_; kernel_rfl)
    | (with_reducible refine Al.mk (fun x hx => ?_); cbv)
    | (with_reducible refine hK' _ ?_; clear hK' K'; cbv)
    | (with_reducible refine brA.yes (by first | assumption | exact rfl | (simp only [show oCmp = real.cmp from congrArg Ar.cmp ho, show oBin = real.bin from congrArg Ar.bin ho, show oScmp = real.scmp from congrArg Ar.scmp ho, show oPickB = real.pickB from congrArg Ar.pickB ho]; decide)) ?_; cbv)
    | (with_reducible refine brA.no (by first | assumption | exact rfl | (simp only [show oCmp = real.cmp from congrArg Ar.cmp ho, show oBin = real.bin from congrArg Ar.bin ho, show oScmp = real.scmp from congrArg Ar.scmp ho, show oPickB = real.pickB from congrArg Ar.pickB ho]; decide)) ?_; cbv)
    | (with_reducible refine bcase (fun hb => ?_) (fun hb => ?_) <;> cbv)
    | (intro K' hK'; cbv))))
  all_goals ((try clear hK' K'); cases ho; (try simp only [nc1] at *); (try simp only [Int.ofNat_eq_natCast] at *))
  all_goals first
    | omega
    | exact gB_nil
    | exact args_W
    | exact (app_W rfl (by assumption)).2.1
    | (rename_i q hq
       have h1 := app_W rfl hq
       rw [h1.1] at hb
       exact absurd hb (by decide))
    | (rename_i q hq _
       have h1 := tri_W (app_W rfl hq).2 hx
       rw [h1] at hb
       exact absurd hb (by decide))
    | (rename_i q hq _ _
       have h1 := tri_W (app_W rfl hq).2 hx
       rw [h1] at hb
       exact absurd hb (by decide))
    | (rename_i q hq _ _ _
       have h1 := tri_W (app_W rfl hq).2 hx
       rw [h1] at hb
       exact absurd hb (by decide))
    | (rename_i q hq t ht _ _ _ _
       rw [(app_W rfl hq).2.2, bal_W] at hx
       rw [hx] at hb
       exact absurd hb (by decide))
    | (rename_i q hq t ht z hz _ _ _ _
       have h1 := list_W (app_W rfl hq).2 hx
       rw [h1]
       exact fin_b rfl)
    | trace_state
def S_Bwakes (K : CallK) (n : Nat) (h : Hp) : Prop := K (.d (.bool true)) n h
theorem L_Bwakes {n : Nat} {h : Hp} {K : CallK} (hK : S_Bwakes K n h) : CallE Try.prog 13 [] n h K := call_data (CallE.fin K_Bwakes0) rfl (by rintro v rfl; exact hK)
end Go.Proofs.Yteakfibolfapiaa.Ab
