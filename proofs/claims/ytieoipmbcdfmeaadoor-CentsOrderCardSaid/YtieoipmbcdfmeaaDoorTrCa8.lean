/- What CentsOrder answers. -/
import Derived.Test.YtieoipmbcdfmeaaDoorTrCa6
namespace Go.Proofs.YtieoipmbcdfmeaaDoor.Ab
open Go Go.RowKit Go.Sort
set_option linter.unusedVariables false
set_option linter.unusedSimpArgs false
set_option maxRecDepth 100000
set_option maxHeartbeats 4000000
/-- The list turned, from behind. -/
def mmI (n t i : Nat) : Nat := (n - 1 - i + t) % n
def mm (ys : List Int) (t : Nat) : List Int := (List.range ys.length).map fun i => ys.getD (mmI ys.length t i) 0
theorem mm_eq (ys : List Int) (t : Nat) : mm ys t = (ys.drop (t % ys.length) ++ ys.take (t % ys.length)).reverse := by
  rcases Nat.eq_zero_or_pos ys.length with h0 | h0
  · rw [List.length_eq_zero_iff.1 h0]; simp [mm]
  have hr := Nat.mod_lt t h0
  apply List.ext_getElem?
  intro i
  by_cases hi : i < ys.length
  · have hm : mmI ys.length t i = (ys.length - 1 - i + t % ys.length) % ys.length := by unfold mmI; rw [Nat.add_mod_mod]
    rw [List.getElem?_reverse (by simp; omega)]
    simp only [mm, List.getElem?_map, List.getElem?_range hi, Option.map_some, hm, List.length_append, List.length_drop, List.length_take]
    rw [show min (t % ys.length) ys.length = t % ys.length by omega, show ys.length - t % ys.length + t % ys.length - 1 - i = ys.length - 1 - i by omega]
    by_cases hlt : ys.length - 1 - i < ys.length - t % ys.length
    · rw [List.getElem?_append_left (by simp; omega), List.getElem?_drop, Nat.mod_eq_of_lt (by omega), List.getD, List.getElem?_eq_getElem (by omega), List.getElem?_eq_getElem (by omega)]
      simp only [Option.getD_some, Option.some.injEq]
      congr 1
      omega
    · rw [List.getElem?_append_right (by simp; omega), List.length_drop, List.getElem?_take_of_lt (by omega)]
      rw [show (ys.length - 1 - i + t % ys.length) % ys.length = ys.length - 1 - i - (ys.length - t % ys.length) by
        rw [show ys.length - 1 - i + t % ys.length = (ys.length - 1 - i - (ys.length - t % ys.length)) + ys.length by omega, Nat.add_mod_right, Nat.mod_eq_of_lt (by omega)]]
      rw [List.getD, List.getElem?_eq_getElem (by omega)]
      rfl
  · rw [List.getElem?_eq_none (by simp [mm]; omega), List.getElem?_eq_none (by simp; omega)]
theorem mm_len (ys : List Int) (t : Nat) : (mm ys t).length = ys.length := by simp [mm]
theorem mm_sum (ys : List Int) (t : Nat) : (mm ys t).sum = ys.sum := by
  rw [mm_eq, List.sum_reverse, List.sum_append, Int.add_comm, ← List.sum_append, List.take_append_drop]
theorem mm_mem {ys : List Int} {t : Nat} {x : Int} (h : x ∈ mm ys t) : x ∈ ys := by
  rw [mm_eq, List.mem_reverse, List.mem_append] at h
  rcases h with h | h
  · exact List.mem_of_mem_drop h
  · exact List.mem_of_mem_take h
theorem mm_getD (ys : List Int) (t i : Nat) (h : i < ys.length) : (mm ys t).getD i 0 = ys.getD (mmI ys.length t i) 0 := by
  simp [mm, List.getD, h]
theorem mmI_lt {n t i : Nat} (h : 0 < n) : mmI n t i < n := Nat.mod_lt _ h
/-- What the code reckons. -/
theorem mmI_is {n t i : Nat} (h : i < n) (hn : n ≤ 60) (ht : t ≤ 255) : real.bin .rem .i64 (real.bin .add .i64 (real.bin .sub .i64 (real.bin .sub .i64 (n : Int) 1) (i : Int)) (real.wrap .i64 (t : Int))) (n : Int) = ((mmI n t i : Nat) : Int) := by
  have e1 : real.bin .sub .i64 (n : Int) 1 = (n : Int) - 1 := wrap_i64 _ (by omega) (by omega)
  have e2 : real.bin .sub .i64 ((n : Int) - 1) (i : Int) = (n : Int) - 1 - i := wrap_i64 _ (by omega) (by omega)
  have e3 : real.wrap .i64 (t : Int) = t := wrap_i64 _ (by omega) (by omega)
  have e4 : real.bin .add .i64 ((n : Int) - 1 - i) (t : Int) = (n : Int) - 1 - i + t := wrap_i64 _ (by omega) (by omega)
  rw [e1, e2, e3, e4]
  show ((n : Int) - 1 - i + t).tmod n = _
  rw [show (n : Int) - 1 - i + t = ((n - 1 - i + t : Nat) : Int) by omega]
  rfl
def S_listN (K : CallK) (n : Nat) (h : Hp) : Prop := K (.d (.imm [])) n h
theorem L_listN {n : Nat} {h : Hp} {K : CallK} (hK : S_listN K n h) : CallE Tryd.prog 10 [.d .nilsl] n h K :=
  (K_list (xs := []) (by simp) hK).args (by
    rintro ρ w M vs ⟨v, r, rfl, h1, h2⟩
    obtain rfl : v = .slice none 0 0 := h1
    exact ⟨_, _, rfl, ⟨none, 0, rfl, Nat.le_refl _, .inl rfl⟩, h2⟩)
def C5 : CallS := fun f args n h K => match f with
  | 10 => (match args with | [.d (.imm l)] => S_list l K n h | [.d .nilsl] => S_listN K n h | _ => False)
  | 9 => (match args with | [.d (.imm l)] => S_tot l K n h | _ => False)
  | 17 => (match args with | [.d (.int .i64 a), .d (.int .i64 b)] => S_add a b K n h | _ => False)
  | 12 => (match args with | [] => S_wakes K n h | _ => False)
  | _ => False
theorem C5_ok : ∀ f args n h K, C5 f args n h K → CallE Tryd.prog f args n h K := by
  intro f args n h K hc
  unfold C5 at hc
  split at hc
  · split at hc
    · exact L_list hc
    · exact L_listN hc
    · exact hc.elim
  · split at hc
    · exact L_Total hc
    · exact hc.elim
  · split at hc
    · exact L_Add hc
    · exact hc.elim
  · split at hc
    · exact L_wakes hc
    · exact hc.elim
  · exact hc.elim
theorem iR_drop (ys : List Int) (k : Nat) (K : Int) (h : k = K.toNat) : real.sub (iR ys) K (ys.length : Int) = iR (ys.drop k) := by
  subst h
  simp only [real, iR, Int.toNat_natCast]
  rw [List.take_of_length_le (by simp), List.map_drop]
theorem lt_of {a b : Int} (h : real.cmp .lss a b = true) : a < b := of_decide_eq_true h
theorem ge_of {a b : Int} (h : real.cmp .lss a b = false) : ¬ a < b := of_decide_eq_false h
theorem ne_of0 {a b : Int} (h : a ≠ b) : real.cmp .neq a b = true := by simpa [real, rCmp] using h
theorem amtE_zero {V : Int} (h : amtE V = 0) : I64 V := by
  rcases Classical.em (I64 V) with h' | h'
  · exact h'
  · rw [(amt_no h').2] at h; cases h
theorem ord_fin {a b c : Int} (hs : a + b = c) : amtE a = 0 → amtE b = 0 → amt (amt a + amt b) = amt c ∧ amtE (amt a + amt b) = amtE c := fun h1 h2 => by
  rw [(amt_yes (amtE_zero h1)).1, (amt_yes (amtE_zero h2)).1, hs]
  exact ⟨rfl, rfl⟩
theorem K_CentsOrder (xs : List Int) (hx : ∀ x ∈ xs, I64 x) (t c : Nat) (ht : t ≤ 255) (hc : c ≤ 255) : CallE Tryd.prog 5 [.d (.imm (iR xs)), .d (.int .u8 t), .d (.int .u8 c)] 0 [] (Gets fun v => v = .d (.bool true)) := by
  obtain ⟨ys, hys⟩ : ∃ ys, ys = xs.take 60 := ⟨_, rfl⟩
  have hyI : ∀ x ∈ ys, I64 x := fun x h => hx x (by rw [hys] at h; exact List.mem_of_mem_take h)
  have hyl : ys.length ≤ 60 := by rw [hys, List.length_take]; omega
  have hS : real.sub (iR xs) 0 (real.minI (real.len (iR xs)) 60) = iR ys := by
    rw [iR_sub, iR_rlen, hys]
    congr 1
    simp only [real]
    rcases Nat.lt_or_ge xs.length 60 with h | h
    · rw [show (min (xs.length : Int) 60).toNat = xs.length by omega, List.take_length, List.take_of_length_le (by omega)]
    · rw [show (min (xs.length : Int) 60).toNat = 60 by omega]
  have hsub : real.sub2 0 (real.minI (real.len (iR xs)) 60) (real.len (iR xs)) = true := by
    rw [iR_rlen]; simp only [real]; exact decide_eq_true (by omega)
  obtain ⟨R, hR⟩ : ∃ R, R = iR xs := ⟨_, rfl⟩
  obtain ⟨S, hSe⟩ : ∃ S, S = iR ys := ⟨_, rfl⟩
  obtain ⟨T, hT⟩ : ∃ T : Int, T = t := ⟨_, rfl⟩
  obtain ⟨Cc, hC⟩ : ∃ Cc : Int, Cc = c := ⟨_, rfl⟩
  rw [← hR, ← hT, ← hC]
  rw [← hR, ← hSe] at hS
  rw [← hR] at hsub
  obtain ⟨N, hN0⟩ : ∃ N : Int, N = ys.length := ⟨_, rfl⟩
  have hN : real.len S = N := by rw [hSe, iR_rlen, hN0]
  have hWf : real.wf S 1 = true := by rw [hSe]; exact iR_wf _
  have hI : ints S = ys := by rw [hSe, ints_iR]
  have hrS : rowI S := ⟨ys, hSe, by omega, hyI⟩
  have hrN : rowI [] := ⟨[], rfl, by simp, by simp⟩
  obtain ⟨K, hK, hK0, hK1⟩ : ∃ K : Int, real.bin .rem .i64 (real.wrap .i64 Cc) (real.bin .add .i64 N 1) = K ∧ 0 ≤ K ∧ K ≤ N := by
    have e1 : real.wrap .i64 Cc = Cc := wrap_i64 _ (by omega) (by omega)
    have e2 : real.bin .add .i64 N 1 = N + 1 := wrap_i64 _ (by omega) (by omega)
    rw [e1, e2]
    refine ⟨Cc.tmod (N + 1), rfl, Int.tmod_nonneg _ (by omega), ?_⟩
    have := Int.tmod_lt_of_pos Cc (show (0 : Int) < N + 1 by omega)
    omega
  have hA1 : real.bin .add .i64 N 1 = N + 1 := wrap_i64 _ (by omega) (by omega)
  obtain ⟨S1, hS1⟩ : ∃ S1, real.sub S 0 K = S1 := ⟨_, rfl⟩
  obtain ⟨S2, hS2⟩ : ∃ S2, real.sub S K N = S2 := ⟨_, rfl⟩
  have hr1 : rowI S1 := ⟨ys.take K.toNat, by rw [← hS1, hSe, iR_sub], by rw [List.length_take]; omega, fun x h => hyI x (List.mem_of_mem_take h)⟩
  have hr2 : rowI S2 := ⟨ys.drop K.toNat, by rw [← hS2, hSe, hN0]; exact iR_drop ys K.toNat K rfl, by rw [List.length_drop]; omega, fun x h => hyI x (List.mem_of_mem_drop h)⟩
  have hsum : (ints S1).sum + (ints S2).sum = ys.sum := by
    rw [← hS1, ← hS2, hSe, iR_sub, show real.sub (iR ys) K N = iR (ys.drop K.toNat) by rw [hN0]; exact iR_drop ys K.toNat K rfl, ints_iR, ints_iR, ← List.sum_append, List.take_append_drop]
  have hfin := ord_fin hsum
  have hso : real.sub2 0 K N = true ∧ real.sub2 K N N = true := ⟨decide_eq_true (by omega), decide_eq_true (by omega)⟩
  have hidx : ∀ (i : Nat) (j : Int), j = i → i < ys.length → ∃ m : Nat, m < ys.length ∧ real.bin .rem .i64 (real.bin .add .i64 (real.bin .sub .i64 (real.bin .sub .i64 N 1) j) (real.wrap .i64 T)) N = (m : Int) ∧ ys.getD m 0 = (mm ys t).getD i 0 := by
    rintro i j rfl hi
    refine ⟨mmI ys.length t i, mmI_lt (by omega), ?_, (mm_getD ys t i hi).symm⟩
    rw [hT, hN0]
    exact mmI_is hi hyl ht
  refine call_fn tysOK orders (C := C5) C5_ok ⟨[((9, 0), [0])], [], 0⟩ Tryd.func5 (by kernel_rfl) (by kernel_rfl) ?_
  intro oBin oCmp oWrap oNeg oCom oBnot oBeq oPickB oPickI oPickS oInb oSub2 oMinI oMaxI oSlen oSidx oScat oSsub oScmp oScok oLen oCI oCB oCS oCL oOkR oApp oApok oSub oSetc oRep oMkok oNthI oNthB oNthS oIteI oIteB oIteS oB2s oS2b oAllB oWf oDeq ho; cbv
  (repeat (any_goals (first
    | with_reducible refine And.intro ?_ ?_
    | exact True.intro
    | with_reducible exact rfl
    | (with_reducible refine Nd.mk ?_; try dsimp only)
    | (with_reducible refine Al.mk (fun x hx => ?_); cbv)
    | (with_reducible refine hK' _ ?_; clear hK' K'; cbv)
    | (with_reducible refine brA.yes (by first | assumption | exact rfl | (simp only [show oCmp = real.cmp from congrArg Ar.cmp ho, show oBin = real.bin from congrArg Ar.bin ho, show oScmp = real.scmp from congrArg Ar.scmp ho, show oPickB = real.pickB from congrArg Ar.pickB ho]; decide)) ?_; cbv)
    | (with_reducible refine brA.no (by first | assumption | exact rfl | (simp only [show oCmp = real.cmp from congrArg Ar.cmp ho, show oBin = real.bin from congrArg Ar.bin ho, show oScmp = real.scmp from congrArg Ar.scmp ho, show oPickB = real.pickB from congrArg Ar.pickB ho]; decide)) ?_; cbv)
    | (with_reducible refine bcase (fun hb => ?_) (fun hb => ?_) <;> cbv)
    | (intro K' hK'; cbv))))
  · ((try clear hK' K'); cases ho; (try simp only [nc1] at *); (try simp only [Int.ofNat_eq_natCast] at *)); exact hsub
  · ((try clear hK' K'); cases ho; (try simp only [nc1] at *); (try simp only [Int.ofNat_eq_natCast] at *)); rw [hR]; exact iR_wf _
  rw [show oSub R 0 (oMinI (oLen R) 60) = S by cases ho; exact hS]
  refine ⟨fun st => ∃ (i : Nat) (j : Int), j = i ∧ i ≤ ys.length ∧ ((i = 0 ∧ st = ⟨mkF 116 0 [(0, .d (.imm S)), (1, .d (.int .u8 T)), (2, .d (.int .u8 Cc)), (7, .d .nilsl), (26, .d (.int .i64 (oLen S))), (27, .d (.int .i64 j))], 0, []⟩) ∨
    (∃ row, row = iR ((mm ys t).take i) ∧ st = ⟨mkF 116 0 [(0, .d (.imm S)), (1, .d (.int .u8 T)), (2, .d (.int .u8 Cc)), (7, .sl 0), (26, .d (.int .i64 (oLen S))), (27, .d (.int .i64 j))], 1, [(0, .row 1 row)]⟩)), fun st => (ys.length - ctr 27 st).toNat, ⟨[], [], [0, 1, 2, 7, 26, 27], [], 0⟩, ?_, ?_, ?_⟩
  · cbv
  · exact ⟨0, 0, rfl, Nat.zero_le _, .inl ⟨rfl, rfl⟩⟩
  rintro st1 ⟨i, j, hj, hi, ⟨hi0, rfl⟩ | ⟨row, hrow, rfl⟩⟩
  · cbv
    (repeat (any_goals (first
    | with_reducible refine And.intro ?_ ?_
    | exact True.intro
    | with_reducible exact rfl
    | (with_reducible refine Nd.mk ?_; try dsimp only)
    | (with_reducible refine Al.mk (fun x hx => ?_); cbv)
    | (with_reducible refine hK' _ ?_; clear hK' K'; cbv)
    | (with_reducible refine brA.yes (by first | assumption | exact rfl | (simp only [show oCmp = real.cmp from congrArg Ar.cmp ho, show oBin = real.bin from congrArg Ar.bin ho, show oScmp = real.scmp from congrArg Ar.scmp ho, show oPickB = real.pickB from congrArg Ar.pickB ho]; decide)) ?_; cbv)
    | (with_reducible refine brA.no (by first | assumption | exact rfl | (simp only [show oCmp = real.cmp from congrArg Ar.cmp ho, show oBin = real.bin from congrArg Ar.bin ho, show oScmp = real.scmp from congrArg Ar.scmp ho, show oPickB = real.pickB from congrArg Ar.pickB ho]; decide)) ?_; cbv)
    | (with_reducible refine bcase (fun hb => ?_) (fun hb => ?_) <;> cbv)
    | (intro K' hK'; cbv))))
    all_goals ((try clear hK' K'); cases ho; (try simp only [nc1] at *); (try simp only [Int.ofNat_eq_natCast] at *))
    all_goals (simp only [hN, hK, hS1, hS2, hI, hso.1, hso.2, hWf] at *)
    all_goals (try first
      | assumption
      | (subst_vars; exact amt_in _))
    · have h1 := lt_of hb
      exact ne_of0 (by omega)
    · have h1 := lt_of hb
      obtain ⟨m, hm, hmi, hmv⟩ := hidx i j hj (by omega)
      rw [hmi]
      exact decide_eq_true (by omega)
    · have h1 := lt_of hb
      obtain ⟨m, hm, hmi, hmv⟩ := hidx i j hj (by omega)
      rw [hmi, hSe]
      exact iR_ok rfl hm
    · have h1 := lt_of hb
      exact iR_apok [] _ (by simp)
    · have h1 := lt_of hb
      obtain ⟨m, hm, hmi, hmv⟩ := hidx i j hj (by omega)
      have h2 : i < (mm ys t).length := by rw [mm_len]; omega
      refine ⟨⟨[], [], [0, 1, 2, 7, 26, 27], [0], 1⟩, rfl, ⟨i + 1, real.bin .add .i64 j 1, ?_, by omega, .inr ⟨_, ?_, rfl⟩⟩, ?_⟩
      · simp only [real, rBin]; rw [wrap_i64 _ (by omega) (by omega)]; omega
      · rw [hmi, hSe, iR_cI rfl hm, hmv, ← take_snoc h2]
        subst hi0
        exact iR_app [] [(mm ys t).getD 0 0]
      · show (ys.length - real.bin .add .i64 j 1).toNat < (ys.length - j).toNat
        simp only [real, rBin]; rw [wrap_i64 _ (by omega) (by omega)]; omega
    all_goals (have hge : ¬ j < N := ge_of (by assumption))
    all_goals (have hsm : (ints []).sum = ys.sum := by rw [List.length_eq_zero_iff.1 (show ys.length = 0 by omega)]; rfl)
    all_goals (try (rw [hA1]; exact ne_of0 (by omega)))
    all_goals (simp only [hsm] at *)
    all_goals (clear hS1 hS2 hK hidx hr1 hr2 hrS hrN hso hWf hI hsub hN hsum hsm hyI hge hi hj hA1 hK0 hK1 hyl hS hSe hR hys hT hC hN0)
    all_goals (simp only [real, rCmp, Bool.cond_true, Bool.cond_false, bne_iff_ne, ne_eq, bne_eq_false_iff_eq, beq_iff_eq, beq_eq_false_iff_ne, Bool.not_true, Bool.true_eq_false, Bool.false_eq_true, not_true_eq_false, not_false_eq_true] at *)
    all_goals (try subst_vars)
    all_goals first
      | exact absurd rfl (by assumption)
      | (obtain ⟨e1, e2⟩ := hfin (by assumption) (by assumption)
         first
           | exact absurd e1 (by assumption)
           | (rw [e2]; simp)
           | (simp [e2]))
      | trace_state
  · cbv
    (repeat (any_goals (first
    | with_reducible refine And.intro ?_ ?_
    | exact True.intro
    | with_reducible exact rfl
    | (with_reducible refine Nd.mk ?_; try dsimp only)
    | (with_reducible refine Al.mk (fun x hx => ?_); cbv)
    | (with_reducible refine hK' _ ?_; clear hK' K'; cbv)
    | (with_reducible refine brA.yes (by first | assumption | exact rfl | (simp only [show oCmp = real.cmp from congrArg Ar.cmp ho, show oBin = real.bin from congrArg Ar.bin ho, show oScmp = real.scmp from congrArg Ar.scmp ho, show oPickB = real.pickB from congrArg Ar.pickB ho]; decide)) ?_; cbv)
    | (with_reducible refine brA.no (by first | assumption | exact rfl | (simp only [show oCmp = real.cmp from congrArg Ar.cmp ho, show oBin = real.bin from congrArg Ar.bin ho, show oScmp = real.scmp from congrArg Ar.scmp ho, show oPickB = real.pickB from congrArg Ar.pickB ho]; decide)) ?_; cbv)
    | (with_reducible refine bcase (fun hb => ?_) (fun hb => ?_) <;> cbv)
    | (intro K' hK'; cbv))))
    all_goals ((try clear hK' K'); cases ho; (try simp only [nc1] at *); (try simp only [Int.ofNat_eq_natCast] at *))
    all_goals (simp only [hN, hK, hS1, hS2, hI, hso.1, hso.2, hWf] at *)
    all_goals (try first
      | assumption
      | (subst_vars; exact amt_in _))
    · have h1 := lt_of hb
      exact ne_of0 (by omega)
    · have h1 := lt_of hb
      obtain ⟨m, hm, hmi, hmv⟩ := hidx i j hj (by omega)
      rw [hmi]
      exact decide_eq_true (by omega)
    · have h1 := lt_of hb
      obtain ⟨m, hm, hmi, hmv⟩ := hidx i j hj (by omega)
      rw [hmi, hSe]
      exact iR_ok rfl hm
    · have h1 := lt_of hb
      rw [hrow]
      exact iR_apok _ _ (by simp [mm_len]; omega)
    · have h1 := lt_of hb
      obtain ⟨m, hm, hmi, hmv⟩ := hidx i j hj (by omega)
      have h2 : i < (mm ys t).length := by rw [mm_len]; omega
      refine ⟨⟨[], [(1, 0)], [0, 1, 2, 7, 26, 27], [1], 1⟩, rfl, ⟨i + 1, real.bin .add .i64 j 1, ?_, by omega, .inr ⟨_, ?_, rfl⟩⟩, ?_⟩
      · simp only [real, rBin]; rw [wrap_i64 _ (by omega) (by omega)]; omega
      · rw [hmi, hSe, iR_cI rfl hm, hmv, ← take_snoc h2]
        rw [hrow]
        exact iR_app _ [(mm ys t).getD i 0]
      · show (ys.length - real.bin .add .i64 j 1).toNat < (ys.length - j).toNat
        simp only [real, rBin]; rw [wrap_i64 _ (by omega) (by omega)]; omega
    all_goals (have hge : ¬ j < N := ge_of (by assumption))
    all_goals (have hre : row = iR (mm ys t) := by rw [hrow, show i = (mm ys t).length by rw [mm_len]; omega, List.take_length])
    all_goals (have hsm : (ints row).sum = ys.sum := by rw [hre, ints_iR, mm_sum])
    all_goals (try (rw [hA1]; exact ne_of0 (by omega)))
    all_goals (try exact ⟨mm ys t, hre, by rw [mm_len]; omega, fun x hx => hyI x (mm_mem hx)⟩)
    all_goals (simp only [hsm] at *)
    all_goals (clear hS1 hS2 hK hidx hr1 hr2 hrS hrN hso hWf hI hsub hN hsum hsm hyI hre hrow hge hi hj hA1 hK0 hK1 hyl hS hSe hR hys hT hC hN0)
    all_goals (simp only [real, rCmp, Bool.cond_true, Bool.cond_false, bne_iff_ne, ne_eq, bne_eq_false_iff_eq, beq_iff_eq, beq_eq_false_iff_ne, Bool.not_true, Bool.true_eq_false, Bool.false_eq_true, not_true_eq_false, not_false_eq_true] at *)
    all_goals (try subst_vars)
    all_goals first
      | exact absurd rfl (by assumption)
      | (obtain ⟨e1, e2⟩ := hfin (by assumption) (by assumption)
         first
           | exact absurd e1 (by assumption)
           | (rw [e2]; simp)
           | (simp [e2]))
      | trace_state
end Go.Proofs.YtieoipmbcdfmeaaDoor.Ab
