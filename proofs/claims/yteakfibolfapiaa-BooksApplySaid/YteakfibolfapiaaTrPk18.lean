/- Several texts in one: Wt2, Rb4. -/
import Derived.Test.YteakfibolfapiaaTrPk17
import Derived.Test.YteakfibolfapiaaTrPk14
section
namespace Go.Proofs.Yteakfibolfapiaa.Ab
open Go Go.RowKit Go.Sort
set_option linter.unusedVariables false
set_option linter.unusedSimpArgs false
set_option maxRecDepth 100000
set_option maxHeartbeats 8000000
def W3 : CallS := fun f args n h K => match f with
  | 56 => (match args with | [.ptr i 0, .d (.int .u64 a), .d (.int .i64 k)] => S_WNum i a k K n h | [.d .nilp, .d (.int .u64 a), .d (.int .i64 k)] => S_WNumNil a k K n h | _ => False)
  | 77 => (match args with | [.ptr i 0, .d (.str s), .d (.bool true)] => S_put i s K n h | [.d .nilp, .d (.str _), .d (.bool _)] => S_putNil K n h | _ => False)
  | _ => False
theorem W3_ok : ∀ f args n h K, W3 f args n h K → CallE Try.prog f args n h K := by
  intro f args n h K hc
  unfold W3 at hc
  split at hc
  · split at hc
    · exact L_WNum hc
    · exact L_WNumNil hc
    · exact hc.elim
  · split at hc
    · exact L_put hc
    · exact L_putNil hc
    · exact hc.elim
  · exact hc.elim
theorem wl_len {s : List UInt8} (hs : s.length ≤ 255) : real.wrap .u64 (real.slen s) = s.length := wrap_u64 _ (by show (0 : Int) ≤ (s.length : Int); omega) (by show (s.length : Int) ≤ _; omega)
theorem wl_ok {s : List UInt8} (hs : s.length ≤ 255) : nOk (real.wrap .u64 (real.slen s)) 1 := by
  rw [wl_len hs]
  exact ⟨by decide, by decide, by omega, by show (s.length : Int) < (256 : Int); omega⟩
theorem wl_no {s : List UInt8} (hs : s.length ≤ 255) (h : real.cmp .gtr (real.slen s) 255 = true) : False := by
  have h : (s.length : Int) > 255 := of_decide_eq_true h
  omega
theorem s2b_len (s : List UInt8) : (real.s2b s).length = s.length := by simp [real]
theorem K_WTx0 (r : List (List D)) (s : List UInt8) (hr : r.length ≤ 1000000) (hs : s.length ≤ 255) : CallE Try.prog 57 [.ptr 1 0, .d (.str s)] 2 [(0, .row 1 r), (1, .cells [.sl 0, .d (.bool false)])] (fun v n h => Nd (fun _ => Fin 2 (kP 1 (real.app (real.app r (real.s2b (BE (real.wrap .u64 (real.slen s)).toNat (Int.toNat 1)))) (real.s2b s))) v n h)) := by
  refine call_fn tysOK orders (C := W3) W3_ok H0 Try.func57 (by kernel_rfl) (by kernel_rfl) ?_
  intro oBin oCmp oWrap oNeg oCom oBnot oBeq oPickB oPickI oPickS oInb oSub2 oMinI oMaxI oSlen oSidx oScat oSsub oScmp oScok oLen oCI oCB oCS oCL oOkR oApp oApok oSub oSetc oRep oMkok oNthI oNthB oNthS oIteI oIteB oIteS oB2s oS2b oAllB oWf oDeq oMlen oMhas oMI oMB oMS oMok oMput oMdel oSgo oSru oSnx ho; cbv
  (repeat (any_goals (first
    | with_reducible refine And.intro ?_ ?_
    | exact True.intro
    | with_reducible exact rfl
    | (with_reducible refine Nd.mk ?_; try dsimp only)
    | (with_reducible refine Nd0.mk ?_; try dsimp only)
    | (with_reducible refine Pz.mk ?_; cbv)
    | (with_reducible refine RgOK.mk ?_; kernel_rfl)
    | (with_reducible refine OrOK.mk ?_; kernel_rfl)
    | (with_reducible refine Al.mk (fun x hx => ?_); cbv)
    | (with_reducible refine hK' _ ?_; clear hK' K'; cbv)
    | (with_reducible refine brA.yes (by first | assumption | exact rfl | (simp only [show oCmp = real.cmp from congrArg Ar.cmp ho, show oBin = real.bin from congrArg Ar.bin ho, show oScmp = real.scmp from congrArg Ar.scmp ho, show oPickB = real.pickB from congrArg Ar.pickB ho, show oBnot = real.bnot from congrArg Ar.bnot ho]; decide)) ?_; cbv)
    | (with_reducible refine brA.no (by first | assumption | exact rfl | (simp only [show oCmp = real.cmp from congrArg Ar.cmp ho, show oBin = real.bin from congrArg Ar.bin ho, show oScmp = real.scmp from congrArg Ar.scmp ho, show oPickB = real.pickB from congrArg Ar.pickB ho, show oBnot = real.bnot from congrArg Ar.bnot ho]; decide)) ?_; cbv)
    | (with_reducible refine bcase (fun hb => ?_) (fun hb => ?_) <;> cbv)
    | (intro K' hK'; cbv))))
  all_goals ((try clear hK' K'); cases ho; (try simp only [nc1] at *); (try simp only [Int.ofNat_eq_natCast] at *))
  all_goals first
    | exact wl_ok hs
    | exact (wl_no hs (by assumption)).elim
    | decide
    | omega
    | (subst_vars
       show (r ++ _).length ≤ 10000000
       rw [List.length_append, s2b_len, BE_len _ _ (by decide)]
       have : Int.toNat 1 = 1 := rfl
       omega)
    | (subst_vars; exact ⟨⟨[], [(3, 2)], [0], [1, 3], 3⟩, _, 3, _, rfl, rfl, rfl, rfl, rfl⟩)
    | trace_state
theorem K_WTxNil0 (s : List UInt8) (hs : s.length ≤ 255) : CallE Try.prog 57 [.d .nilp, .d (.str s)] 0 [] (fun v n h => Nd (fun _ => Fin 0 (Gets fun v => v = .d .nilp) v n h)) := by
  refine call_fn tysOK orders (C := W3) W3_ok H0 Try.func57 (by kernel_rfl) (by kernel_rfl) ?_
  intro oBin oCmp oWrap oNeg oCom oBnot oBeq oPickB oPickI oPickS oInb oSub2 oMinI oMaxI oSlen oSidx oScat oSsub oScmp oScok oLen oCI oCB oCS oCL oOkR oApp oApok oSub oSetc oRep oMkok oNthI oNthB oNthS oIteI oIteB oIteS oB2s oS2b oAllB oWf oDeq oMlen oMhas oMI oMB oMS oMok oMput oMdel oSgo oSru oSnx ho; cbv
  (repeat (any_goals (first
    | with_reducible refine And.intro ?_ ?_
    | exact True.intro
    | with_reducible exact rfl
    | (with_reducible refine Nd.mk ?_; try dsimp only)
    | (with_reducible refine Nd0.mk ?_; try dsimp only)
    | (with_reducible refine Pz.mk ?_; cbv)
    | (with_reducible refine RgOK.mk ?_; kernel_rfl)
    | (with_reducible refine OrOK.mk ?_; kernel_rfl)
    | (with_reducible refine Al.mk (fun x hx => ?_); cbv)
    | (with_reducible refine hK' _ ?_; clear hK' K'; cbv)
    | (with_reducible refine brA.yes (by first | assumption | exact rfl | (simp only [show oCmp = real.cmp from congrArg Ar.cmp ho, show oBin = real.bin from congrArg Ar.bin ho, show oScmp = real.scmp from congrArg Ar.scmp ho, show oPickB = real.pickB from congrArg Ar.pickB ho, show oBnot = real.bnot from congrArg Ar.bnot ho]; decide)) ?_; cbv)
    | (with_reducible refine brA.no (by first | assumption | exact rfl | (simp only [show oCmp = real.cmp from congrArg Ar.cmp ho, show oBin = real.bin from congrArg Ar.bin ho, show oScmp = real.scmp from congrArg Ar.scmp ho, show oPickB = real.pickB from congrArg Ar.pickB ho, show oBnot = real.bnot from congrArg Ar.bnot ho]; decide)) ?_; cbv)
    | (with_reducible refine bcase (fun hb => ?_) (fun hb => ?_) <;> cbv)
    | (intro K' hK'; cbv))))
  all_goals ((try clear hK' K'); cases ho; (try simp only [nc1] at *); (try simp only [Int.ofNat_eq_natCast] at *))
  all_goals first
    | exact wl_ok hs
    | exact (wl_no hs (by assumption)).elim
    | exact ⟨⟨[], [], [0], [], 0⟩, _, 0, _, rfl, rfl, ⟨rfl⟩, rfl, rfl, rfl⟩
    | trace_state
def S_WTx (i : Nat) (s : List UInt8) (K : CallK) (n : Nat) (h : Hp) : Prop := patW h i False
  fun j r => Nd (fun _ => i < n ∧ j < n ∧ i ≠ j ∧ r.length ≤ 1000000 ∧ s.length ≤ 255) ∧ Al (fun r' => r' = real.app (real.app r (real.s2b (BE (real.wrap .u64 (real.slen s)).toNat (Int.toNat 1)))) (real.s2b s)) fun r' => wOut2 i j r' K n h
theorem L_WTx {i n : Nat} {s : List UInt8} {h : Hp} {K : CallK} (hK : S_WTx i s K n h) : CallE Try.prog 57 [.ptr i 0, .d (.str s)] n h K := by
  rcases patW_elim hK with ⟨hg, hk⟩ | ⟨j, r, hg, hg2, ⟨⟨hi, hj, hij, hr, hs⟩⟩, hk⟩
  · exact hk.elim
  · exact wrW_of (CallE.fin (K_WTx0 r s hr hs)) rfl hi hj hij hg hg2 (hk.h _ rfl)
def S_WTxNil (s : List UInt8) (K : CallK) (n : Nat) (h : Hp) : Prop := Nd (fun _ => s.length ≤ 255) ∧ K (.d .nilp) n h
theorem L_WTxNil {s : List UInt8} {n : Nat} {h : Hp} {K : CallK} (hK : S_WTxNil s K n h) : CallE Try.prog 57 [.d .nilp, .d (.str s)] n h K := call_data (CallE.fin (K_WTxNil0 s hK.1.h)) rfl (by rintro v rfl; exact hK.2)
/-! Bytes -/
theorem b2s_s2b (s : List UInt8) : real.b2s (real.s2b s) = s := by
  simp only [real, List.map_map]
  have : ((fun r => (byteOf r).getD 0) ∘ fun b : UInt8 => [D.int .u8 (b.toNat : Int)]) = id := by
    funext b
    have h := b.toNat_lt
    have h2 : (0 : Int) ≤ (b.toNat : Int) ∧ (b.toNat : Int) < 256 := by omega
    simp [byteOf, h2]
  rw [this, List.map_id]
theorem all_s2b (s : List UInt8) : real.allB (real.s2b s) = true := by
  simp only [real, List.all_map, List.all_eq_true]
  intro b _
  have h := b.toNat_lt
  have h2 : (0 : Int) ≤ (b.toNat : Int) ∧ (b.toNat : Int) < 256 := by omega
  simp [byteOf, h2]
theorem wf_s2b (s : List UInt8) : real.wf (real.s2b s) 1 = true := by
  simp only [real, rWf, List.all_map, List.all_eq_true]
  intro b _
  rfl
theorem K_Bytes0 (s : List UInt8) (r : List (List D)) (hr : r = real.s2b s) : CallE Try.prog 31 [.ptr 1 0] 2 [(0, .row 1 r), (1, .cells [.sl 0, .d (.bool false)])] (fun v n h => Nd (fun _ => Fin 2 (fun v n h => v = .tup [.d (.str s), .d (.int .i64 0)] ∧ n = 2 ∧ h = [(0, .row 1 r), (1, .cells [.sl 0, .d (.bool false)])]) v n h)) := by
  refine call_fn tysOK orders (C := C0) C0_ok H0 Try.func31 (by kernel_rfl) (by kernel_rfl) ?_
  intro oBin oCmp oWrap oNeg oCom oBnot oBeq oPickB oPickI oPickS oInb oSub2 oMinI oMaxI oSlen oSidx oScat oSsub oScmp oScok oLen oCI oCB oCS oCL oOkR oApp oApok oSub oSetc oRep oMkok oNthI oNthB oNthS oIteI oIteB oIteS oB2s oS2b oAllB oWf oDeq oMlen oMhas oMI oMB oMS oMok oMput oMdel oSgo oSru oSnx ho; cbv
  (repeat (any_goals (first
    | with_reducible refine And.intro ?_ ?_
    | exact True.intro
    | with_reducible exact rfl
    | (with_reducible refine Nd.mk ?_; try dsimp only)
    | (with_reducible refine Nd0.mk ?_; try dsimp only)
    | (with_reducible refine Pz.mk ?_; cbv)
    | (with_reducible refine RgOK.mk ?_; kernel_rfl)
    | (with_reducible refine OrOK.mk ?_; kernel_rfl)
    | (with_reducible refine Al.mk (fun x hx => ?_); cbv)
    | (with_reducible refine hK' _ ?_; clear hK' K'; cbv)
    | (with_reducible refine brA.yes (by first | assumption | exact rfl | (simp only [show oCmp = real.cmp from congrArg Ar.cmp ho, show oBin = real.bin from congrArg Ar.bin ho, show oScmp = real.scmp from congrArg Ar.scmp ho, show oPickB = real.pickB from congrArg Ar.pickB ho, show oBnot = real.bnot from congrArg Ar.bnot ho]; decide)) ?_; cbv)
    | (with_reducible refine brA.no (by first | assumption | exact rfl | (simp only [show oCmp = real.cmp from congrArg Ar.cmp ho, show oBin = real.bin from congrArg Ar.bin ho, show oScmp = real.scmp from congrArg Ar.scmp ho, show oPickB = real.pickB from congrArg Ar.pickB ho, show oBnot = real.bnot from congrArg Ar.bnot ho]; decide)) ?_; cbv)
    | (with_reducible refine bcase (fun hb => ?_) (fun hb => ?_) <;> cbv)
    | (intro K' hK'; cbv))))
  all_goals ((try clear hK' K'); cases ho; (try simp only [nc1] at *); (try simp only [Int.ofNat_eq_natCast] at *))
  all_goals first
    | (rw [hr]; exact all_s2b s)
    | (rw [hr]; exact wf_s2b s)
    | (have e : real.b2s r = s := by rw [hr]; exact b2s_s2b s
       exact ⟨⟨[], [], [0], [0, 1], 2⟩, _, 2, _, rfl, rfl, by rw [← e]; rfl, rfl, rfl⟩)
    | trace_state
def S_Bytes (i : Nat) (K : CallK) (n : Nat) (h : Hp) : Prop := patW h i False
  fun j r => Nd (fun _ => i < n ∧ j < n ∧ i ≠ j ∧ ∃ s, r = real.s2b s) ∧ Al (fun s => r = real.s2b s) fun s => K (.tup [.d (.str s), .d (.int .i64 0)]) n (outs (two i j) 2 h ++ [(j, .row 1 r), (i, .cells [.sl j, .d (.bool false)])])
theorem L_Bytes {i n : Nat} {h : Hp} {K : CallK} (hK : S_Bytes i K n h) : CallE Try.prog 31 [.ptr i 0] n h K := by
  rcases patW_elim hK with ⟨hg, hk⟩ | ⟨j, r, hg, hg2, ⟨⟨hi, hj, hij, s, hs⟩⟩, hk⟩
  · exact hk.elim
  · refine call_recvW (CallE.fin (K_Bytes0 s r hs)) rfl hi hj hij hg hg2 ?_
    rintro v n1 h1 ⟨rfl, rfl, rfl⟩ -
    exact hk.h s hs
/-! Write -/
def W4 : CallS := fun f args n h K => match f with
  | 10 => (match args with | [.ptr i 0] => S_List i K n h | _ => False)
  | 56 => (match args with | [.ptr i 0, .d (.int .u64 a), .d (.int .i64 k)] => S_WNum i a k K n h | [.d .nilp, .d (.int .u64 a), .d (.int .i64 k)] => S_WNumNil a k K n h | _ => False)
  | 57 => (match args with | [.ptr i 0, .d (.str s)] => S_WTx i s K n h | [.d .nilp, .d (.str s)] => S_WTxNil s K n h | _ => False)
  | _ => False
theorem W4_ok : ∀ f args n h K, W4 f args n h K → CallE Try.prog f args n h K := by
  intro f args n h K hc
  unfold W4 at hc
  split at hc
  · split at hc
    · exact L_List hc
    · exact hc.elim
  · split at hc
    · exact L_WNum hc
    · exact L_WNumNil hc
    · exact hc.elim
  · split at hc
    · exact L_WTx hc
    · exact L_WTxNil hc
    · exact hc.elim
  · exact hc.elim
def kW (m : ML) (xs : List It.Acc) : CallK := fun v n h => v = .tup [] ∧ n = 4 ∧ ∃ r, r = real.s2b (chB xs) ∧ h = [(0, .mp .i64 m), (1, .cells [.map 0]), (2, .cells [.sl 3, .d (.bool false)]), (3, .row 1 r)]
def hdF (xs : List It.Acc) : Fl := ⟨0, 1, xs.length, []⟩
def soF (xs : List It.Acc) (i : Nat) : List UInt8 := bysF (hdF xs :: (xs.take i).flatMap fl3)
section
variable {m : ML} {xs : List It.Acc} {i : Nat} {j : Int} {o x1 x2 x3 : List (List D)}
theorem BE_1 (n : Nat) (h : n < 256) : BE n 1 = [UInt8.ofNat n] := by
  simp [BE, be8, List.range, List.range.loop]
theorem app_s2b (a b : List UInt8) : real.app (real.s2b a) (real.s2b b) = real.s2b (a ++ b) := by simp [real]
theorem so_len (hg : gL xs) (i : Nat) : (soF xs i).length ≤ 100000 := by
  have h : ∀ f ∈ hdF xs :: (xs.take i).flatMap fl3, okF f := by
    intro f hf
    refine okF_C hg f ?_
    rcases List.mem_cons.1 hf with rfl | hf
    · exact List.mem_cons_self ..
    · obtain ⟨a, ha, hf⟩ := List.mem_flatMap.1 hf
      exact List.mem_cons_of_mem _ (List.mem_flatMap.2 ⟨a, List.mem_of_mem_take ha, hf⟩)
  have h1 := bysF_len h
  have h2 := hg.ln
  rw [List.length_cons, fl3_len, List.length_take] at h1
  show (bysF _).length ≤ _
  omega
theorem so_all (xs : List It.Acc) : soF xs xs.length = chB xs := by
  unfold soF chB flC hdF
  rw [List.take_length]
theorem so_0 (hg : gL xs) : real.app [] (real.s2b (BE (real.wrap .u64 (real.len (aR xs))).toNat (Int.toNat 1))) = real.s2b (soF xs 0) := by
  have h2 := hg.ln
  have e : real.wrap .u64 (real.len (aR xs)) = xs.length := by
    rw [show real.len (aR xs) = ((aR xs).length : Int) from rfl, aR_len]
    exact wrap_u64 _ (by omega) (by omega)
  rw [e]
  show real.s2b _ = _
  simp [soF, bysF, byF, hdF]
theorem so_n (hg : gL xs) : nOk (real.wrap .u64 (real.len (aR xs))) 1 := by
  have h2 := hg.ln
  have e : real.wrap .u64 (real.len (aR xs)) = xs.length := by
    rw [show real.len (aR xs) = ((aR xs).length : Int) from rfl, aR_len]
    exact wrap_u64 _ (by omega) (by omega)
  rw [e]
  exact ⟨by decide, by decide, by omega, by show (xs.length : Int) < (256 : Int); omega⟩
theorem so_c (hg : gL xs) (hj : j = i) (h5 : i < xs.length) : real.wrap .u64 (real.cI [[.int .i64 (real.cI (aR xs) j 0), .int .u8 (real.cI (aR xs) j 1), .str (real.cS (aR xs) j 2)]] 0 0) = xs[i].c ∧ real.wrap .u64 (real.cI [[.int .i64 (real.cI (aR xs) j 0), .int .u8 (real.cI (aR xs) j 1), .str (real.cS (aR xs) j 2)]] 0 1) = xs[i].k ∧ real.cS [[.int .i64 (real.cI (aR xs) j 0), .int .u8 (real.cI (aR xs) j 1), .str (real.cS (aR xs) j 2)]] 0 2 = xs[i].s := by
  obtain ⟨h1, h2, h3, h4, -⟩ := rgt_bd (hg.rg xs[i] (List.getElem_mem h5))
  refine ⟨?_, ?_, ?_⟩
  · show real.wrap .u64 (real.cI (aR xs) j 0) = _
    rw [aR_c hj h5]
    exact wrap_u64 _ (by omega) (by omega)
  · show real.wrap .u64 (real.cI (aR xs) j 1) = _
    rw [aR_k hj h5]
    exact wrap_u64 _ (by omega) (by omega)
  · show real.cS (aR xs) j 2 = _
    rw [aR_s hj h5]
theorem so_nc (hg : gL xs) (hj : j = i) (h5 : i < xs.length) : nOk (real.wrap .u64 (real.cI [[.int .i64 (real.cI (aR xs) j 0), .int .u8 (real.cI (aR xs) j 1), .str (real.cS (aR xs) j 2)]] 0 0)) 2 := by
  obtain ⟨h1, h2, h3, h4, -⟩ := rgt_bd (hg.rg xs[i] (List.getElem_mem h5))
  rw [(so_c hg hj h5).1]
  exact ⟨by decide, by decide, by omega, by show xs[i].c < (65536 : Int); omega⟩
theorem so_nk (hg : gL xs) (hj : j = i) (h5 : i < xs.length) : nOk (real.wrap .u64 (real.cI [[.int .i64 (real.cI (aR xs) j 0), .int .u8 (real.cI (aR xs) j 1), .str (real.cS (aR xs) j 2)]] 0 1)) 1 := by
  obtain ⟨h1, h2, h3, h4, -⟩ := rgt_bd (hg.rg xs[i] (List.getElem_mem h5))
  rw [(so_c hg hj h5).2.1]
  exact ⟨by decide, by decide, by omega, by show xs[i].k < (256 : Int); omega⟩
theorem so_ns (hg : gL xs) (hj : j = i) (h5 : i < xs.length) : (real.cS [[.int .i64 (real.cI (aR xs) j 0), .int .u8 (real.cI (aR xs) j 1), .str (real.cS (aR xs) j 2)]] 0 2).length ≤ 255 := by
  obtain ⟨h1, h2, h3, h4, h6⟩ := rgt_bd (hg.rg xs[i] (List.getElem_mem h5))
  rw [(so_c hg hj h5).2.2]
  omega
theorem so_1 (hg : gL xs) (hj : j = i) (h5 : i < xs.length) (ho : o = real.s2b (soF xs i)) (h1 : x1 = real.app o (real.s2b (BE (real.wrap .u64 (real.cI [[.int .i64 (real.cI (aR xs) j 0), .int .u8 (real.cI (aR xs) j 1), .str (real.cS (aR xs) j 2)]] 0 0)).toNat (Int.toNat 2)))) : x1 = real.s2b (soF xs i ++ BE xs[i].c.toNat 2) := by
  rw [h1, ho, (so_c hg hj h5).1, app_s2b]
  rfl
theorem so_2 (hg : gL xs) (hj : j = i) (h5 : i < xs.length) (ho : x1 = real.s2b (soF xs i ++ BE xs[i].c.toNat 2)) (h2 : x2 = real.app x1 (real.s2b (BE (real.wrap .u64 (real.cI [[.int .i64 (real.cI (aR xs) j 0), .int .u8 (real.cI (aR xs) j 1), .str (real.cS (aR xs) j 2)]] 0 1)).toNat (Int.toNat 1)))) : x2 = real.s2b (soF xs i ++ BE xs[i].c.toNat 2 ++ BE xs[i].k.toNat 1) := by
  rw [h2, ho, (so_c hg hj h5).2.1, app_s2b]
  rfl
theorem so_3 (hg : gL xs) (hj : j = i) (h5 : i < xs.length) (ho : x2 = real.s2b (soF xs i ++ BE xs[i].c.toNat 2 ++ BE xs[i].k.toNat 1))
    (h3 : x3 = real.app (real.app x2 (real.s2b (BE (real.wrap .u64 (real.slen (real.cS [[.int .i64 (real.cI (aR xs) j 0), .int .u8 (real.cI (aR xs) j 1), .str (real.cS (aR xs) j 2)]] 0 2))).toNat (Int.toNat 1)))) (real.s2b (real.cS [[.int .i64 (real.cI (aR xs) j 0), .int .u8 (real.cI (aR xs) j 1), .str (real.cS (aR xs) j 2)]] 0 2))) : x3 = real.s2b (soF xs (i + 1)) := by
  obtain ⟨-, -, -, -, h6⟩ := rgt_bd (hg.rg xs[i] (List.getElem_mem h5))
  rw [h3, ho, wl_len (so_ns hg hj h5), (so_c hg hj h5).2.2, app_s2b, app_s2b]
  congr 1
  have e : (xs[i].s.length : Int).toNat = xs[i].s.length := by omega
  rw [e, show Int.toNat 1 = 1 from rfl, BE_1 _ (show xs[i].s.length < 256 by omega)]
  unfold soF
  rw [List.take_succ_eq_append_getElem h5, List.flatMap_append]
  simp [bysF, fl3, byF]
theorem so_b1 (hg : gL xs) (hj : j = i) (h5 : i < xs.length) (ho : x1 = real.s2b (soF xs i ++ BE xs[i].c.toNat 2)) : x1.length ≤ 10000000 := by
  have := so_len hg i
  rw [ho, s2b_len, List.length_append, BE_len _ _ (by omega)]
  omega
theorem so_b2 (hg : gL xs) (hj : j = i) (h5 : i < xs.length) (ho : x2 = real.s2b (soF xs i ++ BE xs[i].c.toNat 2 ++ BE xs[i].k.toNat 1)) : x2.length ≤ 1000000 := by
  have := so_len hg i
  rw [ho, s2b_len, List.length_append, List.length_append, BE_len _ _ (by omega), BE_len _ _ (by omega)]
  omega
theorem so_b0 (hg : gL xs) (ho : o = real.s2b (soF xs i)) : o.length ≤ 10000000 := by
  have := so_len hg i
  rw [ho, s2b_len]
  omega
theorem ok1c (c k : Int) (s : List UInt8) : real.okR [[.int .i64 c, .int .u8 k, .str s]] 0 0 [.int .i64] = true := rfl
theorem ok1k (c k : Int) (s : List UInt8) : real.okR [[.int .i64 c, .int .u8 k, .str s]] 0 1 [.int .u8] = true := rfl
theorem ok1s (c k : Int) (s : List UInt8) : real.okR [[.int .i64 c, .int .u8 k, .str s]] 0 2 [.str] = true := rfl
end
theorem K_CWr0 (m : ML) (xs : List It.Acc) (hm : Same m xs) (hg : gL xs) : CallE Try.prog 30 [.ptr 1 0, .ptr 2 0] 3 [(0, .mp .i64 m), (1, .cells [.map 0]), (2, .cells [.d .nilsl, .d (.bool false)])] (fun v n h => Nd (fun _ => Fin 3 (kW m xs) v n h)) := by
  refine call_fn tysOK orders (C := W4) W4_ok ⟨[((6, 0), [4])], [], 0⟩ Try.func30 (by kernel_rfl) (by kernel_rfl) ?_
  intro oBin oCmp oWrap oNeg oCom oBnot oBeq oPickB oPickI oPickS oInb oSub2 oMinI oMaxI oSlen oSidx oScat oSsub oScmp oScok oLen oCI oCB oCS oCL oOkR oApp oApok oSub oSetc oRep oMkok oNthI oNthB oNthS oIteI oIteB oIteS oB2s oS2b oAllB oWf oDeq oMlen oMhas oMI oMB oMS oMok oMput oMdel oSgo oSru oSnx ho; cbv
  (repeat (any_goals (first
    | with_reducible refine And.intro ?_ ?_
    | exact True.intro
    | with_reducible exact rfl
    | (with_reducible refine Nd.mk ?_; try dsimp only)
    | (with_reducible refine Nd0.mk ?_; try dsimp only)
    | (with_reducible refine Pz.mk ?_; cbv)
    | (with_reducible refine RgOK.mk ?_; kernel_rfl)
    | (with_reducible refine OrOK.mk ?_; kernel_rfl)
    | (with_reducible refine Al.mk (fun x hx => ?_); cbv)
    | (with_reducible refine hK' _ ?_; clear hK' K'; cbv)
    | (with_reducible refine brA.yes (by first | assumption | exact rfl | (simp only [show oCmp = real.cmp from congrArg Ar.cmp ho, show oBin = real.bin from congrArg Ar.bin ho, show oScmp = real.scmp from congrArg Ar.scmp ho, show oPickB = real.pickB from congrArg Ar.pickB ho, show oBnot = real.bnot from congrArg Ar.bnot ho]; decide)) ?_; cbv)
    | (with_reducible refine brA.no (by first | assumption | exact rfl | (simp only [show oCmp = real.cmp from congrArg Ar.cmp ho, show oBin = real.bin from congrArg Ar.bin ho, show oScmp = real.scmp from congrArg Ar.scmp ho, show oPickB = real.pickB from congrArg Ar.pickB ho, show oBnot = real.bnot from congrArg Ar.bnot ho]; decide)) ?_; cbv)
    | (with_reducible refine bcase (fun hb => ?_) (fun hb => ?_) <;> cbv)
    | (intro K' hK'; cbv))))
  any_goals (rename_i y hy
             refine ⟨fun st => ∃ (i : Nat) (j : Int) (o : List (List D)), j = i ∧ i ≤ xs.length ∧ o = real.s2b (soF xs i) ∧ st = ⟨mkF 35 0 [(1, .ptr 2 0), (16, .d (.imm y)), (17, .d (.int .i64 (oLen y))), (18, .d (.int .i64 j))], 4, [(0, .mp .i64 m), (1, .cells [.map 0]), (2, .cells [.sl 3, .d (.bool false)]), (3, .row 1 o)]⟩,
      fun st => ((xs.length : Int) - ctr 18 st).toNat, ⟨[3], [(4, 3)], [1, 16, 17, 18], [0, 1, 2, 4], 4⟩, ?_, ?_, ?_⟩
             · cbv
             · cases ho
               have e := hm.list hy
               subst e
               exact ⟨0, 0, x, rfl, Nat.zero_le _, hx.trans (so_0 hg), rfl⟩
             rintro st1 ⟨i, j, o, hj, hi, hs, rfl⟩
             cbv
             (repeat (any_goals (first
    | with_reducible refine And.intro ?_ ?_
    | exact True.intro
    | with_reducible exact rfl
    | (with_reducible refine Nd.mk ?_; try dsimp only)
    | (with_reducible refine Nd0.mk ?_; try dsimp only)
    | (with_reducible refine Pz.mk ?_; cbv)
    | (with_reducible refine RgOK.mk ?_; kernel_rfl)
    | (with_reducible refine OrOK.mk ?_; kernel_rfl)
    | (with_reducible refine Al.mk (fun x hx => ?_); cbv)
    | (with_reducible refine hK' _ ?_; clear hK' K'; cbv)
    | (with_reducible refine brA.yes (by first | assumption | exact rfl | (simp only [show oCmp = real.cmp from congrArg Ar.cmp ho, show oBin = real.bin from congrArg Ar.bin ho, show oScmp = real.scmp from congrArg Ar.scmp ho, show oPickB = real.pickB from congrArg Ar.pickB ho, show oBnot = real.bnot from congrArg Ar.bnot ho]; decide)) ?_; cbv)
    | (with_reducible refine brA.no (by first | assumption | exact rfl | (simp only [show oCmp = real.cmp from congrArg Ar.cmp ho, show oBin = real.bin from congrArg Ar.bin ho, show oScmp = real.scmp from congrArg Ar.scmp ho, show oPickB = real.pickB from congrArg Ar.pickB ho, show oBnot = real.bnot from congrArg Ar.bnot ho]; decide)) ?_; cbv)
    | (with_reducible refine bcase (fun hb => ?_) (fun hb => ?_) <;> cbv)
    | (intro K' hK'; cbv)))))
  all_goals ((try clear hK' K'); cases ho; (try simp only [nc1] at *); (try simp only [Int.ofNat_eq_natCast] at *))
  all_goals first
    | decide
    | exact hm.gC
    | (rw [hm.len]; have := hg.ln; omega)
    | (have e := hm.list ‹isList m _›
       subst e
       first
       | exact so_n hg
       | exact ok1c _ _ _
       | exact ok1k _ _ _
       | exact ok1s _ _ _
       | (have h5 := lt_aR hj ‹real.cmp .lss j _ = true›
          first
          | with_reducible exact in_aR hj h5
          | with_reducible exact aR_wf xs
          | with_reducible exact aR_ok3 hj h5
          | with_reducible exact so_nc hg hj h5
          | with_reducible exact so_nk hg hj h5
          | with_reducible exact so_ns hg hj h5
          | with_reducible exact so_b0 hg hs
          | exact so_b1 hg hj h5 (so_1 hg hj h5 hs (by assumption))
          | exact so_b2 hg hj h5 (so_2 hg hj h5 (so_1 hg hj h5 hs (by assumption)) (by assumption))
          | (have h7 := add_1 hj (by have := hg.ln; omega)
             refine ⟨⟨[], [(7, 3)], [1, 16, 17, 18], [0, 1, 2, 7], 4⟩, rfl, ⟨i + 1, real.bin .add .i64 j 1, _, h7, by omega, so_3 hg hj h5 (so_2 hg hj h5 (so_1 hg hj h5 hs (by assumption)) (by assumption)) (by assumption), rfl⟩, ?_⟩
             show ((xs.length : Int) - real.bin .add .i64 j 1).toNat < ((xs.length : Int) - j).toNat
             rw [h7]; omega))
       | (have h5 := ge_aR hj ‹real.cmp .lss j _ = false›
          have e : i = xs.length := by omega
          subst e
          rw [so_all] at hs
          exact ⟨⟨[], [], [0], [0, 1, 2, 3], 4⟩, _, 4, _, rfl, rfl, rfl, rfl, o, hs, rfl⟩))
    | trace_state
def thr3 (i j w : Nat) (x : Nat) : Nat := bif x == 0 then j else bif x == 1 then i else w
def S_CWr (i w : Nat) (K : CallK) (n : Nat) (h : Hp) : Prop := pat2 h i fun j m => match hget h w with
  | some (.cells [.d .nilsl, .d (.bool false)]) => Nd (fun _ => i < n ∧ j < n ∧ w < n ∧ i ≠ j ∧ i ≠ w ∧ j ≠ w ∧ ∃ xs, Same m xs ∧ gL xs) ∧
      Al (fun r => ∃ xs, Same m xs ∧ gL xs ∧ r = real.s2b (chB xs)) fun r => K (.tup []) (n + 1) (outs (thr3 i j w) 3 h ++ [(j, .mp .i64 m), (i, .cells [.map j]), (w, .cells [.sl n, .d (.bool false)]), (n, .row 1 r)])
  | _ => False
theorem L_CWr {i w n : Nat} {h : Hp} {K : CallK} (hK : S_CWr i w K n h) : CallE Try.prog 30 [.ptr i 0, .ptr w 0] n h K := by
  obtain ⟨j, m, hg, hg2, hk⟩ := pat2_elim hK
  split at hk
  case h_2 => exact hk.elim
  rename_i hg3
  obtain ⟨⟨hi, hj, hw, hij, hiw, hjw, xs, hm, hx⟩, hk⟩ := hk
  refine call_frame (g := thr3 i j w) (CallE.fin (K_CWr0 m xs hm hx)) rfl rfl (fun a b ha hb e => ?_) (fun a ha => ?_) ?_ ?_ ?_
  · have h1 : a = 0 ∨ a = 1 ∨ a = 2 := by omega
    have h2 : b = 0 ∨ b = 1 ∨ b = 2 := by omega
    have e0 : thr3 i j w 0 = j := rfl
    have e1 : thr3 i j w 1 = i := rfl
    have e2 : thr3 i j w 2 = w := rfl
    rcases h1 with rfl | rfl | rfl <;> rcases h2 with rfl | rfl | rfl <;> simp only [e0, e1, e2] at e <;> omega
  · have h1 : a = 0 ∨ a = 1 ∨ a = 2 := by omega
    rcases h1 with rfl | rfl | rfl
    · exact hj
    · exact hi
    · exact hw
  · intro a o hm'
    simp only [List.mem_cons, Prod.mk.injEq, List.not_mem_nil, or_false] at hm'
    rcases hm' with ⟨rfl, rfl⟩ | ⟨rfl, rfl⟩ | ⟨rfl, rfl⟩
    · exact ⟨hget_mem hg2, fun j hj => by cases hj⟩
    · exact ⟨hget_mem hg, fun j hj => by simp [idsO, idsVs, idsV] at hj; omega⟩
    · exact ⟨hget_mem hg3, fun j hj => by simp [idsO, idsVs, idsV] at hj⟩
  · intro j hj
    rw [show idsVs [.ptr 1 0, .ptr 2 0] = [1, 2] from rfl] at hj
    simp at hj
    omega
  · rintro v n1 h1 - ⟨rfl, rfl, r, hr, rfl⟩
    have e0 : lift (thr3 i j w) 3 n 0 = j := by simp [lift]; rfl
    have e1 : lift (thr3 i j w) 3 n 1 = i := by simp [lift]; rfl
    have e2 : lift (thr3 i j w) 3 n 2 = w := by simp [lift]; rfl
    have e3 : lift (thr3 i j w) 3 n 3 = n := by simp [lift]; rfl
    simp only [renH, renV, renO, renVs, e0, e1, e2, e3]
    exact hk.h r ⟨xs, hm, hx, hr⟩
theorem K_CWrNil0 (m : ML) (xs : List It.Acc) (hm : Same m xs) (hg : gL xs) : CallE Try.prog 30 [.ptr 1 0, .d .nilp] 2 [(0, .mp .i64 m), (1, .cells [.map 0])] (fun v n h => Nd (fun _ => Fin 2 (fun v n h => v = .tup [] ∧ n = 2 ∧ h = [(0, .mp .i64 m), (1, .cells [.map 0])]) v n h)) := by
  refine call_fn tysOK orders (C := W4) W4_ok ⟨[((6, 0), [2])], [], 0⟩ Try.func30 (by kernel_rfl) (by kernel_rfl) ?_
  intro oBin oCmp oWrap oNeg oCom oBnot oBeq oPickB oPickI oPickS oInb oSub2 oMinI oMaxI oSlen oSidx oScat oSsub oScmp oScok oLen oCI oCB oCS oCL oOkR oApp oApok oSub oSetc oRep oMkok oNthI oNthB oNthS oIteI oIteB oIteS oB2s oS2b oAllB oWf oDeq oMlen oMhas oMI oMB oMS oMok oMput oMdel oSgo oSru oSnx ho; cbv
  (repeat (any_goals (first
    | with_reducible refine And.intro ?_ ?_
    | exact True.intro
    | with_reducible exact rfl
    | (with_reducible refine Nd.mk ?_; try dsimp only)
    | (with_reducible refine Nd0.mk ?_; try dsimp only)
    | (with_reducible refine Pz.mk ?_; cbv)
    | (with_reducible refine RgOK.mk ?_; kernel_rfl)
    | (with_reducible refine OrOK.mk ?_; kernel_rfl)
    | (with_reducible refine Al.mk (fun x hx => ?_); cbv)
    | (with_reducible refine hK' _ ?_; clear hK' K'; cbv)
    | (with_reducible refine brA.yes (by first | assumption | exact rfl | (simp only [show oCmp = real.cmp from congrArg Ar.cmp ho, show oBin = real.bin from congrArg Ar.bin ho, show oScmp = real.scmp from congrArg Ar.scmp ho, show oPickB = real.pickB from congrArg Ar.pickB ho, show oBnot = real.bnot from congrArg Ar.bnot ho]; decide)) ?_; cbv)
    | (with_reducible refine brA.no (by first | assumption | exact rfl | (simp only [show oCmp = real.cmp from congrArg Ar.cmp ho, show oBin = real.bin from congrArg Ar.bin ho, show oScmp = real.scmp from congrArg Ar.scmp ho, show oPickB = real.pickB from congrArg Ar.pickB ho, show oBnot = real.bnot from congrArg Ar.bnot ho]; decide)) ?_; cbv)
    | (with_reducible refine bcase (fun hb => ?_) (fun hb => ?_) <;> cbv)
    | (intro K' hK'; cbv))))
  any_goals (refine ⟨fun st => ∃ (i : Nat) (j : Int), j = i ∧ i ≤ xs.length ∧ st = ⟨mkF 35 0 [(1, .d .nilp), (16, .d (.imm x)), (17, .d (.int .i64 (oLen x))), (18, .d (.int .i64 j))], 2, [(0, .mp .i64 m), (1, .cells [.map 0])]⟩,
      fun st => ((xs.length : Int) - ctr 18 st).toNat, ⟨[2], [], [1, 16, 17, 18], [0, 1], 2⟩, ?_, ?_, ?_⟩
             · cbv
             · exact ⟨0, 0, rfl, Nat.zero_le _, rfl⟩
             rintro st1 ⟨i, j, hj, hi, rfl⟩
             cbv
             (repeat (any_goals (first
    | with_reducible refine And.intro ?_ ?_
    | exact True.intro
    | with_reducible exact rfl
    | (with_reducible refine Nd.mk ?_; try dsimp only)
    | (with_reducible refine Nd0.mk ?_; try dsimp only)
    | (with_reducible refine Pz.mk ?_; cbv)
    | (with_reducible refine RgOK.mk ?_; kernel_rfl)
    | (with_reducible refine OrOK.mk ?_; kernel_rfl)
    | (with_reducible refine Al.mk (fun x hx => ?_); cbv)
    | (with_reducible refine hK' _ ?_; clear hK' K'; cbv)
    | (with_reducible refine brA.yes (by first | assumption | exact rfl | (simp only [show oCmp = real.cmp from congrArg Ar.cmp ho, show oBin = real.bin from congrArg Ar.bin ho, show oScmp = real.scmp from congrArg Ar.scmp ho, show oPickB = real.pickB from congrArg Ar.pickB ho, show oBnot = real.bnot from congrArg Ar.bnot ho]; decide)) ?_; cbv)
    | (with_reducible refine brA.no (by first | assumption | exact rfl | (simp only [show oCmp = real.cmp from congrArg Ar.cmp ho, show oBin = real.bin from congrArg Ar.bin ho, show oScmp = real.scmp from congrArg Ar.scmp ho, show oPickB = real.pickB from congrArg Ar.pickB ho, show oBnot = real.bnot from congrArg Ar.bnot ho]; decide)) ?_; cbv)
    | (with_reducible refine bcase (fun hb => ?_) (fun hb => ?_) <;> cbv)
    | (intro K' hK'; cbv)))))
  all_goals ((try clear hK' K'); cases ho; (try simp only [nc1] at *); (try simp only [Int.ofNat_eq_natCast] at *))
  all_goals first
    | decide
    | exact hm.gC
    | (rw [hm.len]; have := hg.ln; omega)
    | (have e := hm.list ‹isList m _›
       subst e
       first
       | exact so_n hg
       | exact ok1c _ _ _
       | exact ok1k _ _ _
       | exact ok1s _ _ _
       | (have h5 := lt_aR hj ‹real.cmp .lss j _ = true›
          first
          | with_reducible exact in_aR hj h5
          | with_reducible exact aR_wf xs
          | with_reducible exact aR_ok3 hj h5
          | with_reducible exact so_nc hg hj h5
          | with_reducible exact so_nk hg hj h5
          | with_reducible exact so_ns hg hj h5
          | (have h7 := add_1 hj (by have := hg.ln; omega)
             refine ⟨⟨[], [], [1, 16, 17, 18], [0, 1], 2⟩, rfl, ⟨i + 1, real.bin .add .i64 j 1, h7, by omega, rfl⟩, ?_⟩
             show ((xs.length : Int) - real.bin .add .i64 j 1).toNat < ((xs.length : Int) - j).toNat
             rw [h7]; omega))
       | exact ⟨⟨[], [], [0], [0, 1], 2⟩, _, 2, _, rfl, rfl, rfl, rfl, rfl⟩)
    | trace_state
def S_CWrNil (i : Nat) (K : CallK) (n : Nat) (h : Hp) : Prop := pat2 h i fun j m => Nd (fun _ => i < n ∧ j < n ∧ i ≠ j ∧ ∃ xs, Same m xs ∧ gL xs) ∧ K (.tup []) n (out2 i j h m)
theorem L_CWrNil {i n : Nat} {h : Hp} {K : CallK} (hK : S_CWrNil i K n h) : CallE Try.prog 30 [.ptr i 0, .d .nilp] n h K := by
  obtain ⟨j, m, hg, hg2, ⟨⟨hi, hj, hij, xs, hm, hx⟩⟩, hk⟩ := pat2_elim hK
  refine call_recv2 (CallE.fin (K_CWrNil0 m xs hm hx)) rfl hi hj hij hg hg2 ?_
  rintro v n1 h1 ⟨rfl, rfl, rfl⟩ -
  exact hk
end Go.Proofs.Yteakfibolfapiaa.Ab
end
section
namespace Go.Proofs.Yteakfibolfapiaa.Ab
open Go Go.RowKit Go.Sort
set_option linter.unusedVariables false
set_option linter.unusedSimpArgs false
set_option maxRecDepth 100000
set_option maxHeartbeats 8000000
def fl2 (p : Int × Int) : List Fl := [⟨0, 2, p.1, []⟩, ⟨1, 0, real.wrap .u64 p.2, []⟩]
def flB (xs : List (Int × Int)) : List Fl := ⟨0, 2, xs.length, []⟩ :: xs.flatMap fl2
/-- The balances' bytes. -/
def bkB (xs : List (Int × Int)) : List UInt8 := bysF (flB xs)
/-- Balances that may be written. -/
structure gW (xs : List (Int × Int)) : Prop where
  rg : ∀ p ∈ xs, 0 ≤ p.1 ∧ p.1 ≤ 65535
  ln : xs.length ≤ 4000
theorem wrapu_bd (x : Int) : 0 ≤ real.wrap .u64 x ∧ real.wrap .u64 x < 18446744073709551616 := by
  show 0 ≤ IntKind.u64.wrap x ∧ IntKind.u64.wrap x < _
  have : IntKind.u64.wrap x = x % 18446744073709551616 := by
    simp [IntKind.wrap, IntKind.bits, IntKind.signed]
  rw [this]
  omega
theorem okF_2 {p : Int × Int} (h : 0 ≤ p.1 ∧ p.1 ≤ 65535) : ∀ f ∈ fl2 p, okF f := by
  intro f hf
  simp only [fl2, List.mem_cons, List.not_mem_nil, or_false] at hf
  rcases hf with rfl | rfl
  · refine .inl ⟨rfl, (by show (1 : Int) ≤ 2; decide), (by show (2 : Int) ≤ 8; decide), by show (0 : Int) ≤ p.1; omega, ?_⟩
    show p.1 < (65536 : Int)
    omega
  · exact .inr (.inl ⟨rfl, (wrapu_bd p.2).1, (wrapu_bd p.2).2⟩)
theorem okF_B {xs : List (Int × Int)} (hg : gW xs) : ∀ f ∈ flB xs, okF f := by
  intro f hf
  rcases List.mem_cons.1 hf with rfl | hf
  · refine .inl ⟨rfl, (by show (1 : Int) ≤ 2; decide), (by show (2 : Int) ≤ 8; decide), Int.natCast_nonneg _, ?_⟩
    have := hg.ln
    show (xs.length : Int) < (65536 : Int)
    omega
  · obtain ⟨a, ha, hf⟩ := List.mem_flatMap.1 hf
    exact okF_2 (hg.rg a ha) f hf
theorem fl2_len (l : List (Int × Int)) : (l.flatMap fl2).length = 2 * l.length := by
  induction l with
  | nil => rfl
  | cons a l ih => rw [List.flatMap_cons, List.length_append, ih]; simp [fl2]; omega
/-! the reference's text -/
section
variable {xs : List (Int × Int)} {r o : List (List D)} {i : Nat} {j : Int}
def flBi (xs : List (Int × Int)) (i : Nat) : List Fl := ⟨0, 2, xs.length, []⟩ :: (xs.take i).flatMap fl2
theorem flBi_len (hg : gW xs) : (flBi xs i).length ≤ 9000 := by
  have := hg.ln
  rw [flBi, List.length_cons, fl2_len, List.length_take]
  omega
theorem ob_len (hg : gW xs) (ho : o = fR (flBi xs i)) : o.length ≤ 9000 := by
  rw [ho, fR_len]; exact flBi_len hg
theorem ob_0 (hg : gW xs) (hr : r = lnR xs) : [[.int .i64 0, .int .i64 2, .int .u64 (real.wrap .u64 (real.len r)), .str []]] = fR (flBi xs 0) := by
  subst hr
  have h2 := hg.ln
  have e : real.wrap .u64 (real.len (lnR xs)) = xs.length := by
    rw [show real.len (lnR xs) = ((lnR xs).length : Int) from rfl, lnR_len]
    exact wrap_u64 _ (by omega) (by omega)
  rw [e]
  rfl
theorem ob_step (hg : gW xs) (hr : r = lnR xs) (hj : j = i) (hb : real.cmp .lss j (real.len r) = true) (ho : o = fR (flBi xs i)) :
    real.app (real.app o [[.int .i64 0, .int .i64 2, .int .u64 (real.wrap .u64 (real.cI r j 0)), .str []]]) [[.int .i64 1, .int .i64 0, .int .u64 (real.wrap .u64 (real.cI r j 1)), .str []]] = fR (flBi xs (i + 1)) := by
  have hi := ln_lt hr hj hb
  subst hr
  rw [(ln_cI hj hi).1, (ln_cI hj hi).2]
  have h1 := hg.rg _ (List.getElem_mem hi)
  rw [show real.wrap .u64 xs[i].1 = xs[i].1 from wrap_u64 _ h1.1 (by omega), ho, flBi, flBi, take_snoc hi, List.flatMap_append]
  simp [real, fR, fl2, rowF]
end
theorem K_RTx0 (r : List (List D)) (xs : List (Int × Int)) (hr : r = lnR xs) (hg : gW xs) : CallE Try.prog 40 [.d (.imm r)] 0 [] (fun v n h => Nd (fun _ => Fin 0 (Gets fun v => v = .d (.str (bkB xs))) v n h)) := by
  refine call_fn tysOK orders (C := T2) T2_ok ⟨[((7, 1), [0])], [(1, 4)], 0⟩ Try.func40 (by kernel_rfl) (by kernel_rfl) ?_
  intro oBin oCmp oWrap oNeg oCom oBnot oBeq oPickB oPickI oPickS oInb oSub2 oMinI oMaxI oSlen oSidx oScat oSsub oScmp oScok oLen oCI oCB oCS oCL oOkR oApp oApok oSub oSetc oRep oMkok oNthI oNthB oNthS oIteI oIteB oIteS oB2s oS2b oAllB oWf oDeq oMlen oMhas oMI oMB oMS oMok oMput oMdel oSgo oSru oSnx ho; cbv
  (repeat (any_goals (first
    | with_reducible refine And.intro ?_ ?_
    | exact True.intro
    | with_reducible exact rfl
    | (with_reducible refine Nd.mk ?_; try dsimp only)
    | (with_reducible refine Nd0.mk ?_; try dsimp only)
    | (with_reducible refine Pz.mk ?_; cbv)
    | (with_reducible refine RgOK.mk ?_; kernel_rfl)
    | (with_reducible refine OrOK.mk ?_; kernel_rfl)
    | (with_reducible refine Al.mk (fun x hx => ?_); cbv)
    | (with_reducible refine hK' _ ?_; clear hK' K'; cbv)
    | (with_reducible refine brA.yes (by first | assumption | exact rfl | (simp only [show oCmp = real.cmp from congrArg Ar.cmp ho, show oBin = real.bin from congrArg Ar.bin ho, show oScmp = real.scmp from congrArg Ar.scmp ho, show oPickB = real.pickB from congrArg Ar.pickB ho, show oBnot = real.bnot from congrArg Ar.bnot ho]; decide)) ?_; cbv)
    | (with_reducible refine brA.no (by first | assumption | exact rfl | (simp only [show oCmp = real.cmp from congrArg Ar.cmp ho, show oBin = real.bin from congrArg Ar.bin ho, show oScmp = real.scmp from congrArg Ar.scmp ho, show oPickB = real.pickB from congrArg Ar.pickB ho, show oBnot = real.bnot from congrArg Ar.bnot ho]; decide)) ?_; cbv)
    | (with_reducible refine bcase (fun hb => ?_) (fun hb => ?_) <;> cbv)
    | (intro K' hK'; cbv))))
  refine ⟨fun st => ∃ (i : Nat) (j : Int) (o : List (List D)), j = i ∧ i ≤ xs.length ∧ o = fR (flBi xs i) ∧ st = ⟨mkF 44 0 [(0, .d (.imm r)), (3, .sl 0), (4, .d (.int .i64 j))], 1, [(0, .row 4 o)]⟩,
      fun st => ((xs.length : Int) - ctr 4 st).toNat, ⟨[], [], [0, 3, 4], [0], 1⟩, ?_, ?_, ?_⟩
  · cbv
  · cases ho
    exact ⟨0, 0, _, rfl, Nat.zero_le _, ob_0 hg hr, rfl⟩
  rintro st1 ⟨i, j, o, hj, hi, hs, rfl⟩
  cbv
  (repeat (any_goals (first
    | with_reducible refine And.intro ?_ ?_
    | exact True.intro
    | with_reducible exact rfl
    | (with_reducible refine Nd.mk ?_; try dsimp only)
    | (with_reducible refine Nd0.mk ?_; try dsimp only)
    | (with_reducible refine Pz.mk ?_; cbv)
    | (with_reducible refine RgOK.mk ?_; kernel_rfl)
    | (with_reducible refine OrOK.mk ?_; kernel_rfl)
    | (with_reducible refine Al.mk (fun x hx => ?_); cbv)
    | (with_reducible refine hK' _ ?_; clear hK' K'; cbv)
    | (with_reducible refine brA.yes (by first | assumption | exact rfl | (simp only [show oCmp = real.cmp from congrArg Ar.cmp ho, show oBin = real.bin from congrArg Ar.bin ho, show oScmp = real.scmp from congrArg Ar.scmp ho, show oPickB = real.pickB from congrArg Ar.pickB ho, show oBnot = real.bnot from congrArg Ar.bnot ho]; decide)) ?_; cbv)
    | (with_reducible refine brA.no (by first | assumption | exact rfl | (simp only [show oCmp = real.cmp from congrArg Ar.cmp ho, show oBin = real.bin from congrArg Ar.bin ho, show oScmp = real.scmp from congrArg Ar.scmp ho, show oPickB = real.pickB from congrArg Ar.pickB ho, show oBnot = real.bnot from congrArg Ar.bnot ho]; decide)) ?_; cbv)
    | (with_reducible refine bcase (fun hb => ?_) (fun hb => ?_) <;> cbv)
    | (intro K' hK'; cbv))))
  all_goals ((try clear hK' K'); cases ho; (try simp only [nc1] at *); (try simp only [Int.ofNat_eq_natCast] at *))
  all_goals have hln := hg.ln
  all_goals have hol := ob_len hg hs
  all_goals first
    | with_reducible exact inb_lt hj (by assumption)
    | with_reducible exact ln_wf hr
    | with_reducible exact ln_ok hr hj (by assumption)
    | with_reducible exact (ln_k hr hj (by assumption)).1
    | with_reducible exact (ln_k hr hj (by assumption)).2
    | exact apok4 (by omega)
    | exact apok4 (by rw [app_len]; omega)
    | (have h5 := ob_step hg hr hj ‹real.cmp .lss j (real.len r) = true› hs
       have h6 := ln_lt hr hj ‹real.cmp .lss j (real.len r) = true›
       exact ⟨⟨[], [(2, 0)], [0, 3, 4], [2], 1⟩, rfl, ⟨i + 1, real.bin .add .i64 j 1, _, addLL hj (by omega), by omega, h5, rfl⟩, mea hj h6 (by omega)⟩)
    | (have he := ln_end hr hj hi ‹real.cmp .lss j (real.len r) = false›
       rw [flBi, he, List.take_length] at hs
       first
       | exact ⟨flB xs, hs, by simp only [flB, List.length_cons, fl2_len]; omega, okF_B hg⟩
       | (have e := hx (flB xs) hs
          subst e
          exact fin_d rfl))
    | trace_state
def S_RTx (r : List (List D)) (K : CallK) (n : Nat) (h : Hp) : Prop := Nd (fun _ => ∃ xs, r = lnR xs ∧ gW xs) ∧ Al (fun s : List UInt8 => ∃ xs, r = lnR xs ∧ s = bkB xs) fun s => K (.d (.str s)) n h
theorem L_RTx {r : List (List D)} {n : Nat} {h : Hp} {K : CallK} (hK : S_RTx r K n h) : CallE Try.prog 40 [.d (.imm r)] n h K := by
  obtain ⟨⟨xs, hr, hg⟩, hk⟩ := hK
  exact call_data (CallE.fin (K_RTx0 r xs hr hg)) rfl (by rintro v rfl; exact hk.h _ ⟨xs, hr, rfl⟩)
/-! the writer's signed number -/
def W5 : CallS := fun f args n h K => match f with
  | 56 => (match args with | [.ptr i 0, .d (.int .u64 a), .d (.int .i64 k)] => S_WNum i a k K n h | [.d .nilp, .d (.int .u64 a), .d (.int .i64 k)] => S_WNumNil a k K n h | _ => False)
  | _ => False
theorem W5_ok : ∀ f args n h K, W5 f args n h K → CallE Try.prog f args n h K := by
  intro f args n h K hc
  unfold W5 at hc
  split at hc
  · split at hc
    · exact L_WNum hc
    · exact L_WNumNil hc
    · exact hc.elim
  · exact hc.elim
theorem sg_ok (a : Int) : nOk (real.wrap .u64 a) 8 := by
  have h := wrapu_bd a
  exact ⟨by decide, by decide, h.1, h.2⟩
theorem K_WSg0 (r : List (List D)) (a : Int) (hr : r.length ≤ 10000000) : CallE Try.prog 61 [.ptr 1 0, .d (.int .i64 a)] 2 [(0, .row 1 r), (1, .cells [.sl 0, .d (.bool false)])] (fun v n h => Nd (fun _ => Fin 2 (kP 1 (real.app r (real.s2b (BE (real.wrap .u64 a).toNat (Int.toNat 8))))) v n h)) := by
  refine call_fn tysOK orders (C := W5) W5_ok H0 Try.func61 (by kernel_rfl) (by kernel_rfl) ?_
  intro oBin oCmp oWrap oNeg oCom oBnot oBeq oPickB oPickI oPickS oInb oSub2 oMinI oMaxI oSlen oSidx oScat oSsub oScmp oScok oLen oCI oCB oCS oCL oOkR oApp oApok oSub oSetc oRep oMkok oNthI oNthB oNthS oIteI oIteB oIteS oB2s oS2b oAllB oWf oDeq oMlen oMhas oMI oMB oMS oMok oMput oMdel oSgo oSru oSnx ho; cbv
  (repeat (any_goals (first
    | with_reducible refine And.intro ?_ ?_
    | exact True.intro
    | with_reducible exact rfl
    | (with_reducible refine Nd.mk ?_; try dsimp only)
    | (with_reducible refine Nd0.mk ?_; try dsimp only)
    | (with_reducible refine Pz.mk ?_; cbv)
    | (with_reducible refine RgOK.mk ?_; kernel_rfl)
    | (with_reducible refine OrOK.mk ?_; kernel_rfl)
    | (with_reducible refine Al.mk (fun x hx => ?_); cbv)
    | (with_reducible refine hK' _ ?_; clear hK' K'; cbv)
    | (with_reducible refine brA.yes (by first | assumption | exact rfl | (simp only [show oCmp = real.cmp from congrArg Ar.cmp ho, show oBin = real.bin from congrArg Ar.bin ho, show oScmp = real.scmp from congrArg Ar.scmp ho, show oPickB = real.pickB from congrArg Ar.pickB ho, show oBnot = real.bnot from congrArg Ar.bnot ho]; decide)) ?_; cbv)
    | (with_reducible refine brA.no (by first | assumption | exact rfl | (simp only [show oCmp = real.cmp from congrArg Ar.cmp ho, show oBin = real.bin from congrArg Ar.bin ho, show oScmp = real.scmp from congrArg Ar.scmp ho, show oPickB = real.pickB from congrArg Ar.pickB ho, show oBnot = real.bnot from congrArg Ar.bnot ho]; decide)) ?_; cbv)
    | (with_reducible refine bcase (fun hb => ?_) (fun hb => ?_) <;> cbv)
    | (intro K' hK'; cbv))))
  all_goals ((try clear hK' K'); cases ho; (try simp only [nc1] at *); (try simp only [Int.ofNat_eq_natCast] at *))
  all_goals first
    | exact sg_ok _
    | exact hr
    | decide
    | (subst_vars; exact ⟨⟨[], [], [0], [1, 2], 3⟩, _, 3, _, rfl, rfl, rfl, rfl, rfl⟩)
    | trace_state
theorem K_WSgNil0 (a : Int) : CallE Try.prog 61 [.d .nilp, .d (.int .i64 a)] 0 [] (fun v n h => Nd (fun _ => Fin 0 (Gets fun v => v = .d .nilp) v n h)) := by
  refine call_fn tysOK orders (C := W5) W5_ok H0 Try.func61 (by kernel_rfl) (by kernel_rfl) ?_
  intro oBin oCmp oWrap oNeg oCom oBnot oBeq oPickB oPickI oPickS oInb oSub2 oMinI oMaxI oSlen oSidx oScat oSsub oScmp oScok oLen oCI oCB oCS oCL oOkR oApp oApok oSub oSetc oRep oMkok oNthI oNthB oNthS oIteI oIteB oIteS oB2s oS2b oAllB oWf oDeq oMlen oMhas oMI oMB oMS oMok oMput oMdel oSgo oSru oSnx ho; cbv
  (repeat (any_goals (first
    | with_reducible refine And.intro ?_ ?_
    | exact True.intro
    | with_reducible exact rfl
    | (with_reducible refine Nd.mk ?_; try dsimp only)
    | (with_reducible refine Nd0.mk ?_; try dsimp only)
    | (with_reducible refine Pz.mk ?_; cbv)
    | (with_reducible refine RgOK.mk ?_; kernel_rfl)
    | (with_reducible refine OrOK.mk ?_; kernel_rfl)
    | (with_reducible refine Al.mk (fun x hx => ?_); cbv)
    | (with_reducible refine hK' _ ?_; clear hK' K'; cbv)
    | (with_reducible refine brA.yes (by first | assumption | exact rfl | (simp only [show oCmp = real.cmp from congrArg Ar.cmp ho, show oBin = real.bin from congrArg Ar.bin ho, show oScmp = real.scmp from congrArg Ar.scmp ho, show oPickB = real.pickB from congrArg Ar.pickB ho, show oBnot = real.bnot from congrArg Ar.bnot ho]; decide)) ?_; cbv)
    | (with_reducible refine brA.no (by first | assumption | exact rfl | (simp only [show oCmp = real.cmp from congrArg Ar.cmp ho, show oBin = real.bin from congrArg Ar.bin ho, show oScmp = real.scmp from congrArg Ar.scmp ho, show oPickB = real.pickB from congrArg Ar.pickB ho, show oBnot = real.bnot from congrArg Ar.bnot ho]; decide)) ?_; cbv)
    | (with_reducible refine bcase (fun hb => ?_) (fun hb => ?_) <;> cbv)
    | (intro K' hK'; cbv))))
  all_goals ((try clear hK' K'); cases ho; (try simp only [nc1] at *); (try simp only [Int.ofNat_eq_natCast] at *))
  all_goals first
    | exact sg_ok _
    | exact ⟨⟨[], [], [0], [], 0⟩, _, 0, _, rfl, rfl, ⟨rfl⟩, rfl, rfl, rfl⟩
    | trace_state
def S_WSg (i : Nat) (a : Int) (K : CallK) (n : Nat) (h : Hp) : Prop := patW h i False
  fun j r => Nd (fun _ => i < n ∧ j < n ∧ i ≠ j ∧ r.length ≤ 10000000) ∧ Al (fun r' => r' = real.app r (real.s2b (BE (real.wrap .u64 a).toNat (Int.toNat 8)))) fun r' => wOut2 i j r' K n h
theorem L_WSg {i n : Nat} {a : Int} {h : Hp} {K : CallK} (hK : S_WSg i a K n h) : CallE Try.prog 61 [.ptr i 0, .d (.int .i64 a)] n h K := by
  rcases patW_elim hK with ⟨hg, hk⟩ | ⟨j, r, hg, hg2, ⟨⟨hi, hj, hij, hr⟩⟩, hk⟩
  · exact hk.elim
  · exact wrW_of (CallE.fin (K_WSg0 r a hr)) rfl hi hj hij hg hg2 (hk.h _ rfl)
def S_WSgNil (K : CallK) (n : Nat) (h : Hp) : Prop := K (.d .nilp) n h
theorem L_WSgNil {a : Int} {n : Nat} {h : Hp} {K : CallK} (hK : S_WSgNil K n h) : CallE Try.prog 61 [.d .nilp, .d (.int .i64 a)] n h K := call_data (CallE.fin (K_WSgNil0 a)) rfl (by rintro v rfl; exact hK)
/-! the books written -/
def W6 : CallS := fun f args n h K => match f with
  | 46 => (match args with | [.ptr i 0] => S_BList i K n h | _ => False)
  | 56 => (match args with | [.ptr i 0, .d (.int .u64 a), .d (.int .i64 k)] => S_WNum i a k K n h | [.d .nilp, .d (.int .u64 a), .d (.int .i64 k)] => S_WNumNil a k K n h | _ => False)
  | 61 => (match args with | [.ptr i 0, .d (.int .i64 a)] => S_WSg i a K n h | [.d .nilp, .d (.int .i64 _)] => S_WSgNil K n h | _ => False)
  | _ => False
theorem W6_ok : ∀ f args n h K, W6 f args n h K → CallE Try.prog f args n h K := by
  intro f args n h K hc
  unfold W6 at hc
  split at hc
  · split at hc
    · exact L_BList hc
    · exact hc.elim
  · split at hc
    · exact L_WNum hc
    · exact L_WNumNil hc
    · exact hc.elim
  · split at hc
    · exact L_WSg hc
    · exact L_WSgNil hc
    · exact hc.elim
  · exact hc.elim
def kBW (m : ML) (xs : List (Int × Int)) : CallK := fun v n h => v = .tup [] ∧ n = 4 ∧ ∃ r, r = real.s2b (bkB xs) ∧ h = [(0, .mp .i64 m), (1, .cells [.map 0]), (2, .cells [.sl 3, .d (.bool false)]), (3, .row 1 r)]
def boF (xs : List (Int × Int)) (i : Nat) : List UInt8 := bysF (flBi xs i)
section
variable {m : ML} {xs : List (Int × Int)} {i : Nat} {j : Int} {o x1 x2 R : List (List D)}
theorem bo_len (hg : gW xs) (i : Nat) : (boF xs i).length ≤ 2400000 := by
  have h : ∀ f ∈ flBi xs i, okF f := by
    intro f hf
    refine okF_B hg f ?_
    rcases List.mem_cons.1 hf with rfl | hf
    · exact List.mem_cons_self ..
    · obtain ⟨a, ha, hf⟩ := List.mem_flatMap.1 hf
      exact List.mem_cons_of_mem _ (List.mem_flatMap.2 ⟨a, List.mem_of_mem_take ha, hf⟩)
  have h1 := bysF_len h
  have h2 := flBi_len (i := i) hg
  show (bysF _).length ≤ _
  omega
theorem bo_all (xs : List (Int × Int)) : boF xs xs.length = bkB xs := by
  unfold boF bkB flB flBi
  rw [List.take_length]
theorem bo_w (hg : gW xs) (hR : R = lnR xs) : real.wrap .u64 (real.len R) = xs.length := by
  subst hR
  have h2 := hg.ln
  rw [show real.len (lnR xs) = ((lnR xs).length : Int) from rfl, lnR_len]
  exact wrap_u64 _ (by omega) (by omega)
theorem bo_n (hg : gW xs) (hR : R = lnR xs) : nOk (real.wrap .u64 (real.len R)) 2 := by
  have h2 := hg.ln
  rw [bo_w hg hR]
  exact ⟨by decide, by decide, by omega, by show (xs.length : Int) < (65536 : Int); omega⟩
theorem bo_0 (hg : gW xs) (hR : R = lnR xs) : real.app [] (real.s2b (BE (real.wrap .u64 (real.len R)).toNat (Int.toNat 2))) = real.s2b (boF xs 0) := by
  rw [bo_w hg hR]
  show real.s2b _ = _
  simp [boF, flBi, bysF, byF]
theorem bo_k (hg : gW xs) (hR : R = lnR xs) (hj : j = i) (hb : real.cmp .lss j (real.len R) = true) : nOk (real.wrap .u64 (real.cI [[.int .i64 (real.cI R j 0), .int .i64 (real.cI R j 1)]] 0 0)) 2 := by
  have hi := ln_lt hR hj hb
  subst hR
  have h1 := hg.rg _ (List.getElem_mem hi)
  show nOk (real.wrap .u64 (real.cI (lnR xs) j 0)) 2
  rw [(ln_cI hj hi).1, show real.wrap .u64 xs[i].1 = xs[i].1 from wrap_u64 _ h1.1 (by omega)]
  exact ⟨by decide, by decide, by omega, by show xs[i].1 < (65536 : Int); omega⟩
theorem bo_1 (hg : gW xs) (hR : R = lnR xs) (hj : j = i) (hb : real.cmp .lss j (real.len R) = true) (ho : o = real.s2b (boF xs i)) (h1 : x1 = real.app o (real.s2b (BE (real.wrap .u64 (real.cI [[.int .i64 (real.cI R j 0), .int .i64 (real.cI R j 1)]] 0 0)).toNat (Int.toNat 2))))
    (h2 : x2 = real.app x1 (real.s2b (BE (real.wrap .u64 (real.cI [[.int .i64 (real.cI R j 0), .int .i64 (real.cI R j 1)]] 0 1)).toNat (Int.toNat 8)))) : x2 = real.s2b (boF xs (i + 1)) := by
  have hi := ln_lt hR hj hb
  subst hR
  have h3 := hg.rg _ (List.getElem_mem hi)
  have e0 : real.cI [[.int .i64 (real.cI (lnR xs) j 0), .int .i64 (real.cI (lnR xs) j 1)]] 0 0 = xs[i].1 := (ln_cI hj hi).1
  have e1 : real.cI [[.int .i64 (real.cI (lnR xs) j 0), .int .i64 (real.cI (lnR xs) j 1)]] 0 1 = xs[i].2 := (ln_cI hj hi).2
  rw [e0, show real.wrap .u64 xs[i].1 = xs[i].1 from wrap_u64 _ h3.1 (by omega)] at h1
  rw [e1] at h2
  rw [h2, h1, ho, app_s2b, app_s2b]
  congr 1
  rw [boF, boF, flBi, flBi, take_snoc hi, List.flatMap_append, ← List.cons_append, bysF, bysF, List.flatMap_append]
  simp [fl2, byF]
theorem bo_ln (hg : gW xs) (ho : o = real.s2b (boF xs i)) : o.length ≤ 2400000 := by
  rw [ho, s2b_len]; exact bo_len hg i
theorem bo_ln1 (hg : gW xs) (ho : o = real.s2b (boF xs i)) {a k : Int} (hk : nOk a k) (h1 : x1 = real.app o (real.s2b (BE a.toNat k.toNat))) : x1.length ≤ 10000000 := by
  have h2 := bo_ln hg ho
  have h3 := be_le hk rfl
  obtain ⟨h4, h5, -, -⟩ := hk
  rw [h1]
  show (o ++ _).length ≤ _
  rw [List.length_append, s2b_len, BE_len _ _ (by omega)]
  omega
end
theorem K_BWr0 (m : ML) (hm : gB m) (xs : List (Int × Int)) (hx : BL m xs) (hg : gW xs) : CallE Try.prog 39 [.ptr 1 0, .ptr 2 0] 3 [(0, .mp .i64 m), (1, .cells [.map 0]), (2, .cells [.d .nilsl, .d (.bool false)])] (fun v n h => Nd (fun _ => Fin 3 (kBW m xs) v n h)) := by
  refine call_fn tysOK orders (C := W6) W6_ok ⟨[((2, 0), [3]), ((6, 0), [4, 5])], [], 0⟩ Try.func39 (by kernel_rfl) (by kernel_rfl) ?_
  intro oBin oCmp oWrap oNeg oCom oBnot oBeq oPickB oPickI oPickS oInb oSub2 oMinI oMaxI oSlen oSidx oScat oSsub oScmp oScok oLen oCI oCB oCS oCL oOkR oApp oApok oSub oSetc oRep oMkok oNthI oNthB oNthS oIteI oIteB oIteS oB2s oS2b oAllB oWf oDeq oMlen oMhas oMI oMB oMS oMok oMput oMdel oSgo oSru oSnx ho; cbv
  (repeat (any_goals (first
    | with_reducible refine And.intro ?_ ?_
    | exact True.intro
    | with_reducible exact rfl
    | (with_reducible refine Nd.mk ?_; try dsimp only)
    | (with_reducible refine Nd0.mk ?_; try dsimp only)
    | (with_reducible refine Pz.mk ?_; cbv)
    | (with_reducible refine RgOK.mk ?_; kernel_rfl)
    | (with_reducible refine OrOK.mk ?_; kernel_rfl)
    | (with_reducible refine Al.mk (fun x hx => ?_); cbv)
    | (with_reducible refine hK' _ ?_; clear hK' K'; cbv)
    | (with_reducible refine brA.yes (by first | assumption | exact rfl | (simp only [show oCmp = real.cmp from congrArg Ar.cmp ho, show oBin = real.bin from congrArg Ar.bin ho, show oScmp = real.scmp from congrArg Ar.scmp ho, show oPickB = real.pickB from congrArg Ar.pickB ho, show oBnot = real.bnot from congrArg Ar.bnot ho]; decide)) ?_; cbv)
    | (with_reducible refine brA.no (by first | assumption | exact rfl | (simp only [show oCmp = real.cmp from congrArg Ar.cmp ho, show oBin = real.bin from congrArg Ar.bin ho, show oScmp = real.scmp from congrArg Ar.scmp ho, show oPickB = real.pickB from congrArg Ar.pickB ho, show oBnot = real.bnot from congrArg Ar.bnot ho]; decide)) ?_; cbv)
    | (with_reducible refine bcase (fun hb => ?_) (fun hb => ?_) <;> cbv)
    | (intro K' hK'; cbv))))
  · exact hm
  · omega
  · cases ho
    obtain ⟨ys, h1, hy⟩ := hx
    obtain rfl := hy.uniq hm hm ‹BL m xs› (fun _ => rfl)
    exact bo_n hg h1
  rename_i R hRx
  have hR : R = lnR xs := by
    obtain ⟨ys, h1, hy⟩ := hRx
    obtain rfl := hy.uniq hm hm ‹BL m xs› (fun _ => rfl)
    exact h1
  clear hRx
  refine ⟨fun st => ∃ (i : Nat) (j : Int) (o : List (List D)), j = i ∧ i ≤ xs.length ∧ o = real.s2b (boF xs i) ∧ st = ⟨mkF 31 0 [(1, .ptr 2 0), (16, .d (.imm R)), (17, .d (.int .i64 (oLen R))), (18, .d (.int .i64 j))], 4, [(0, .mp .i64 m), (1, .cells [.map 0]), (2, .cells [.sl 3, .d (.bool false)]), (3, .row 1 o)]⟩,
    fun st => ((xs.length : Int) - ctr 18 st).toNat, ⟨[], [(4, 3)], [1, 16, 17, 18], [0, 1, 2, 4], 4⟩, ?_, ?_, ?_⟩
  · cbv
  · cases ho
    exact ⟨0, 0, _, rfl, Nat.zero_le _, hx.trans (bo_0 hg hR), rfl⟩
  clear hx
  rintro st1 ⟨i, j, o, hj, hi, hs, rfl⟩
  cbv
  (repeat (any_goals (first
    | with_reducible refine And.intro ?_ ?_
    | exact True.intro
    | with_reducible exact rfl
    | (with_reducible refine Nd.mk ?_; try dsimp only)
    | (with_reducible refine Nd0.mk ?_; try dsimp only)
    | (with_reducible refine Pz.mk ?_; cbv)
    | (with_reducible refine RgOK.mk ?_; kernel_rfl)
    | (with_reducible refine OrOK.mk ?_; kernel_rfl)
    | (with_reducible refine Al.mk (fun x hx => ?_); cbv)
    | (with_reducible refine hK' _ ?_; clear hK' K'; cbv)
    | (with_reducible refine brA.yes (by first | assumption | exact rfl | (simp only [show oCmp = real.cmp from congrArg Ar.cmp ho, show oBin = real.bin from congrArg Ar.bin ho, show oScmp = real.scmp from congrArg Ar.scmp ho, show oPickB = real.pickB from congrArg Ar.pickB ho, show oBnot = real.bnot from congrArg Ar.bnot ho]; decide)) ?_; cbv)
    | (with_reducible refine brA.no (by first | assumption | exact rfl | (simp only [show oCmp = real.cmp from congrArg Ar.cmp ho, show oBin = real.bin from congrArg Ar.bin ho, show oScmp = real.scmp from congrArg Ar.scmp ho, show oPickB = real.pickB from congrArg Ar.pickB ho, show oBnot = real.bnot from congrArg Ar.bnot ho]; decide)) ?_; cbv)
    | (with_reducible refine bcase (fun hb => ?_) (fun hb => ?_) <;> cbv)
    | (intro K' hK'; cbv))))
  all_goals ((try clear hK' K'); cases ho; (try simp only [nc1] at *); (try simp only [Int.ofNat_eq_natCast] at *))
  all_goals have hln := hg.ln
  all_goals first
    | omega
    | decide
    | with_reducible exact inb_lt hj (by assumption)
    | with_reducible exact ln_wf hR
    | with_reducible exact ln_ok hR hj (by assumption)
    | with_reducible exact row1_ok _ _
    | with_reducible exact row1_ok1 _ _
    | exact bo_k hg hR hj (by assumption)
    | exact Nat.le_trans (bo_ln hg hs) (by decide)
    | exact bo_ln1 hg hs (bo_k hg hR hj (by assumption)) (by assumption)
    | (rename_i h1
       have h5 := bo_1 hg hR hj ‹real.cmp .lss j (real.len R) = true› hs hx h1
       have h6 := ln_lt hR hj ‹real.cmp .lss j (real.len R) = true›
       exact ⟨⟨[], [(6, 3)], [1, 16, 17, 18], [0, 1, 2, 6], 4⟩, rfl, ⟨i + 1, real.bin .add .i64 j 1, _, addLL hj (by omega), by omega, h5, rfl⟩, mea hj h6 (by omega)⟩)
    | (have he := ln_end hR hj hi ‹real.cmp .lss j (real.len R) = false›
       subst he
       rw [bo_all] at hs
       exact ⟨⟨[], [], [0], [0, 1, 2, 3], 4⟩, _, 4, _, rfl, rfl, rfl, rfl, o, hs, rfl⟩)
    | trace_state
def S_BWr (i w : Nat) (K : CallK) (n : Nat) (h : Hp) : Prop := pat2 h i fun j m => match hget h w with
  | some (.cells [.d .nilsl, .d (.bool false)]) => Nd (fun _ => i < n ∧ j < n ∧ w < n ∧ i ≠ j ∧ i ≠ w ∧ j ≠ w ∧ gB m ∧ ∃ xs, BL m xs ∧ gW xs) ∧
      Al (fun r => ∃ xs, BL m xs ∧ gW xs ∧ r = real.s2b (bkB xs)) fun r => K (.tup []) (n + 1) (outs (thr3 i j w) 3 h ++ [(j, .mp .i64 m), (i, .cells [.map j]), (w, .cells [.sl n, .d (.bool false)]), (n, .row 1 r)])
  | _ => False
theorem L_BWr {i w n : Nat} {h : Hp} {K : CallK} (hK : S_BWr i w K n h) : CallE Try.prog 39 [.ptr i 0, .ptr w 0] n h K := by
  obtain ⟨j, m, hg, hg2, hk⟩ := pat2_elim hK
  split at hk
  case h_2 => exact hk.elim
  rename_i hg3
  obtain ⟨⟨hi, hj, hw, hij, hiw, hjw, hm0, xs, hm, hx⟩, hk⟩ := hk
  refine call_frame (g := thr3 i j w) (CallE.fin (K_BWr0 m hm0 xs hm hx)) rfl rfl (fun a b ha hb e => ?_) (fun a ha => ?_) ?_ ?_ ?_
  · have h1 : a = 0 ∨ a = 1 ∨ a = 2 := by omega
    have h2 : b = 0 ∨ b = 1 ∨ b = 2 := by omega
    have e0 : thr3 i j w 0 = j := rfl
    have e1 : thr3 i j w 1 = i := rfl
    have e2 : thr3 i j w 2 = w := rfl
    rcases h1 with rfl | rfl | rfl <;> rcases h2 with rfl | rfl | rfl <;> simp only [e0, e1, e2] at e <;> omega
  · have h1 : a = 0 ∨ a = 1 ∨ a = 2 := by omega
    rcases h1 with rfl | rfl | rfl
    · exact hj
    · exact hi
    · exact hw
  · intro a o hm'
    simp only [List.mem_cons, Prod.mk.injEq, List.not_mem_nil, or_false] at hm'
    rcases hm' with ⟨rfl, rfl⟩ | ⟨rfl, rfl⟩ | ⟨rfl, rfl⟩
    · exact ⟨hget_mem hg2, fun j hj => by cases hj⟩
    · exact ⟨hget_mem hg, fun j hj => by simp [idsO, idsVs, idsV] at hj; omega⟩
    · exact ⟨hget_mem hg3, fun j hj => by simp [idsO, idsVs, idsV] at hj⟩
  · intro j hj
    rw [show idsVs [.ptr 1 0, .ptr 2 0] = [1, 2] from rfl] at hj
    simp at hj
    omega
  · rintro v n1 h1 - ⟨rfl, rfl, r, hr, rfl⟩
    have e0 : lift (thr3 i j w) 3 n 0 = j := by simp [lift]; rfl
    have e1 : lift (thr3 i j w) 3 n 1 = i := by simp [lift]; rfl
    have e2 : lift (thr3 i j w) 3 n 2 = w := by simp [lift]; rfl
    have e3 : lift (thr3 i j w) 3 n 3 = n := by simp [lift]; rfl
    simp only [renH, renV, renO, renVs, e0, e1, e2, e3]
    exact hk.h r ⟨xs, hm, hx, hr⟩
theorem K_BWrNil0 (m : ML) (hm : gB m) (xs : List (Int × Int)) (hx : BL m xs) (hg : gW xs) : CallE Try.prog 39 [.ptr 1 0, .d .nilp] 2 [(0, .mp .i64 m), (1, .cells [.map 0])] (fun v n h => Nd (fun _ => Fin 2 (fun v n h => v = .tup [] ∧ n = 2 ∧ h = [(0, .mp .i64 m), (1, .cells [.map 0])]) v n h)) := by
  refine call_fn tysOK orders (C := W6) W6_ok ⟨[((2, 0), [2]), ((6, 0), [2, 3])], [], 0⟩ Try.func39 (by kernel_rfl) (by kernel_rfl) ?_
  intro oBin oCmp oWrap oNeg oCom oBnot oBeq oPickB oPickI oPickS oInb oSub2 oMinI oMaxI oSlen oSidx oScat oSsub oScmp oScok oLen oCI oCB oCS oCL oOkR oApp oApok oSub oSetc oRep oMkok oNthI oNthB oNthS oIteI oIteB oIteS oB2s oS2b oAllB oWf oDeq oMlen oMhas oMI oMB oMS oMok oMput oMdel oSgo oSru oSnx ho; cbv
  (repeat (any_goals (first
    | with_reducible refine And.intro ?_ ?_
    | exact True.intro
    | with_reducible exact rfl
    | (with_reducible refine Nd.mk ?_; try dsimp only)
    | (with_reducible refine Nd0.mk ?_; try dsimp only)
    | (with_reducible refine Pz.mk ?_; cbv)
    | (with_reducible refine RgOK.mk ?_; kernel_rfl)
    | (with_reducible refine OrOK.mk ?_; kernel_rfl)
    | (with_reducible refine Al.mk (fun x hx => ?_); cbv)
    | (with_reducible refine hK' _ ?_; clear hK' K'; cbv)
    | (with_reducible refine brA.yes (by first | assumption | exact rfl | (simp only [show oCmp = real.cmp from congrArg Ar.cmp ho, show oBin = real.bin from congrArg Ar.bin ho, show oScmp = real.scmp from congrArg Ar.scmp ho, show oPickB = real.pickB from congrArg Ar.pickB ho, show oBnot = real.bnot from congrArg Ar.bnot ho]; decide)) ?_; cbv)
    | (with_reducible refine brA.no (by first | assumption | exact rfl | (simp only [show oCmp = real.cmp from congrArg Ar.cmp ho, show oBin = real.bin from congrArg Ar.bin ho, show oScmp = real.scmp from congrArg Ar.scmp ho, show oPickB = real.pickB from congrArg Ar.pickB ho, show oBnot = real.bnot from congrArg Ar.bnot ho]; decide)) ?_; cbv)
    | (with_reducible refine bcase (fun hb => ?_) (fun hb => ?_) <;> cbv)
    | (intro K' hK'; cbv))))
  · exact hm
  · cases ho
    obtain ⟨ys, h1, hy⟩ := hx
    obtain rfl := hy.uniq hm hm ‹BL m xs› (fun _ => rfl)
    exact bo_n hg h1
  have hR : x = lnR xs := by
    obtain ⟨ys, h1, hy⟩ := hx
    obtain rfl := hy.uniq hm hm ‹BL m xs› (fun _ => rfl)
    exact h1
  clear hx
  refine ⟨fun st => ∃ (i : Nat) (j : Int), j = i ∧ i ≤ xs.length ∧ st = ⟨mkF 31 0 [(1, .d .nilp), (16, .d (.imm x)), (17, .d (.int .i64 (oLen x))), (18, .d (.int .i64 j))], 2, [(0, .mp .i64 m), (1, .cells [.map 0])]⟩,
    fun st => ((xs.length : Int) - ctr 18 st).toNat, ⟨[], [], [1, 16, 17, 18], [0, 1], 2⟩, ?_, ?_, ?_⟩
  · cbv
  · exact ⟨0, 0, rfl, Nat.zero_le _, rfl⟩
  rintro st1 ⟨i, j, hj, hi, rfl⟩
  cbv
  (repeat (any_goals (first
    | with_reducible refine And.intro ?_ ?_
    | exact True.intro
    | with_reducible exact rfl
    | (with_reducible refine Nd.mk ?_; try dsimp only)
    | (with_reducible refine Nd0.mk ?_; try dsimp only)
    | (with_reducible refine Pz.mk ?_; cbv)
    | (with_reducible refine RgOK.mk ?_; kernel_rfl)
    | (with_reducible refine OrOK.mk ?_; kernel_rfl)
    | (with_reducible refine Al.mk (fun x hx => ?_); cbv)
    | (with_reducible refine hK' _ ?_; clear hK' K'; cbv)
    | (with_reducible refine brA.yes (by first | assumption | exact rfl | (simp only [show oCmp = real.cmp from congrArg Ar.cmp ho, show oBin = real.bin from congrArg Ar.bin ho, show oScmp = real.scmp from congrArg Ar.scmp ho, show oPickB = real.pickB from congrArg Ar.pickB ho, show oBnot = real.bnot from congrArg Ar.bnot ho]; decide)) ?_; cbv)
    | (with_reducible refine brA.no (by first | assumption | exact rfl | (simp only [show oCmp = real.cmp from congrArg Ar.cmp ho, show oBin = real.bin from congrArg Ar.bin ho, show oScmp = real.scmp from congrArg Ar.scmp ho, show oPickB = real.pickB from congrArg Ar.pickB ho, show oBnot = real.bnot from congrArg Ar.bnot ho]; decide)) ?_; cbv)
    | (with_reducible refine bcase (fun hb => ?_) (fun hb => ?_) <;> cbv)
    | (intro K' hK'; cbv))))
  all_goals ((try clear hK' K'); cases ho; (try simp only [nc1] at *); (try simp only [Int.ofNat_eq_natCast] at *))
  all_goals have hln := hg.ln
  all_goals first
    | omega
    | decide
    | with_reducible exact inb_lt hj (by assumption)
    | with_reducible exact ln_wf hR
    | with_reducible exact ln_ok hR hj (by assumption)
    | with_reducible exact row1_ok _ _
    | with_reducible exact row1_ok1 _ _
    | exact bo_k hg hR hj (by assumption)
    | (have h6 := ln_lt hR hj ‹real.cmp .lss j (real.len x) = true›
       exact ⟨⟨[], [], [1, 16, 17, 18], [0, 1], 2⟩, rfl, ⟨i + 1, real.bin .add .i64 j 1, addLL hj (by omega), by omega, rfl⟩, mea hj h6 (by omega)⟩)
    | exact ⟨⟨[], [], [0], [0, 1], 2⟩, _, 2, _, rfl, rfl, rfl, rfl, rfl⟩
    | trace_state
def S_BWrNil (i : Nat) (K : CallK) (n : Nat) (h : Hp) : Prop := pat2 h i fun j m => Nd (fun _ => i < n ∧ j < n ∧ i ≠ j ∧ gB m ∧ ∃ xs, BL m xs ∧ gW xs) ∧ K (.tup []) n (out2 i j h m)
theorem L_BWrNil {i n : Nat} {h : Hp} {K : CallK} (hK : S_BWrNil i K n h) : CallE Try.prog 39 [.ptr i 0, .d .nilp] n h K := by
  obtain ⟨j, m, hg, hg2, ⟨⟨hi, hj, hij, hm0, xs, hm, hx⟩⟩, hk⟩ := pat2_elim hK
  refine call_recv2 (CallE.fin (K_BWrNil0 m hm0 xs hm hx)) rfl hi hj hij hg hg2 ?_
  rintro v n1 h1 ⟨rfl, rfl, rfl⟩ -
  exact hk
end Go.Proofs.Yteakfibolfapiaa.Ab
end
