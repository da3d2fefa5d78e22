/- cents.Parse. -/
import Derived.Test.YtieoipmbcdfmeaaDoorTrPu03
namespace Go.Proofs.YtieoipmbcdfmeaaDoor.Ab
open Go Go.RowKit Go.Sort
set_option linter.unusedVariables false
set_option linter.unusedSimpArgs false
set_option maxRecDepth 100000
set_option maxHeartbeats 4000000
/-- An older contract, one value of several. -/
theorem call_old2 {P : Program} {n : Nat} {h : Hp} {f : Nat} {fn : Func} {args : List AV} {vals : List Value} {av : AV} {R : Value → Prop} {K : CallK} (hf : P.funcs[f]? = some fn) (hn : (fn.name == "runtime.NumGoroutine") = false) (hb : fn.body.isNone = false)
    (ha : ∀ ρ w M vs, RelVs ρ w M args vs → vs = vals) (hv : ∀ ρ w M v, R v → RelV ρ w M av v) (hc : ∀ w, J w → Calls P f vals.toArray w fun e w' => ∃ v, e = .returned v ∧ R v ∧ Below w.heap.size w w') (hK : K av n h) : CallE P f args n h K := by
  refine .enter fn hf hn hb (fun ρ w vs hr hvs => ?_)
  obtain rfl := ha _ _ _ _ hvs
  refine Calls.mono (hc w hr.old.inv) ?_
  rintro e w' ⟨v, rfl, hR, hb⟩
  have hg : Grows w w' := fun b o hbo => by rw [hb.block b (lt_of_get hbo)]; exact hbo
  exact ⟨v, rfl, av, ρ, n, h, hK, hr.grow hg, Nat.le_refl _, hv _ _ _ _ hR, goes_grow hg hb.os hb.tape hb.output hb.size⟩
def S_ParseUint (s : List UInt8) (K : CallK) (n : Nat) (h : Hp) : Prop :=
  Nd (fun _ => s.length ≤ 281474976710656) ∧ Al (fun u => ∃ m : Nat, u = (m : Int) ∧ Lib.parseUintB 64 s = .ok m) (fun u => K (.tup [.d (.int .u64 u), .d .nili]) n h) ∧
  Al (fun u : Int => (u = 0 ∨ u = 18446744073709551615) ∧ ∀ m, Lib.parseUintB 64 s ≠ .ok m) (fun u => K (.tup [.d (.int .u64 u), .ifc 139 .top]) n h)
theorem K_ParseUint {s : List UInt8} {n : Nat} {h : Hp} {K : CallK} (hK : S_ParseUint s K n h) : CallE Tryd.prog 39 [.d (.str s), .d (.int .i64 10), .d (.int .i64 64)] n h K := by
  obtain ⟨⟨hl⟩, ⟨h1⟩, ⟨h2⟩⟩ := hK
  have hsz : (ByteArray.mk s.toArray).size = s.length := by simp [ByteArray.size]
  have arg : ∀ ρ w M vs, RelVs ρ w M [.d (.str s), .d (.int .i64 10), .d (.int .i64 64)] vs → vs = [.string ⟨s.toArray⟩, .int .i64 10, .int .i64 64] := by intro ρ w M vs h; simpa [RelVs, RelV, RelD] using h
  cases hp : Lib.parseUintB 64 s
  · rename_i m
    exact call_old (v := .tuple #[.int .u64 m, .nilIface]) Tryd.func39 (by kernel_rfl) (by kernel_rfl) arg (by intro ρ w M; simp [RelVs, RelV, RelD]) (fun w _ => (Tryd.strconv_ParseUint_10_at64_ok ⟨s.toArray⟩ (by omega) m hp w).mono (by
      rintro e w' ⟨rfl, rfl | rfl⟩
      · exact ⟨rfl, Below.refl _ _⟩
      · exact ⟨rfl, Lib.bytesWorld_below _ _ _⟩)) (h1 m ⟨m, rfl, hp⟩)
  · refine call_old2 (R := fun v => ∃ N : Nat, v = .tuple #[.int .u64 0, .iface 139 (.pointer (some ⟨N, 0, none⟩))]) Tryd.func39 (by kernel_rfl) (by kernel_rfl) arg (by rintro ρ w M v ⟨N, rfl⟩; simp [RelVs, RelV, RelD]; exact ⟨_, _, ⟨rfl, rfl⟩, rfl, _, rfl, _, rfl⟩) (fun w hJ => ?_) (h2 0 ⟨.inl rfl, fun m e => by rw [hp] at e; cases e⟩)
    obtain ⟨⟨ev, hev, hi⟩, -⟩ := J_cells hJ
    refine Calls.mono (Any.strconv_ParseUint_10_at64_syntax Tryd.laysPu14 ⟨s.toArray⟩ (by omega) hp ev w hev hi) ?_
    rintro e w' ⟨N, rfl, -, -, hb⟩
    exact ⟨_, rfl, ⟨N, rfl⟩, hb⟩
  · refine call_old2 (R := fun v => ∃ N : Nat, v = .tuple #[.int .u64 18446744073709551615, .iface 139 (.pointer (some ⟨N, 0, none⟩))]) Tryd.func39 (by kernel_rfl) (by kernel_rfl) arg (by rintro ρ w M v ⟨N, rfl⟩; simp [RelVs, RelV, RelD]; exact ⟨_, _, ⟨rfl, rfl⟩, rfl, _, rfl, _, rfl⟩) (fun w hJ => ?_) (h2 18446744073709551615 ⟨.inr rfl, fun m e => by rw [hp] at e; cases e⟩)
    obtain ⟨-, ev, hev, hi⟩ := J_cells hJ
    refine (Tryd.strconv_ParseUint_10_at64_range ⟨s.toArray⟩ (by omega) hp ev w hev hi).mono ?_
    rintro e w' ⟨N, rfl, -, -, hb⟩
    exact ⟨_, rfl, ⟨N, rfl⟩, hb⟩
/-! strings' own names -/
def S_cutL (s : List UInt8) (c : UInt8) (K : CallK) (n : Nat) (h : Hp) : Prop := Nd (fun _ => s.length ≤ 281474976710656) ∧ S_cut s c K n h
theorem K_cutL {s : List UInt8} {c : UInt8} {n : Nat} {h : Hp} {K : CallK} (hK : S_cutL s c K n h) : CallE Tryd.prog 55 [.d (.str s), .d (.str [c])] n h K := by
  obtain ⟨⟨hl⟩, hK⟩ := hK
  exact K_cut hl (index_lt _ _) hK
def C37 : CallS := fun f args n h K => match f with
  | 55 => (match args with | [.d (.str s), .d (.str [c])] => S_cutL s c K n h | _ => False)
  | _ => False
theorem C37_ok : ∀ f args n h K, C37 f args n h K → CallE Tryd.prog f args n h K := by
  intro f args n h K hc
  unfold C37 at hc
  split at hc
  · split at hc
    · exact K_cutL hc
    · exact hc.elim
  · exact hc.elim
theorem K_Cut0 (s : List UInt8) (c : UInt8) (hs : s.length ≤ 281474976710656) : CallE Tryd.prog 37 [.d (.str s), .d (.str [c])] 0 [] (Gets fun v => v = .tup [.d (.str (cutA s (Lib.indexByte s c))), .d (.str (cutB s (Lib.indexByte s c))), .d (.bool (decide (0 ≤ Lib.indexByte s c)))]) := by
  refine call_fn tysOK orders (C := C37) C37_ok H0 Tryd.func37 (by kernel_rfl) (by kernel_rfl) ?_
  intro oBin oCmp oWrap oNeg oCom oBnot oBeq oPickB oPickI oPickS oInb oSub2 oMinI oMaxI oSlen oSidx oScat oSsub oScmp oScok oLen oCI oCB oCS oCL oOkR oApp oApok oSub oSetc oRep oMkok oNthI oNthB oNthS oIteI oIteB oIteS oB2s oS2b oAllB oWf oDeq ho; cbv
  (repeat (any_goals (first
    | with_reducible refine And.intro ?_ ?_
    | exact True.intro
    | with_reducible exact rfl
    | (with_reducible refine Nd.mk ?_; try dsimp only)
    | (with_reducible refine Al.mk (fun x hx => ?_); cbv)
    | (with_reducible refine hK' _ ?_; clear hK' K'; cbv)
    | (with_reducible refine brA.yes (by first | assumption | exact rfl | (simp only [show oCmp = real.cmp from congrArg Ar.cmp ho, show oBin = real.bin from congrArg Ar.bin ho, show oScmp = real.scmp from congrArg Ar.scmp ho, show oPickB = real.pickB from congrArg Ar.pickB ho]; decide)) ?_; cbv)
    | (with_reducible refine brA.no (by first | assumption | exact rfl | (simp only [show oCmp = real.cmp from congrArg Ar.cmp ho, show oBin = real.bin from congrArg Ar.bin ho, show oScmp = real.scmp from congrArg Ar.scmp ho, show oPickB = real.pickB from congrArg Ar.pickB ho]; decide)) ?_; cbv)
    | (with_reducible refine bcase (fun hb => ?_) (fun hb => ?_) <;> cbv)
    | (intro K' hK'; cbv))))
  · exact hs
  · subst_vars; rfl
theorem K_Cut {s : List UInt8} {c : UInt8} {n : Nat} {h : Hp} {K : CallK} (hK : S_cutL s c K n h) : CallE Tryd.prog 37 [.d (.str s), .d (.str [c])] n h K :=
  call_data (K_Cut0 s c hK.1.h) rfl (by rintro v rfl; exact ((hK.2.h _ rfl).h _ rfl).h _ rfl)

/-! Parse -/
def S_TrimPrefix (s p : List UInt8) (K : CallK) (n : Nat) (h : Hp) : Prop := Al (fun x => x = Lib.trimPrefix s p) fun x => K (.d (.str x)) n h
theorem K_TrimPrefix1 {s p : List UInt8} {n : Nat} {h : Hp} {K : CallK} (hK : S_TrimPrefix s p K n h) : CallE Tryd.prog 38 [.d (.str s), .d (.str p)] n h K := K_TrimPrefix s p (hK.h _ rfl)
def S_HasPrefix (s p : List UInt8) (K : CallK) (n : Nat) (h : Hp) : Prop := Al (fun x => x = Lib.hasPrefix s p) fun x => K (.d (.bool x)) n h
theorem K_HasPrefix1 {s p : List UInt8} {n : Nat} {h : Hp} {K : CallK} (hK : S_HasPrefix s p K n h) : CallE Tryd.prog 40 [.d (.str s), .d (.str p)] n h K := K_HasPrefix s p (hK.h _ rfl)
def S_Text (c : Int) (K : CallK) (n : Nat) (h : Hp) : Prop := Nd (fun _ => I64 c) ∧ Al (fun x => x = T03 c) fun x => K (.d (.str x)) n h
theorem K_Text1 {c : Int} {n : Nat} {h : Hp} {K : CallK} (hK : S_Text c K n h) : CallE Tryd.prog 13 [.d (.int .i64 c)] n h K := K_Text c hK.1.h (hK.2.h _ rfl)
theorem K_RText1 {c : Int} {n : Nat} {h : Hp} {K : CallK} (hK : S_Text c K n h) : CallE Tryd.prog 16 [.d (.int .i64 c)] n h K := K_RText c hK.1.h (hK.2.h _ rfl)
def C14 : CallS := fun f args n h K => match f with
  | 38 => (match args with | [.d (.str s), .d (.str p)] => S_TrimPrefix s p K n h | _ => False)
  | 37 => (match args with | [.d (.str s), .d (.str [c])] => S_cutL s c K n h | _ => False)
  | 39 => (match args with | [.d (.str s), .d (.int .i64 10), .d (.int .i64 64)] => S_ParseUint s K n h | _ => False)
  | 40 => (match args with | [.d (.str s), .d (.str p)] => S_HasPrefix s p K n h | _ => False)
  | 13 => (match args with | [.d (.int .i64 c)] => S_Text c K n h | _ => False)
  | _ => False
theorem C14_ok : ∀ f args n h K, C14 f args n h K → CallE Tryd.prog f args n h K := by
  intro f args n h K hc
  unfold C14 at hc
  split at hc
  · split at hc
    · exact K_TrimPrefix1 hc
    · exact hc.elim
  · split at hc
    · exact K_Cut hc
    · exact hc.elim
  · split at hc
    · exact K_ParseUint hc
    · exact hc.elim
  · split at hc
    · exact K_HasPrefix1 hc
    · exact hc.elim
  · split at hc
    · exact K_Text1 hc
    · exact hc.elim
  · exact hc.elim
/-- What an amount's text is read as: the amount, or an error. -/
def parsed (s : List UInt8) (v : AV) : Prop := (∃ c, I64 c ∧ T03 c = s ∧ v = .tup [.d (.int .i64 c), .d (.int .i64 0)]) ∨ ((∀ c, I64 c → T03 c ≠ s) ∧ v = .tup [.d (.int .i64 0), .d (.int .i64 4)])
theorem wrap_I64 (x : Int) : I64 (IntKind.i64.wrap x) := by
  unfold I64
  simp only [IntKind.wrap, IntKind.bits, IntKind.signed]
  simp
  omega
theorem trim_len (s p : List UInt8) : (Lib.trimPrefix s p).length ≤ s.length := by
  unfold Lib.trimPrefix
  split <;> simp
theorem cut_len (s : List UInt8) (j : Int) : (cutA s j).length + (cutB s j).length ≤ s.length := by
  unfold cutA cutB
  by_cases h : 0 ≤ j <;> simp [h]
  omega
theorem rd_yes {s : List UInt8} {m : Nat} (h : rdU s = .ok m) {c : Int} (hc : I64 c) (e : T03 c = s) : m = c.natAbs ∧ Lib.hasPrefix s [45] = decide (c < 0) := by
  subst e
  rw [rdU_T03 c hc] at h
  injection h with h
  exact ⟨h.symm, (T03_pre c).1⟩
theorem neg_of {m : Nat} {c : Int} (hc : I64 c) (h : m = c.natAbs) (hn : c < 0) : IntKind.i64.wrap (IntKind.u64.wrap (0 - (m : Int))) = c := by
  unfold I64 at hc
  simp only [IntKind.wrap, IntKind.bits, IntKind.signed]
  simp
  omega
theorem pos_of {m : Nat} {c : Int} (hc : I64 c) (h : m = c.natAbs) (hn : ¬ c < 0) : IntKind.i64.wrap (m : Int) = c := by
  unfold I64 at hc
  rw [wrap_i64 _ (by omega) (by omega)]
  omega
theorem scmp_ne {x y : List UInt8} (h : rScmp .neq x y = true) : x ≠ y := by
  intro e
  subst e
  simp [rScmp] at h
theorem scmp_eq {x y : List UInt8} (h : rScmp .neq x y = false) : x = y := by
  simpa [rScmp] using h
theorem fin1 {s : List UInt8} {u : Int} (hx : ∃ m : Nat, u = m ∧ rdU s = .ok m) (hp : Lib.hasPrefix s [45] = true) (hb : rScmp .neq (T03 (IntKind.i64.wrap (IntKind.u64.wrap (0 - u)))) s = true) : parsed s (.tup [.d (.int .i64 0), .d (.int .i64 4)]) := by
  refine .inr ⟨fun c hc e => ?_, rfl⟩
  obtain ⟨m, rfl, hm⟩ := hx
  obtain ⟨h1, h2⟩ := rd_yes hm hc e
  rw [hp] at h2
  rw [neg_of hc h1 (by simpa using h2.symm)] at hb
  exact scmp_ne hb e
theorem fin2 {s : List UInt8} {u : Int} (hb : rScmp .neq (T03 (IntKind.i64.wrap u)) s = false) : parsed s (.tup [.d (.int .i64 (IntKind.i64.wrap u)), .d (.int .i64 0)]) :=
  .inl ⟨_, wrap_I64 _, scmp_eq hb, rfl⟩
theorem fin3 {s : List UInt8} {u : Int} (hx : ∃ m : Nat, u = m ∧ rdU s = .ok m) (hp : Lib.hasPrefix s [45] = false) (hb : rScmp .neq (T03 (IntKind.i64.wrap u)) s = true) : parsed s (.tup [.d (.int .i64 0), .d (.int .i64 4)]) := by
  refine .inr ⟨fun c hc e => ?_, rfl⟩
  obtain ⟨m, rfl, hm⟩ := hx
  obtain ⟨h1, h2⟩ := rd_yes hm hc e
  rw [hp] at h2
  rw [pos_of hc h1 (by simpa using h2.symm)] at hb
  exact scmp_ne hb e
theorem fin5 {s : List UInt8} {p : Prop} (hx : p ∧ ∀ m, ¬ rdU s = .ok m) : parsed s (.tup [.d (.int .i64 0), .d (.int .i64 4)]) := by
  refine .inr ⟨fun c hc e => ?_, rfl⟩
  subst e
  exact hx.2 _ (rdU_T03 c hc)
theorem K_Parse0 (s : List UInt8) (hs : s.length ≤ 281474976710656) : CallE Tryd.prog 14 [.d (.str s)] 0 [] (Gets (parsed s)) := by
  have hl := trim_len s [45]
  refine call_fn tysOK orders (C := C14) C14_ok H0 Tryd.func14 (by kernel_rfl) (by kernel_rfl) ?_
  intro oBin oCmp oWrap oNeg oCom oBnot oBeq oPickB oPickI oPickS oInb oSub2 oMinI oMaxI oSlen oSidx oScat oSsub oScmp oScok oLen oCI oCB oCS oCL oOkR oApp oApok oSub oSetc oRep oMkok oNthI oNthB oNthS oIteI oIteB oIteS oB2s oS2b oAllB oWf oDeq ho; cbv
  (repeat (any_goals (first
    | with_reducible refine And.intro ?_ ?_
    | exact True.intro
    | with_reducible exact rfl
    | (with_reducible refine Nd.mk ?_; try dsimp only)
    | (with_reducible refine Al.mk (fun x hx => ?_); cbv)
    | (with_reducible refine hK' _ ?_; clear hK' K'; cbv)
    | (with_reducible refine brA.yes (by first | assumption | exact rfl | (simp only [show oCmp = real.cmp from congrArg Ar.cmp ho, show oBin = real.bin from congrArg Ar.bin ho, show oScmp = real.scmp from congrArg Ar.scmp ho, show oPickB = real.pickB from congrArg Ar.pickB ho]; decide)) ?_; cbv)
    | (with_reducible refine brA.no (by first | assumption | exact rfl | (simp only [show oCmp = real.cmp from congrArg Ar.cmp ho, show oBin = real.bin from congrArg Ar.bin ho, show oScmp = real.scmp from congrArg Ar.scmp ho, show oPickB = real.pickB from congrArg Ar.pickB ho]; decide)) ?_; cbv)
    | (with_reducible refine bcase (fun hb => ?_) (fun hb => ?_) <;> cbv)
    | (intro K' hK'; cbv))))
  all_goals ((try clear hK' K'); cases ho; (try simp only [real, rBin, rCmp, Op.intArith, decide_eq_true_eq, decide_eq_false_iff_not, ge_iff_le, gt_iff_lt, Bool.cond_true, Bool.cond_false, beq_iff_eq, beq_eq_false_iff_ne, bne_iff_ne, bne_eq_false_iff_eq, ne_eq, Bool.not_eq_true, Bool.false_eq_true, Bool.true_eq_false, not_true_eq_false, not_false_eq_true] at *); (try simp only [nc1] at *); (try simp only [Int.ofNat_eq_natCast] at *))
  all_goals (try subst_vars)
  all_goals (try contradiction)
  all_goals first
    | exact wrap_I64 _
    | omega
    | (have := cut_len (Lib.trimPrefix s [45]) (Lib.indexByte (Lib.trimPrefix s [45]) 46); (try rw [List.length_append]); omega)
    | exact fin2 (by assumption)
    | exact fin5 (by assumption)
    | exact fin1 (by assumption) (by first | assumption | (symm; assumption)) (by assumption)
    | exact fin3 (by assumption) (by first | assumption | (symm; assumption)) (by assumption)
    | trace_state
theorem K_Parse {s : List UInt8} {n : Nat} {h : Hp} {K : CallK} (hs : s.length ≤ 281474976710656) (hK : ∀ v, parsed s v → K v n h) : CallE Tryd.prog 14 [.d (.str s)] n h K :=
  call_data (K_Parse0 s hs) rfl hK
end Go.Proofs.YtieoipmbcdfmeaaDoor.Ab
