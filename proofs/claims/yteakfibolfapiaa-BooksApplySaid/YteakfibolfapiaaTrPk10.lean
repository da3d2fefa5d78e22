/- Several texts in one: Ch1, AmP, Bk1. -/
import Derived.Test.YteakfibolfapiaaTrPk9
import Derived.Test.YteakfibolfapiaaShelf
section
namespace Go.Proofs.Yteakfibolfapiaa.Ab
open Go Go.RowKit Go.Sort
set_option linter.unusedVariables false
set_option linter.unusedSimpArgs false
set_option maxRecDepth 100000
set_option maxHeartbeats 4000000
def I64 (x : Int) : Prop := -9223372036854775808 ≤ x ∧ x ≤ 9223372036854775807
theorem toTop {f n : Nat} {h : Hp} {args : List AV} {K : CallK} (hc : CallE Try.prog f args n h fun _ n h => K .top n h) : CallE Try.prog f args n h K :=
  hc.weaken fun v n h hk => ⟨.top, hk, fun _ _ _ _ _ => trivial⟩
/-- A result, and what a caller may forget. -/
def Fin (n0 : Nat) (K : CallK) (v : AV) (n : Nat) (h : Hp) : Prop := ∃ (k : Wk) (v2 : AV) (n2 : Nat) (h2 : Hp), wkOK n0 k ⟨[v], n, h⟩ = true ∧ wk k ⟨[v], n, h⟩ = ⟨[v2], n2, h2⟩ ∧ K v2 n2 h2
theorem CallE.fin {P : Program} {f n : Nat} {h : Hp} {args : List AV} {K : CallK} (hc : CallE P f args n h (fun v n' h' => Nd (fun _ => Fin n K v n' h'))) : CallE P f args n h K := by
  have key : ∀ {ρ w v w'}, Done (fun v n' h' => Nd (fun _ => Fin n K v n' h')) n ρ h w v w' → Done K n ρ h w v w' := by
    rintro ρ w v w' ⟨av, ρ', n', h', ⟨k, v2, n2, h2, h1, h3, h4⟩, hr, hn, hv, hg⟩
    obtain ⟨ρ2, r2, g2, g3⟩ := wk_sound (n0 := n) (k := k) (st := ⟨[av], n', h'⟩) (a := ⟨#[v], []⟩) ⟨rfl, ⟨v, [], rfl, hv, rfl⟩, hr⟩ hn h1
    rw [h3] at r2 g2 g3
    obtain ⟨x, r, hx, hx2, -⟩ := r2.fr
    simp only [List.cons.injEq] at hx
    obtain ⟨rfl, -⟩ := hx
    exact ⟨v2, ρ2, n2, h2, h4, r2.rep, g2, hx2, hg.trans g3⟩
  cases hc with
  | enter fn hf hn hb run =>
    refine .enter fn hf hn hb (fun ρ w vs hr ha => Calls.mono (run ρ w vs hr ha) ?_)
    rintro e w' ⟨v, rfl, hd⟩
    exact ⟨v, rfl, key hd⟩
  | ext run =>
    refine .ext (fun ρ w vs hr ha => ?_)
    obtain ⟨v, w', h1, h2⟩ := run ρ w vs hr ha
    exact ⟨v, w', h1, key h2⟩
abbrev ML := List (Int × Value)
/-- A chart's object, and its map. -/
def pat2 (h : Hp) (i : Nat) (p : Nat → ML → Prop) : Prop := match hget h i with
  | some (.cells [.map j]) => (match hget h j with | some (.mp .i64 m) => p j m | _ => False)
  | _ => False
theorem pat2_elim {h : Hp} {i : Nat} {p : Nat → ML → Prop} (hp : pat2 h i p) : ∃ j m, hget h i = some (.cells [.map j]) ∧ hget h j = some (.mp .i64 m) ∧ p j m := by
  unfold pat2 at hp
  split at hp
  · rename_i j h1
    split at hp
    · rename_i m h2
      exact ⟨j, m, h1, h2, hp⟩
    · exact hp.elim
  · exact hp.elim
def two (i j : Nat) (x : Nat) : Nat := bif x == 0 then j else i
def out2 (i j : Nat) (h : Hp) (m : ML) : Hp := outs (two i j) 2 h ++ [(j, .mp .i64 m), (i, .cells [.map j])]
theorem call_recv2 {f i j n : Nat} {m : ML} {h : Hp} {rest : List AV} {K0 K : CallK} (hc : CallE Try.prog f (.ptr 1 0 :: rest) 2 [(0, .mp .i64 m), (1, .cells [.map 0])] K0) (hr : idsVs rest = []) (hi : i < n) (hj : j < n) (hij : i ≠ j) (hg : hget h i = some (.cells [.map j])) (hg2 : hget h j = some (.mp .i64 m))
    (hK : ∀ v n1 h1, K0 v n1 h1 → 2 ≤ n1 → K (renV (lift (two i j) 2 n) v) (n + (n1 - 2)) (outs (two i j) 2 h ++ renH (lift (two i j) 2 n) h1)) : CallE Try.prog f (.ptr i 0 :: rest) n h K := by
  refine call_frame (g := two i j) hc ?_ rfl (fun a b ha hb e => ?_) (fun a ha => ?_) ?_ ?_ (fun v n1 h1 hn h2 => hK v n1 h1 h2 hn)
  · simp only [renVs, renV]
    rw [renVs_none rest hr]
    rfl
  · have h1 : a = 0 ∨ a = 1 := by omega
    have h2 : b = 0 ∨ b = 1 := by omega
    rcases h1 with rfl | rfl <;> rcases h2 with rfl | rfl <;> first | rfl | exact absurd e (fun e => hij (by simp [two] at e; omega))
  · have h1 : a = 0 ∨ a = 1 := by omega
    rcases h1 with rfl | rfl
    · exact hj
    · exact hi
  · intro a o hm
    simp only [List.mem_cons, Prod.mk.injEq, List.not_mem_nil, or_false] at hm
    rcases hm with ⟨rfl, rfl⟩ | ⟨rfl, rfl⟩
    · exact ⟨hget_mem hg2, fun j hj => by cases hj⟩
    · exact ⟨hget_mem hg, fun j hj => by simp [idsO, idsVs, idsV] at hj; omega⟩
  · intro j hj
    rw [show idsVs (.ptr 1 0 :: rest) = [1] ++ idsVs rest from rfl, hr] at hj
    simp at hj
    omega
/-! New -/
theorem K_New0 : CallE Try.prog 8 [] 0 [] (fun v n h => Nd (fun _ => v = .ptr 1 0 ∧ n = 2 ∧ h = [(0, .mp .i64 []), (1, .cells [.map 0])])) := by
  refine call_fn tysOK orders (C := C0) C0_ok H0 Try.func8 (by kernel_rfl) (by kernel_rfl) ?_
  intro oBin oCmp oWrap oNeg oCom oBnot oBeq oPickB oPickI oPickS oInb oSub2 oMinI oMaxI oSlen oSidx oScat oSsub oScmp oScok oLen oCI oCB oCS oCL oOkR oApp oApok oSub oSetc oRep oMkok oNthI oNthB oNthS oIteI oIteB oIteS oB2s oS2b oAllB oWf oDeq oMlen oMhas oMI oMB oMS oMok oMput oMdel oSgo oSru oSnx ho; cbv
  (repeat (any_goals (first
    | with_reducible refine And.intro ?_ ?_
    | exact True.intro
    | with_reducible exact rfl
    | (with_reducible refine Nd.mk ?_; try dsimp only)
    | (with_reducible refine Nd0.mk ?_; try dsimp only)
    | (with_reducible refine Pz.mk ?_; cbv)
    | (with_reducible refine RgOK.mk ?_; kernel_rfl)
    | (with_reducible refine OrOK.mk ?_; kernel_rfl)
    | (with_reducible refine Al.mk (fun x hx => ?_); cbv)
    | (with_reducible refine hK' _ ?_; clear hK' K'; cbv)
    | (with_reducible refine brA.yes (by first | assumption | exact rfl | (simp only [show oCmp = real.cmp from congrArg Ar.cmp ho, show oBin = real.bin from congrArg Ar.bin ho, show oScmp = real.scmp from congrArg Ar.scmp ho, show oPickB = real.pickB from congrArg Ar.pickB ho]; decide)) ?_; cbv)
    | (with_reducible refine brA.no (by first | assumption | exact rfl | (simp only [show oCmp = real.cmp from congrArg Ar.cmp ho, show oBin = real.bin from congrArg Ar.bin ho, show oScmp = real.scmp from congrArg Ar.scmp ho, show oPickB = real.pickB from congrArg Ar.pickB ho]; decide)) ?_; cbv)
    | (with_reducible refine bcase (fun hb => ?_) (fun hb => ?_) <;> cbv)
    | (intro K' hK'; cbv))))
  all_goals ((try clear hK' K'); cases ho; (try simp only [nc1] at *); (try simp only [Int.ofNat_eq_natCast] at *))
  all_goals first
    | exact ⟨rfl, rfl, rfl⟩
    | trace_state
/-! Right -/
def okB (b : UInt8) : Bool := decide (32 ≤ b.toNat ∧ b.toNat ≤ 126)
def rightN (s : List UInt8) : Bool := decide (1 ≤ s.length ∧ s.length ≤ 24) && s.all okB
def rightB (c k : Int) (s : List UInt8) : Bool := decide (1 ≤ c ∧ c ≤ 65535) && decide (1 ≤ k ∧ k ≤ 5) && rightN s
/-! runes -/
theorem dec_lo (s : ByteArray) (i : Nat) (h : (s.get! i).toNat < 128) : Utf8.decode s i = ((s.get! i).toNat, 1) := by
  unfold Utf8.decode
  simp only [Nat.add_zero, h, if_true]
theorem dec_hi (s : ByteArray) (i : Nat) (h : ¬ (s.get! i).toNat < 128) : 128 ≤ (Utf8.decode s i).1 := by
  unfold Utf8.decode
  simp only [Nat.add_zero, h, if_false]
  split
  · split
    · assumption
    · decide
  · split
    · split
      · rename_i h1
        simp only [Bool.and_eq_true, decide_eq_true_eq] at h1
        dsimp only
        omega
      · decide
    · split
      · split
        · rename_i h1
          simp only [Bool.and_eq_true, decide_eq_true_eq] at h1
          dsimp only
          omega
        · decide
      · decide
theorem get_b (s : List UInt8) (q : Nat) : (ByteArray.mk s.toArray).get! q = s.getD q 0 := by
  show s.toArray[q]! = _
  rw [List.getD_eq_getElem?_getD]
  simp [Array.getElem!_eq_getD, Array.getD_eq_getD_getElem?]
  rfl
theorem sgo_lt {s : List UInt8} {p : Int} {q : Nat} (hp : p = q) (h : real.sgo s p = true) : q < s.length := by
  subst hp
  simpa [real] using h
theorem sgo_end {s : List UInt8} {p : Int} {q : Nat} (hp : p = q) (h : real.sgo s p = false) : s.length ≤ q := by
  subst hp
  simpa [real] using h
theorem bad_at {s : List UInt8} {q : Nat} (hq : q < s.length) (h : okB (s.getD q 0) = false) : rightN s = false := by
  unfold rightN
  rw [Bool.and_eq_false_iff]
  right
  rw [Bool.eq_false_iff]
  intro ha
  rw [List.all_eq_true] at ha
  have := ha (s.getD q 0) (by rw [List.getD_eq_getElem?_getD, List.getElem?_eq_getElem hq]; exact List.getElem_mem _)
  rw [h] at this
  cases this
theorem sru_lt {s : List UInt8} {p : Int} {q : Nat} (hp : p = q) (h : real.sgo s p = true) (hb : real.sru s p < 32) : rightN s = false := by
  have hq := sgo_lt hp h
  subst hp
  refine bad_at hq ?_
  simp only [real, Int.toNat_natCast] at hb
  by_cases h1 : ((ByteArray.mk s.toArray).get! q).toNat < 128
  · rw [dec_lo _ _ h1, get_b] at hb
    simp only [okB, decide_eq_false_iff_not]
    dsimp only at hb
    omega
  · have := dec_hi _ _ h1
    omega
theorem sru_gt {s : List UInt8} {p : Int} {q : Nat} (hp : p = q) (h : real.sgo s p = true) (hb : 126 < real.sru s p) : rightN s = false := by
  have hq := sgo_lt hp h
  subst hp
  refine bad_at hq ?_
  simp only [real, Int.toNat_natCast] at hb
  by_cases h1 : ((ByteArray.mk s.toArray).get! q).toNat < 128
  · rw [dec_lo _ _ h1, get_b] at hb
    simp only [okB, decide_eq_false_iff_not]
    dsimp only at hb
    omega
  · rw [get_b] at h1
    simp only [okB, decide_eq_false_iff_not]
    omega
theorem sru_ok {s : List UInt8} {p : Int} {q : Nat} (hp : p = q) (h : real.sgo s p = true) (h0 : 32 ≤ real.sru s p) (h2 : real.sru s p ≤ 126) (ha : (s.take q).all okB = true) : real.snx s p = ((q + 1 : Nat) : Int) ∧ (s.take (q + 1)).all okB = true := by
  have hq := sgo_lt hp h
  subst hp
  simp only [real, Int.toNat_natCast] at h0 h2 ⊢
  by_cases h1 : ((ByteArray.mk s.toArray).get! q).toNat < 128
  · rw [dec_lo _ _ h1] at h0 h2 ⊢
    refine ⟨rfl, ?_⟩
    rw [get_b] at h0 h2
    dsimp only at h0 h2
    rw [List.take_add_one, List.all_append, ha, List.getElem?_eq_getElem hq]
    rw [List.getD_eq_getElem?_getD, List.getElem?_eq_getElem hq] at h0 h2
    simp only [Option.getD_some] at h0 h2
    simp [okB]
    omega
  · have := dec_hi _ _ h1
    omega
def sitp (i : Nat) (st : St) : Int := match hget st.h i with | some (.sit _ p) => p | _ => 0
theorem pkf (b : Bool) : real.pickB false true b = b := rfl
theorem lssI (a b : Int) : real.cmp .lss a b = decide (a < b) := rfl
theorem gtrI (a b : Int) : real.cmp .gtr a b = decide (a > b) := rfl
theorem fin_b {b r : Bool} (h : b = r) : Fin 0 (Gets fun v => v = AV.d (.bool r)) (.d (.bool b)) 0 [] := ⟨⟨[], [], [0], [], 0⟩, _, 0, _, rfl, rfl, ⟨show AV.d (.bool b) = .d (.bool r) by rw [h]⟩, rfl, rfl, rfl⟩
theorem rb_code {c k : Int} {s : List UInt8} (h : c < 1 ∨ c > 65535) : false = rightB c k s := by
  have : ¬ (1 ≤ c ∧ c ≤ 65535) := by omega
  simp [rightB, this]
theorem rb_kind {c k : Int} {s : List UInt8} (h : k < 1 ∨ k > 5) : false = rightB c k s := by
  have : ¬ (1 ≤ k ∧ k ≤ 5) := by omega
  simp [rightB, this]
theorem rb_name {c k : Int} {s : List UInt8} (h : rightN s = false) : false = rightB c k s := by simp [rightB, h]
theorem rn_nil {s : List UInt8} (h : real.scmp .eql s [] = true) : rightN s = false := by
  have : s = [] := by simpa [real, rScmp] using h
  subst this; rfl
theorem rn_long {s : List UInt8} (h : real.slen s > 24) : rightN s = false := by
  have h : (s.length : Int) > 24 := h
  have : ¬ (1 ≤ s.length ∧ s.length ≤ 24) := by omega
  simp only [rightN, this, decide_false, Bool.false_and]
theorem rb_yes {c k p : Int} {s : List UInt8} {q : Nat} (h1 : ¬ c < 1) (h2 : ¬ c > 65535) (h3 : ¬ k < 1) (h4 : ¬ k > 5) (h5 : real.scmp .eql s [] = false) (h6 : ¬ real.slen s > 24) (hp : p = q) (hg : real.sgo s p = false) (ha : (s.take q).all okB = true) : true = rightB c k s := by
  have hl := sgo_end hp hg
  rw [List.take_of_length_le hl] at ha
  have h6 : ¬ (s.length : Int) > 24 := h6
  have h7 : s ≠ [] := by
    intro e
    subst e
    cases h5
  have h8 : 1 ≤ s.length := List.length_pos_iff.2 h7
  have e1 : (1 ≤ c ∧ c ≤ 65535) := by omega
  have e2 : (1 ≤ k ∧ k ≤ 5) := by omega
  have e3 : (1 ≤ s.length ∧ s.length ≤ 24) := by omega
  simp only [rightB, rightN, e1, e2, e3, ha, decide_true, and_self, Bool.and_self]
theorem K_Right0 (c k : Int) (s : List UInt8) : CallE Try.prog 27 [.d (.agg [.int .i64 c, .int .u8 k, .str s])] 0 [] (fun v n h => Nd (fun _ => Fin 0 (Gets fun v => v = .d (.bool (rightB c k s))) v n h)) := by
  refine call_fn tysOK orders (C := C0) C0_ok H0 Try.func27 (by kernel_rfl) (by kernel_rfl) ?_
  intro oBin oCmp oWrap oNeg oCom oBnot oBeq oPickB oPickI oPickS oInb oSub2 oMinI oMaxI oSlen oSidx oScat oSsub oScmp oScok oLen oCI oCB oCS oCL oOkR oApp oApok oSub oSetc oRep oMkok oNthI oNthB oNthS oIteI oIteB oIteS oB2s oS2b oAllB oWf oDeq oMlen oMhas oMI oMB oMS oMok oMput oMdel oSgo oSru oSnx ho; cbv
  (repeat (any_goals (first
    | with_reducible refine And.intro ?_ ?_
    | exact True.intro
    | with_reducible exact rfl
    | (with_reducible refine Nd.mk ?_; try dsimp only)
    | (with_reducible refine Nd0.mk ?_; try dsimp only)
    | (with_reducible refine Pz.mk ?_; cbv)
    | (with_reducible refine RgOK.mk ?_; kernel_rfl)
    | (with_reducible refine OrOK.mk ?_; kernel_rfl)
    | (with_reducible refine Al.mk (fun x hx => ?_); cbv)
    | (with_reducible refine hK' _ ?_; clear hK' K'; cbv)
    | (with_reducible refine brA.yes (by first | assumption | exact rfl | (simp only [show oCmp = real.cmp from congrArg Ar.cmp ho, show oBin = real.bin from congrArg Ar.bin ho, show oScmp = real.scmp from congrArg Ar.scmp ho, show oPickB = real.pickB from congrArg Ar.pickB ho]; decide)) ?_; cbv)
    | (with_reducible refine brA.no (by first | assumption | exact rfl | (simp only [show oCmp = real.cmp from congrArg Ar.cmp ho, show oBin = real.bin from congrArg Ar.bin ho, show oScmp = real.scmp from congrArg Ar.scmp ho, show oPickB = real.pickB from congrArg Ar.pickB ho]; decide)) ?_; cbv)
    | (with_reducible refine bcase (fun hb => ?_) (fun hb => ?_) <;> cbv)
    | (intro K' hK'; cbv))))
  any_goals (refine ⟨fun st => ∃ (q : Nat) (p : Int), p = q ∧ q ≤ s.length ∧ (s.take q).all okB = true ∧ st = ⟨mkF 46 0 [(36, .iter 1)], 2, [(1, .sit s p)]⟩, fun st => ((s.length : Int) - sitp 1 st).toNat, ⟨[], [], [36], [1], 2⟩, ?_, ?_, ?_⟩
             · cbv
             · exact ⟨0, 0, rfl, Nat.zero_le _, rfl, rfl⟩
             rintro st1 ⟨q, p, hp, hq, ha, rfl⟩
             cbv
             (repeat (any_goals (first
    | with_reducible refine And.intro ?_ ?_
    | exact True.intro
    | with_reducible exact rfl
    | (with_reducible refine Nd.mk ?_; try dsimp only)
    | (with_reducible refine Nd0.mk ?_; try dsimp only)
    | (with_reducible refine Pz.mk ?_; cbv)
    | (with_reducible refine RgOK.mk ?_; kernel_rfl)
    | (with_reducible refine OrOK.mk ?_; kernel_rfl)
    | (with_reducible refine Al.mk (fun x hx => ?_); cbv)
    | (with_reducible refine hK' _ ?_; clear hK' K'; cbv)
    | (with_reducible refine brA.yes (by first | assumption | exact rfl | (simp only [show oCmp = real.cmp from congrArg Ar.cmp ho, show oBin = real.bin from congrArg Ar.bin ho, show oScmp = real.scmp from congrArg Ar.scmp ho, show oPickB = real.pickB from congrArg Ar.pickB ho]; decide)) ?_; cbv)
    | (with_reducible refine brA.no (by first | assumption | exact rfl | (simp only [show oCmp = real.cmp from congrArg Ar.cmp ho, show oBin = real.bin from congrArg Ar.bin ho, show oScmp = real.scmp from congrArg Ar.scmp ho, show oPickB = real.pickB from congrArg Ar.pickB ho]; decide)) ?_; cbv)
    | (with_reducible refine bcase (fun hb => ?_) (fun hb => ?_) <;> cbv)
    | (intro K' hK'; cbv)))))
  all_goals ((try clear hK' K'); cases ho; (try simp only [nc1] at *); (try simp only [Int.ofNat_eq_natCast] at *))
  all_goals (try simp only [pkf, lssI, gtrI, decide_eq_true_eq, decide_eq_false_iff_not] at *)
  all_goals first
    | exact fin_b (rb_code (.inl (by assumption)))
    | exact fin_b (rb_code (.inr (by assumption)))
    | exact fin_b (rb_kind (.inl (by assumption)))
    | exact fin_b (rb_kind (.inr (by assumption)))
    | with_reducible exact fin_b (rb_name (rn_nil (by assumption)))
    | with_reducible exact fin_b (rb_name (sru_lt hp (by assumption) (by assumption)))
    | with_reducible exact fin_b (rb_name (sru_gt hp (by assumption) (by assumption)))
    | with_reducible exact fin_b (rb_name (rn_long (by assumption)))
    | with_reducible exact fin_b (rb_yes (by assumption) (by assumption) (by assumption) (by assumption) (by assumption) (by assumption) hp (by assumption) ha)
    | (have hgo : real.sgo s p = true := by assumption
       have hlt := sgo_lt hp hgo
       obtain ⟨h1, h2⟩ := sru_ok hp hgo (by omega) (by omega) ha
       refine ⟨⟨[], [], [36], [1], 2⟩, rfl, ⟨q + 1, real.snx s p, h1, by omega, h2, rfl⟩, ?_⟩
       show ((s.length : Int) - real.snx s p).toNat < ((s.length : Int) - p).toNat
       rw [h1]; omega)
    | trace_state
def S_New (K : CallK) (n : Nat) (h : Hp) : Prop := K (.ptr (n + 1) 0) (n + 2) (h ++ [(n, .mp .i64 []), (n + 1, .cells [.map n])])
theorem L_New {n : Nat} {h : Hp} {K : CallK} (hK : S_New K n h) : CallE Try.prog 8 [] n h K := by
  refine call_frame (g := fun i => i) K_New0 rfl rfl (fun i j hi => absurd hi (Nat.not_lt_zero _)) (fun i hi => absurd hi (Nat.not_lt_zero _)) (fun i o hm => by cases hm) (by intro j hj; cases hj) ?_
  rintro v n1 h1 - ⟨⟨rfl, rfl, rfl⟩⟩
  rw [outs_zero]
  have e : n + (2 - 0) = n + 2 := rfl
  have e0 : lift (fun i => i) 0 n 0 = n := by simp [lift]; rfl
  have e1 : lift (fun i => i) 0 n 1 = n + 1 := by simp [lift]; rfl
  simp only [renH, renV, renO, renVs, e0, e1, e]
  exact hK
def S_Right (c k : Int) (s : List UInt8) (K : CallK) (n : Nat) (h : Hp) : Prop := Al (fun b => b = rightB c k s) fun b => K (.d (.bool b)) n h
theorem L_Right {c k : Int} {s : List UInt8} {n : Nat} {h : Hp} {K : CallK} (hK : S_Right c k s K n h) : CallE Try.prog 27 [.d (.agg [.int .i64 c, .int .u8 k, .str s])] n h K :=
  call_data (CallE.fin (K_Right0 c k s)) rfl (by rintro v rfl; exact hK.h _ rfl)
/-! Clone -/
def S_Cl (s : List UInt8) (K : CallK) (n : Nat) (h : Hp) : Prop := Nd (fun _ => s.length ≤ 281474976710656) ∧ K (.d (.str s)) n h
theorem L_slClone {s : List UInt8} {n : Nat} {h : Hp} {K : CallK} (hK : S_Cl s K n h) : CallE Try.prog 62 [.d (.str s)] n h K :=
  call_old (v := .string ⟨s.toArray⟩) Try.func62 (by kernel_rfl) (by kernel_rfl) (vals := [.string ⟨s.toArray⟩]) (by intro ρ w M vs h; simpa [RelVs, RelV, RelD] using h) (by intro ρ w M; simp [RelV, RelD]) (fun w hJ => Try.stringslite_Clone ⟨s.toArray⟩ w (by have := hK.1.h; simpa [ByteArray.size] using this)) hK.2
def C1 : CallS := fun f args n h K => match f with
  | 62 => (match args with | [.d (.str s)] => S_Cl s K n h | _ => False)
  | _ => False
theorem C1_ok : ∀ f args n h K, C1 f args n h K → CallE Try.prog f args n h K := by
  intro f args n h K hc
  unfold C1 at hc
  split at hc
  · split at hc
    · exact L_slClone hc
    · exact hc.elim
  · exact hc.elim
theorem K_Clone0 (s : List UInt8) (hs : s.length ≤ 281474976710656) : CallE Try.prog 41 [.d (.str s)] 0 [] (fun v n h => Nd (fun _ => Fin 0 (Gets fun v => v = .d (.str s)) v n h)) := by
  refine call_fn tysOK orders (C := C1) C1_ok H0 Try.func41 (by kernel_rfl) (by kernel_rfl) ?_
  intro oBin oCmp oWrap oNeg oCom oBnot oBeq oPickB oPickI oPickS oInb oSub2 oMinI oMaxI oSlen oSidx oScat oSsub oScmp oScok oLen oCI oCB oCS oCL oOkR oApp oApok oSub oSetc oRep oMkok oNthI oNthB oNthS oIteI oIteB oIteS oB2s oS2b oAllB oWf oDeq oMlen oMhas oMI oMB oMS oMok oMput oMdel oSgo oSru oSnx ho; cbv
  (repeat (any_goals (first
    | with_reducible refine And.intro ?_ ?_
    | exact True.intro
    | with_reducible exact rfl
    | (with_reducible refine Nd.mk ?_; try dsimp only)
    | (with_reducible refine Nd0.mk ?_; try dsimp only)
    | (with_reducible refine Pz.mk ?_; cbv)
    | (with_reducible refine RgOK.mk ?_; kernel_rfl)
    | (with_reducible refine OrOK.mk ?_; kernel_rfl)
    | (with_reducible refine Al.mk (fun x hx => ?_); cbv)
    | (with_reducible refine hK' _ ?_; clear hK' K'; cbv)
    | (with_reducible refine brA.yes (by first | assumption | exact rfl | (simp only [show oCmp = real.cmp from congrArg Ar.cmp ho, show oBin = real.bin from congrArg Ar.bin ho, show oScmp = real.scmp from congrArg Ar.scmp ho, show oPickB = real.pickB from congrArg Ar.pickB ho]; decide)) ?_; cbv)
    | (with_reducible refine brA.no (by first | assumption | exact rfl | (simp only [show oCmp = real.cmp from congrArg Ar.cmp ho, show oBin = real.bin from congrArg Ar.bin ho, show oScmp = real.scmp from congrArg Ar.scmp ho, show oPickB = real.pickB from congrArg Ar.pickB ho]; decide)) ?_; cbv)
    | (with_reducible refine bcase (fun hb => ?_) (fun hb => ?_) <;> cbv)
    | (intro K' hK'; cbv))))
  all_goals ((try clear hK' K'); cases ho; (try simp only [nc1] at *); (try simp only [Int.ofNat_eq_natCast] at *))
  all_goals first
    | exact hs
    | exact ⟨⟨[], [], [0], [], 0⟩, _, 0, _, rfl, rfl, ⟨rfl⟩, rfl, rfl, rfl⟩
    | trace_state
theorem L_Clone {s : List UInt8} {n : Nat} {h : Hp} {K : CallK} (hK : S_Cl s K n h) : CallE Try.prog 41 [.d (.str s)] n h K :=
  call_data (CallE.fin (K_Clone0 s hK.1.h)) rfl (by rintro v rfl; exact hK.2)
/-! what a chart holds -/
def acV (c k : Int) (s : List UInt8) : Value := .agg ⟨[.int .i64 c, .int .u8 k, .string ⟨⟨s⟩⟩]⟩
structure gC (m : ML) : Prop where
  h : ∀ p ∈ m, ∃ k s, p.2 = acV p.1 k s
theorem gC_ok {m : ML} (h : gC m) : real.mok m [.int .i64, .int .u8, .str] true = true := by
  simp only [real, List.all_eq_true]
  intro p hp
  obtain ⟨k, s, e⟩ := h.h p hp
  rw [e]
  rfl
def addE (m : ML) (c k : Int) (s : List UInt8) : Int := bif rightB c k s then (bif (Mk.look m c).isSome then 16 else if 64 ≤ m.length then 7 else 0) else 2
def addC (m : ML) (c k : Int) (s : List UInt8) : ML := if addE m c k s = 0 then Mk.put m c (acV c k s) else m
def C2 : CallS := fun f args n h K => match f with
  | 41 => (match args with | [.d (.str s)] => S_Cl s K n h | _ => False)
  | 27 => (match args with | [.d (.agg [.int .i64 c, .int .u8 k, .str s])] => S_Right c k s K n h | _ => False)
  | _ => False
theorem C2_ok : ∀ f args n h K, C2 f args n h K → CallE Try.prog f args n h K := by
  intro f args n h K hc
  unfold C2 at hc
  split at hc
  · split at hc
    · exact L_Clone hc
    · exact hc.elim
  · split at hc
    · exact L_Right hc
    · exact hc.elim
  · exact hc.elim
theorem fin_add {m m' : ML} {c k e : Int} {s : List UInt8} (h : e = addE m c k s ∧ m' = addC m c k s) : Fin 2 (fun v n h => v = .d (.int .i64 (addE m c k s)) ∧ n = 2 ∧ h = [(0, .mp .i64 (addC m c k s)), (1, .cells [.map 0])]) (.d (.int .i64 e)) 2 [(0, .mp .i64 m'), (1, .cells [.map 0])] := by
  obtain ⟨rfl, rfl⟩ := h
  exact ⟨⟨[], [], [0], [0, 1], 2⟩, _, 2, _, rfl, rfl, rfl, rfl, rfl⟩
theorem ae_arg {m : ML} {c k : Int} {s : List UInt8} {x : Bool} (hx : x = rightB c k s) (hb : real.bnot x = true) : 2 = addE m c k s ∧ m = addC m c k s := by
  subst hx
  have h : rightB c k s = false := by simpa [real] using hb
  have e : addE m c k s = 2 := by simp [addE, h]
  exact ⟨e.symm, by simp [addC, e]⟩
theorem ae_there {m : ML} {c k : Int} {s : List UInt8} {x : Bool} (hx : x = rightB c k s) (hb : real.bnot x = false) (h1 : real.mhas m c = true) : 16 = addE m c k s ∧ m = addC m c k s := by
  subst hx
  have h : rightB c k s = true := by simpa [real] using hb
  have h1 : (Mk.look m c).isSome = true := h1
  have e : addE m c k s = 16 := by simp only [addE, h, h1, cond_true]
  exact ⟨e.symm, by simp [addC, e]⟩
theorem ae_full {m : ML} {c k : Int} {s : List UInt8} {x : Bool} (hx : x = rightB c k s) (hb : real.bnot x = false) (h1 : real.mhas m c = false) (h2 : real.cmp .geq (real.mlen m) 64 = true) : 7 = addE m c k s ∧ m = addC m c k s := by
  subst hx
  have h : rightB c k s = true := by simpa [real] using hb
  have h1 : (Mk.look m c).isSome = false := h1
  have h2 : 64 ≤ m.length := by simp only [real, rCmp, decide_eq_true_eq] at h2; omega
  have e : addE m c k s = 7 := by simp only [addE, h, h1, cond_true, cond_false, if_pos h2]
  exact ⟨e.symm, by simp [addC, e]⟩
theorem ae_ok {m : ML} {c k : Int} {s : List UInt8} {x : Bool} (hx : x = rightB c k s) (hb : real.bnot x = false) (h1 : real.mhas m c = false) (h2 : real.cmp .geq (real.mlen m) 64 = false) : 0 = addE m c k s ∧ real.mput m c (.agg ⟨[.int .i64 c, .int .u8 k, .string ⟨⟨s⟩⟩]⟩) = addC m c k s := by
  subst hx
  have h : rightB c k s = true := by simpa [real] using hb
  have h1 : (Mk.look m c).isSome = false := h1
  have h2 : ¬ 64 ≤ m.length := by simp only [real, rCmp, decide_eq_false_iff_not] at h2; omega
  have e : addE m c k s = 0 := by simp only [addE, h, h1, cond_true, cond_false, if_neg h2]
  exact ⟨e.symm, by rw [addC, if_pos e]; rfl⟩
theorem right_len {c k : Int} {s : List UInt8} {x : Bool} (hx : x = rightB c k s) (hb : real.bnot x = false) : s.length ≤ 281474976710656 := by
  subst hx
  have h : rightB c k s = true := by simpa [real] using hb
  simp only [rightB, rightN, Bool.and_eq_true, decide_eq_true_eq] at h
  omega
theorem K_Add0 (m : ML) (hm : gC m) (c k : Int) (s : List UInt8) : CallE Try.prog 9 [.ptr 1 0, .d (.agg [.int .i64 c, .int .u8 k, .str s])] 2 [(0, .mp .i64 m), (1, .cells [.map 0])]
    (fun v n h => Nd (fun _ => Fin 2 (fun v n h => v = .d (.int .i64 (addE m c k s)) ∧ n = 2 ∧ h = [(0, .mp .i64 (addC m c k s)), (1, .cells [.map 0])]) v n h)) := by
  refine call_fn tysOK orders (C := C2) C2_ok H0 Try.func9 (by kernel_rfl) (by kernel_rfl) ?_
  intro oBin oCmp oWrap oNeg oCom oBnot oBeq oPickB oPickI oPickS oInb oSub2 oMinI oMaxI oSlen oSidx oScat oSsub oScmp oScok oLen oCI oCB oCS oCL oOkR oApp oApok oSub oSetc oRep oMkok oNthI oNthB oNthS oIteI oIteB oIteS oB2s oS2b oAllB oWf oDeq oMlen oMhas oMI oMB oMS oMok oMput oMdel oSgo oSru oSnx ho; cbv
  (repeat (any_goals (first
    | with_reducible refine And.intro ?_ ?_
    | exact True.intro
    | with_reducible exact rfl
    | (with_reducible refine Nd.mk ?_; try dsimp only)
    | (with_reducible refine Nd0.mk ?_; try dsimp only)
    | (with_reducible refine Pz.mk ?_; cbv)
    | (with_reducible refine RgOK.mk ?_; kernel_rfl)
    | (with_reducible refine OrOK.mk ?_; kernel_rfl)
    | (with_reducible refine Al.mk (fun x hx => ?_); cbv)
    | (with_reducible refine hK' _ ?_; clear hK' K'; cbv)
    | (with_reducible refine brA.yes (by first | assumption | exact rfl | (simp only [show oCmp = real.cmp from congrArg Ar.cmp ho, show oBin = real.bin from congrArg Ar.bin ho, show oScmp = real.scmp from congrArg Ar.scmp ho, show oPickB = real.pickB from congrArg Ar.pickB ho]; decide)) ?_; cbv)
    | (with_reducible refine brA.no (by first | assumption | exact rfl | (simp only [show oCmp = real.cmp from congrArg Ar.cmp ho, show oBin = real.bin from congrArg Ar.bin ho, show oScmp = real.scmp from congrArg Ar.scmp ho, show oPickB = real.pickB from congrArg Ar.pickB ho]; decide)) ?_; cbv)
    | (with_reducible refine bcase (fun hb => ?_) (fun hb => ?_) <;> cbv)
    | (intro K' hK'; cbv))))
  all_goals ((try clear hK' K'); cases ho; (try simp only [nc1] at *); (try simp only [Int.ofNat_eq_natCast] at *))
  all_goals first
    | with_reducible exact gC_ok hm
    | with_reducible exact right_len hx (by assumption)
    | with_reducible exact fin_add (ae_arg hx (by assumption))
    | with_reducible exact fin_add (ae_there hx (by assumption) (by assumption))
    | with_reducible exact fin_add (ae_full hx (by assumption) (by assumption) (by assumption))
    | with_reducible exact fin_add (ae_ok hx (by assumption) (by assumption) (by assumption))
    | trace_state
def S_Add (i : Nat) (c k : Int) (s : List UInt8) (K : CallK) (n : Nat) (h : Hp) : Prop := pat2 h i fun j m => Nd (fun _ => i < n ∧ j < n ∧ i ≠ j ∧ gC m) ∧ Al (fun q : Int × ML => q = (addE m c k s, addC m c k s)) fun q => K (.d (.int .i64 q.1)) n (out2 i j h q.2)
theorem L_Add {i n : Nat} {c k : Int} {s : List UInt8} {h : Hp} {K : CallK} (hK : S_Add i c k s K n h) : CallE Try.prog 9 [.ptr i 0, .d (.agg [.int .i64 c, .int .u8 k, .str s])] n h K := by
  obtain ⟨j, m, hg, hg2, ⟨⟨hi, hj, hij, hm⟩⟩, hk⟩ := pat2_elim hK
  refine call_recv2 (CallE.fin (K_Add0 m hm c k s)) rfl hi hj hij hg hg2 ?_
  rintro v n1 h1 ⟨rfl, rfl, rfl⟩ -
  exact hk.h _ rfl
theorem K_Get0 (m : ML) (hm : gC m) (c : Int) : CallE Try.prog 32 [.ptr 1 0, .d (.int .i64 c)] 2 [(0, .mp .i64 m), (1, .cells [.map 0])]
    (fun v n h => Nd (fun _ => Fin 2 (fun v n h => v = .tup [.d (.agg [.int .i64 (real.mI m c 0), .int .u8 (real.mI m c 1), .str (real.mS m c 2)]), .d (.bool (real.mhas m c))] ∧ n = 2 ∧ h = [(0, .mp .i64 m), (1, .cells [.map 0])]) v n h)) := by
  refine call_fn tysOK orders (C := C2) C2_ok H0 Try.func32 (by kernel_rfl) (by kernel_rfl) ?_
  intro oBin oCmp oWrap oNeg oCom oBnot oBeq oPickB oPickI oPickS oInb oSub2 oMinI oMaxI oSlen oSidx oScat oSsub oScmp oScok oLen oCI oCB oCS oCL oOkR oApp oApok oSub oSetc oRep oMkok oNthI oNthB oNthS oIteI oIteB oIteS oB2s oS2b oAllB oWf oDeq oMlen oMhas oMI oMB oMS oMok oMput oMdel oSgo oSru oSnx ho; cbv
  (repeat (any_goals (first
    | with_reducible refine And.intro ?_ ?_
    | exact True.intro
    | with_reducible exact rfl
    | (with_reducible refine Nd.mk ?_; try dsimp only)
    | (with_reducible refine Nd0.mk ?_; try dsimp only)
    | (with_reducible refine Pz.mk ?_; cbv)
    | (with_reducible refine RgOK.mk ?_; kernel_rfl)
    | (with_reducible refine OrOK.mk ?_; kernel_rfl)
    | (with_reducible refine Al.mk (fun x hx => ?_); cbv)
    | (with_reducible refine hK' _ ?_; clear hK' K'; cbv)
    | (with_reducible refine brA.yes (by first | assumption | exact rfl | (simp only [show oCmp = real.cmp from congrArg Ar.cmp ho, show oBin = real.bin from congrArg Ar.bin ho, show oScmp = real.scmp from congrArg Ar.scmp ho, show oPickB = real.pickB from congrArg Ar.pickB ho]; decide)) ?_; cbv)
    | (with_reducible refine brA.no (by first | assumption | exact rfl | (simp only [show oCmp = real.cmp from congrArg Ar.cmp ho, show oBin = real.bin from congrArg Ar.bin ho, show oScmp = real.scmp from congrArg Ar.scmp ho, show oPickB = real.pickB from congrArg Ar.pickB ho]; decide)) ?_; cbv)
    | (with_reducible refine bcase (fun hb => ?_) (fun hb => ?_) <;> cbv)
    | (intro K' hK'; cbv))))
  all_goals ((try clear hK' K'); cases ho; (try simp only [nc1] at *); (try simp only [Int.ofNat_eq_natCast] at *))
  all_goals first
    | with_reducible exact gC_ok hm
    | exact ⟨⟨[], [], [0], [0, 1], 2⟩, _, 2, _, rfl, rfl, rfl, rfl, rfl⟩
    | trace_state
def S_Get (i : Nat) (c : Int) (K : CallK) (n : Nat) (h : Hp) : Prop := pat2 h i fun j m => Nd (fun _ => i < n ∧ j < n ∧ i ≠ j ∧ gC m) ∧
  Al (fun q : Int × Int × List UInt8 × Bool => q = (real.mI m c 0, real.mI m c 1, real.mS m c 2, real.mhas m c)) fun q => K (.tup [.d (.agg [.int .i64 q.1, .int .u8 q.2.1, .str q.2.2.1]), .d (.bool q.2.2.2)]) n (out2 i j h m)
theorem L_Get {i n : Nat} {c : Int} {h : Hp} {K : CallK} (hK : S_Get i c K n h) : CallE Try.prog 32 [.ptr i 0, .d (.int .i64 c)] n h K := by
  obtain ⟨j, m, hg, hg2, ⟨⟨hi, hj, hij, hm⟩⟩, hk⟩ := pat2_elim hK
  refine call_recv2 (CallE.fin (K_Get0 m hm c)) rfl hi hj hij hg hg2 ?_
  rintro v n1 h1 ⟨rfl, rfl, rfl⟩ -
  exact hk.h _ rfl
end Go.Proofs.Yteakfibolfapiaa.Ab
end
section
namespace Go.Proofs.Yteakfibolfapiaa.Ab
open Go Go.RowKit Go.Sort
set_option linter.unusedVariables false
set_option linter.unusedSimpArgs false
abbrev Bag := List (Value × List (List D))
def iR (xs : List Int) : List (List D) := xs.map fun x => [.int .i64 x]
/-- The amounts of an account. -/
def sel (qs : List (Int × Int)) (k : Int) : List Int := (qs.filter fun q => q.1 == k).map fun q => q.2
theorem sel_snoc (qs : List (Int × Int)) (q : Int × Int) (k : Int) : sel (qs ++ [q]) k = if q.1 = k then sel qs k ++ [q.2] else sel qs k := by
  unfold sel
  rw [List.filter_append, List.map_append]
  by_cases h : q.1 = k
  · simp [h]
  · simp [h]
theorem sel_none {qs : List (Int × Int)} {k : Int} (h : ∀ q ∈ qs, q.1 ≠ k) : sel qs k = [] := by
  unfold sel
  rw [List.filter_eq_nil_iff.2]
  · rfl
  · intro q hq
    simpa using h q hq
theorem sel_len (qs : List (Int × Int)) (k : Int) : (sel qs k).length ≤ qs.length := by
  unfold sel
  rw [List.length_map]
  exact List.length_filter_le _ _
def aF (qs : List (Int × Int)) (p : Int × Value) : Value × List (List D) := (p.2, iR (sel qs p.1))
/-- The map, the slices, and the lines that were gathered. -/
structure AMP (m : ML) (L : Bag) (qs : List (Int × Int)) : Prop where
  nd : (m.map (·.1)).Nodup
  sl : slOk m
  key : ∀ k, (Mk.look m k).isSome = true ↔ ∃ q ∈ qs, q.1 = k
  dat : L.Perm (m.map (aF qs))
theorem AMP.nil : AMP [] [] [] := ⟨List.nodup_nil, (fun p hp => by cases hp), fun k => ⟨(fun h => by cases h), (fun ⟨q, hq, _⟩ => by cases hq)⟩, List.Perm.refl _⟩
theorem look_app_none {m : ML} {k : Int} (h : Mk.look m k = none) : ∀ p ∈ m, p.1 ≠ k := by
  intro p hp e
  unfold Mk.look at h
  simp only [Option.map_eq_none_iff, List.find?_eq_none] at h
  have := h p hp
  simp [e] at this
theorem put_none {m : ML} {x : Int} {v : Value} (h : Mk.look m x = none) : Mk.put m x v = m ++ [(x, v)] := by
  unfold Mk.put
  have : m.findIdx? (fun p => p.1 == x) = none := by
    unfold Mk.look at h
    simp only [Option.map_eq_none_iff, List.find?_eq_none] at h
    rw [List.findIdx?_eq_none_iff]
    intro p hp
    simpa using h p hp
  rw [this]
theorem put_some : ∀ {A B : ML} {k : Int} {v v' : Value}, ((A ++ (k, v) :: B).map (·.1)).Nodup → Mk.put (A ++ (k, v) :: B) k v' = A ++ (k, v') :: B := by
  intro A B k v v' hn
  have hk : ∀ p ∈ A, p.1 ≠ k := by
    intro p hp e
    rw [List.map_append, List.nodup_append] at hn
    exact hn.2.2 p.1 (List.mem_map.2 ⟨p, hp, rfl⟩) k (by simp) e
  have hi : (A ++ (k, v) :: B).findIdx? (fun p => p.1 == k) = some A.length := by
    rw [List.findIdx?_append]
    have : A.findIdx? (fun p => p.1 == k) = none := by
      rw [List.findIdx?_eq_none_iff]
      intro p hp
      simpa using hk p hp
    rw [this]
    simp [List.findIdx?_cons]
  unfold Mk.put
  rw [hi]
  simp
theorem map_aF_ne {m : ML} {qs : List (Int × Int)} {k x : Int} (h : ∀ p ∈ m, p.1 ≠ k) : m.map (aF (qs ++ [(k, x)])) = m.map (aF qs) := by
  apply List.map_congr_left
  intro p hp
  unfold aF
  rw [sel_snoc, if_neg (fun e => h p hp e.symm)]
theorem key_put {m : ML} {qs : List (Int × Int)} {k x : Int} {v : Value} (h : ∀ j, (Mk.look m j).isSome = true ↔ ∃ q ∈ qs, q.1 = j) (j : Int) : (Mk.look (Mk.put m k v) j).isSome = true ↔ ∃ q ∈ qs ++ [(k, x)], q.1 = j := by
  rw [Mk.look_put]
  by_cases e : j = k
  · subst e
    simp
  · rw [if_neg e, h j]
    constructor
    · rintro ⟨q, hq, e2⟩
      exact ⟨q, by simp [hq], e2⟩
    · rintro ⟨q, hq, e2⟩
      rcases List.mem_append.1 hq with hq | hq
      · exact ⟨q, hq, e2⟩
      · simp only [List.mem_singleton] at hq
        subst hq
        exact absurd e2.symm e
/-- A line more. -/
theorem AMP.step {m : ML} {L : Bag} {qs : List (Int × Int)} (h : AMP m L qs) {k x : Int} {v : Value} (hv : v = mraw m k) :
    ∃ xs L', ((v = .slice none 0 0 ∧ xs = [] ∧ L' = L) ∨ ∃ A B, L = A ++ (v, xs) :: B ∧ L' = A ++ B) ∧ xs.length ≤ qs.length ∧ (∀ r ∈ xs, ∃ z, r = [.int .i64 z]) ∧
      ∀ v', (∃ a n cap, v' = .slice a n cap) → AMP (Mk.put m k v') ((v', xs ++ [[.int .i64 x]]) :: L') (qs ++ [(k, x)]) := by
  cases hl : Mk.look m k with
  | none =>
    have hno : ∀ q ∈ qs, q.1 ≠ k := fun q hq e => by
      have := (h.key k).2 ⟨q, hq, e⟩
      rw [hl] at this
      cases this
    have hne := look_app_none hl
    refine ⟨[], L, .inl ⟨by rw [hv, mraw, hl]; rfl, rfl, rfl⟩, Nat.zero_le _, (fun r hr => by cases hr), fun v' hs => ⟨Mk.put_nodup m k v' h.nd, ?_, key_put h.key, ?_⟩⟩
    · rw [put_none hl]
      intro p hp
      rcases List.mem_append.1 hp with hp | hp
      · exact h.sl p hp
      · simp only [List.mem_singleton] at hp; subst hp; exact hs
    · rw [put_none hl, List.map_append, map_aF_ne hne]
      refine (List.Perm.cons _ h.dat).trans ?_
      have e : aF (qs ++ [(k, x)]) (k, v') = (v', [] ++ [[.int .i64 x]]) := by
        unfold aF
        rw [sel_snoc, if_pos rfl, sel_none hno]
        rfl
      rw [List.map_cons, List.map_nil, e]
      exact List.perm_append_comm (l₁ := [_])
  | some u =>
    have hm := (Mk.look_mem h.nd).1 hl
    obtain ⟨A, B, rfl⟩ := List.append_of_mem hm
    have hvu : v = u := by rw [hv, mraw, hl]; rfl
    subst hvu
    have hd := h.dat
    rw [List.map_append, List.map_cons] at hd
    have hin : (v, iR (sel qs k)) ∈ L := hd.mem_iff.2 (by simp [aF])
    obtain ⟨A', B', rfl⟩ := List.append_of_mem hin
    refine ⟨iR (sel qs k), A' ++ B', .inr ⟨A', B', rfl, rfl⟩, by simpa [iR] using sel_len qs k, ?_, fun v' hs => ⟨Mk.put_nodup _ k v' h.nd, ?_, key_put h.key, ?_⟩⟩
    · intro r hr
      obtain ⟨z, -, rfl⟩ := List.mem_map.1 hr
      exact ⟨z, rfl⟩
    · rw [put_some h.nd]
      intro p hp
      rcases List.mem_append.1 hp with hp | hp
      · exact h.sl p (by simp [hp])
      · rcases List.mem_cons.1 hp with rfl | hp
        · exact hs
        · exact h.sl p (by simp [hp])
    · have hn := h.nd
      rw [List.map_append, List.map_cons, List.nodup_append, List.nodup_cons] at hn
      obtain ⟨n1, ⟨n2, n3⟩, n4⟩ := hn
      have hA : ∀ p ∈ A, p.1 ≠ k := fun p hp e => n4 p.1 (List.mem_map.2 ⟨p, hp, rfl⟩) k (by simp) e
      have hB : ∀ p ∈ B, p.1 ≠ k := fun p hp e => n2 (List.mem_map.2 ⟨p, hp, e⟩)
      rw [put_some h.nd, List.map_append, List.map_cons, map_aF_ne hA, map_aF_ne hB]
      have e : aF (qs ++ [(k, x)]) (k, v') = (v', iR (sel qs k) ++ [[.int .i64 x]]) := by
        unfold aF
        rw [sel_snoc, if_pos rfl]
        simp [iR]
      rw [e]
      have h1 : (A' ++ B').Perm (A.map (aF qs) ++ B.map (aF qs)) := by
        have h2 := (List.perm_middle.symm.trans hd).trans List.perm_middle
        exact List.Perm.cons_inv h2
      exact (List.Perm.cons _ h1).trans List.perm_middle.symm
end Go.Proofs.Yteakfibolfapiaa.Ab
end
section
namespace Go.Proofs.Yteakfibolfapiaa.Ab
open Go Go.RowKit Go.Sort
set_option linter.unusedVariables false
set_option linter.unusedSimpArgs false
set_option maxRecDepth 100000
set_option maxHeartbeats 4000000
/-- A bag more, with nothing in it. -/
theorem CallE.bag {P : Program} {f n c : Nat} {h : Hp} {args : List AV} {K : CallK} (h0 : 0 < c) (hc : CallE P f args (n + 1) (h ++ [(n, .bag c [])]) K) : CallE P f args n h K := by
  have key : ∀ {ρ w}, Rep ρ n h w → Rep (upd ρ n (.tuple #[])) (n + 1) (h ++ [(n, .bag c [])]) w ∧ Goes n ρ h w (upd ρ n (.tuple #[])) (h ++ [(n, .bag c [])]) w := by
    intro ρ w r
    have hb : ∀ b, blkIn (.tuple #[]) b → w.heap.size ≤ b := by
      rintro b ⟨v, hv, -⟩
      cases hv
    exact ⟨r.new (fun _ _ h => h) hb (fun _ => ⟨#[], upd_same _ _ _, rfl, h0, (fun p hp => by cases hp), List.Pairwise.nil⟩), goes_new r (fun _ _ h => h) hb rfl rfl rfl (Nat.le_refl _)⟩
  have key2 : ∀ {ρ w v w'}, Goes n ρ h w (upd ρ n (.tuple #[])) (h ++ [(n, .bag c [])]) w → Done K (n + 1) (upd ρ n (.tuple #[])) (h ++ [(n, .bag c [])]) w v w' → Done K n ρ h w v w' := by
    rintro ρ w v w' g ⟨av, ρ', n', h', h1, h2, h3, h4, h5⟩
    exact ⟨av, ρ', n', h', h1, h2, by omega, h4, g.trans (h5.mono (by omega))⟩
  cases hc with
  | enter fn hf hn hb run =>
    refine .enter fn hf hn hb (fun ρ w vs hr ha => Calls.mono (run _ w vs (key hr).1 (RelVs.mono ((key hr).2.sub hr.fresh) (key hr).2.keeps _ _ ha)) ?_)
    rintro e w' ⟨v, rfl, hd⟩
    exact ⟨v, rfl, key2 (key hr).2 hd⟩
  | ext run =>
    refine .ext (fun ρ w vs hr ha => ?_)
    obtain ⟨v, w', h1, h2⟩ := run _ w vs (key hr).1 (RelVs.mono ((key hr).2.sub hr.fresh) (key hr).2.keeps _ _ ha)
    exact ⟨v, w', h1, key2 (key hr).2 h2⟩
/-! New -/
theorem K_BNew0 : CallE Try.prog 12 [] 0 [] (fun v n h => Nd (fun _ => v = .ptr 1 0 ∧ n = 2 ∧ h = [(0, .mp .i64 []), (1, .cells [.map 0])])) := by
  refine call_fn tysOK orders (C := C0) C0_ok H0 Try.func12 (by kernel_rfl) (by kernel_rfl) ?_
  intro oBin oCmp oWrap oNeg oCom oBnot oBeq oPickB oPickI oPickS oInb oSub2 oMinI oMaxI oSlen oSidx oScat oSsub oScmp oScok oLen oCI oCB oCS oCL oOkR oApp oApok oSub oSetc oRep oMkok oNthI oNthB oNthS oIteI oIteB oIteS oB2s oS2b oAllB oWf oDeq oMlen oMhas oMI oMB oMS oMok oMput oMdel oSgo oSru oSnx ho; cbv
  (repeat (any_goals (first
    | with_reducible refine And.intro ?_ ?_
    | exact True.intro
    | with_reducible exact rfl
    | (with_reducible refine Nd.mk ?_; try dsimp only)
    | (with_reducible refine Nd0.mk ?_; try dsimp only)
    | (with_reducible refine Pz.mk ?_; cbv)
    | (with_reducible refine RgOK.mk ?_; kernel_rfl)
    | (with_reducible refine OrOK.mk ?_; kernel_rfl)
    | (with_reducible refine Al.mk (fun x hx => ?_); cbv)
    | (with_reducible refine hK' _ ?_; clear hK' K'; cbv)
    | (with_reducible refine brA.yes (by first | assumption | exact rfl | (simp only [show oCmp = real.cmp from congrArg Ar.cmp ho, show oBin = real.bin from congrArg Ar.bin ho, show oScmp = real.scmp from congrArg Ar.scmp ho, show oPickB = real.pickB from congrArg Ar.pickB ho]; decide)) ?_; cbv)
    | (with_reducible refine brA.no (by first | assumption | exact rfl | (simp only [show oCmp = real.cmp from congrArg Ar.cmp ho, show oBin = real.bin from congrArg Ar.bin ho, show oScmp = real.scmp from congrArg Ar.scmp ho, show oPickB = real.pickB from congrArg Ar.pickB ho]; decide)) ?_; cbv)
    | (with_reducible refine bcase (fun hb => ?_) (fun hb => ?_) <;> cbv)
    | (intro K' hK'; cbv))))
  all_goals ((try clear hK' K'); cases ho; (try simp only [nc1] at *); (try simp only [Int.ofNat_eq_natCast] at *))
  all_goals first
    | exact ⟨rfl, rfl, rfl⟩
    | trace_state
def S_BNew (K : CallK) (n : Nat) (h : Hp) : Prop := K (.ptr (n + 1) 0) (n + 2) (h ++ [(n, .mp .i64 []), (n + 1, .cells [.map n])])
theorem L_BNew {n : Nat} {h : Hp} {K : CallK} (hK : S_BNew K n h) : CallE Try.prog 12 [] n h K := by
  refine call_frame (g := fun i => i) K_BNew0 rfl rfl (fun i j hi => absurd hi (Nat.not_lt_zero _)) (fun i hi => absurd hi (Nat.not_lt_zero _)) (fun i o hm => by cases hm) (by intro j hj; cases hj) ?_
  rintro v n1 h1 - ⟨⟨rfl, rfl, rfl⟩⟩
  rw [outs_zero]
  have e : n + (2 - 0) = n + 2 := rfl
  have e0 : lift (fun i => i) 0 n 0 = n := by simp [lift]; rfl
  have e1 : lift (fun i => i) 0 n 1 = n + 1 := by simp [lift]; rfl
  simp only [renH, renV, renO, renVs, e0, e1, e]
  exact hK
/-! what books hold -/
/-- Balances: amounts that aren't 0. -/
structure gB (m : ML) : Prop where
  h : ∀ p ∈ m, ∃ z, p.2 = .int .i64 z ∧ z ≠ 0 ∧ I64 z
  nd : (m.map (·.1)).Nodup
  rg : ∀ p ∈ m, 0 ≤ p.1 ∧ p.1 ≤ 65535
theorem gB_ok {m : ML} (h : gB m) : real.mok m [.int .i64] false = true := by
  simp only [real, List.all_eq_true]
  intro p hp
  obtain ⟨z, e, -⟩ := h.h p hp
  rw [e]
  rfl
def bal (m : ML) (k : Int) : Int := real.mI m k 0
def setM (m : ML) (k z : Int) : ML := if z = 0 then Mk.del m k else Mk.put m k (.int .i64 z)
theorem K_set0 (m : ML) (hm : gB m) (k z : Int) : CallE Try.prog 50 [.ptr 1 0, .d (.int .i64 k), .d (.int .i64 z)] 2 [(0, .mp .i64 m), (1, .cells [.map 0])]
    (fun v n h => Nd (fun _ => Fin 2 (fun v n h => v = .tup [] ∧ n = 2 ∧ h = [(0, .mp .i64 (setM m k z)), (1, .cells [.map 0])]) v n h)) := by
  refine call_fn tysOK orders (C := C0) C0_ok H0 Try.func50 (by kernel_rfl) (by kernel_rfl) ?_
  intro oBin oCmp oWrap oNeg oCom oBnot oBeq oPickB oPickI oPickS oInb oSub2 oMinI oMaxI oSlen oSidx oScat oSsub oScmp oScok oLen oCI oCB oCS oCL oOkR oApp oApok oSub oSetc oRep oMkok oNthI oNthB oNthS oIteI oIteB oIteS oB2s oS2b oAllB oWf oDeq oMlen oMhas oMI oMB oMS oMok oMput oMdel oSgo oSru oSnx ho; cbv
  (repeat (any_goals (first
    | with_reducible refine And.intro ?_ ?_
    | exact True.intro
    | with_reducible exact rfl
    | (with_reducible refine Nd.mk ?_; try dsimp only)
    | (with_reducible refine Nd0.mk ?_; try dsimp only)
    | (with_reducible refine Pz.mk ?_; cbv)
    | (with_reducible refine RgOK.mk ?_; kernel_rfl)
    | (with_reducible refine OrOK.mk ?_; kernel_rfl)
    | (with_reducible refine Al.mk (fun x hx => ?_); cbv)
    | (with_reducible refine hK' _ ?_; clear hK' K'; cbv)
    | (with_reducible refine brA.yes (by first | assumption | exact rfl | (simp only [show oCmp = real.cmp from congrArg Ar.cmp ho, show oBin = real.bin from congrArg Ar.bin ho, show oScmp = real.scmp from congrArg Ar.scmp ho, show oPickB = real.pickB from congrArg Ar.pickB ho]; decide)) ?_; cbv)
    | (with_reducible refine brA.no (by first | assumption | exact rfl | (simp only [show oCmp = real.cmp from congrArg Ar.cmp ho, show oBin = real.bin from congrArg Ar.bin ho, show oScmp = real.scmp from congrArg Ar.scmp ho, show oPickB = real.pickB from congrArg Ar.pickB ho]; decide)) ?_; cbv)
    | (with_reducible refine bcase (fun hb => ?_) (fun hb => ?_) <;> cbv)
    | (intro K' hK'; cbv))))
  all_goals ((try clear hK' K'); cases ho; (try simp only [nc1] at *); (try simp only [Int.ofNat_eq_natCast] at *))
  all_goals first
    | exact ⟨⟨[], [], [0], [0, 1], 2⟩, _, 2, _, rfl, rfl, rfl, rfl, by rw [setM, if_pos (by simpa [real, rCmp] using hb)]; rfl⟩
    | exact ⟨⟨[], [], [0], [0, 1], 2⟩, _, 2, _, rfl, rfl, rfl, rfl, by rw [setM, if_neg (by simpa [real, rCmp] using hb)]; rfl⟩
    | trace_state
theorem K_Balance0 (m : ML) (hm : gB m) (k : Int) : CallE Try.prog 17 [.ptr 1 0, .d (.int .i64 k)] 2 [(0, .mp .i64 m), (1, .cells [.map 0])]
    (fun v n h => Nd (fun _ => Fin 2 (fun v n h => v = .d (.int .i64 (bal m k)) ∧ n = 2 ∧ h = [(0, .mp .i64 m), (1, .cells [.map 0])]) v n h)) := by
  refine call_fn tysOK orders (C := C0) C0_ok H0 Try.func17 (by kernel_rfl) (by kernel_rfl) ?_
  intro oBin oCmp oWrap oNeg oCom oBnot oBeq oPickB oPickI oPickS oInb oSub2 oMinI oMaxI oSlen oSidx oScat oSsub oScmp oScok oLen oCI oCB oCS oCL oOkR oApp oApok oSub oSetc oRep oMkok oNthI oNthB oNthS oIteI oIteB oIteS oB2s oS2b oAllB oWf oDeq oMlen oMhas oMI oMB oMS oMok oMput oMdel oSgo oSru oSnx ho; cbv
  (repeat (any_goals (first
    | with_reducible refine And.intro ?_ ?_
    | exact True.intro
    | with_reducible exact rfl
    | (with_reducible refine Nd.mk ?_; try dsimp only)
    | (with_reducible refine Nd0.mk ?_; try dsimp only)
    | (with_reducible refine Pz.mk ?_; cbv)
    | (with_reducible refine RgOK.mk ?_; kernel_rfl)
    | (with_reducible refine OrOK.mk ?_; kernel_rfl)
    | (with_reducible refine Al.mk (fun x hx => ?_); cbv)
    | (with_reducible refine hK' _ ?_; clear hK' K'; cbv)
    | (with_reducible refine brA.yes (by first | assumption | exact rfl | (simp only [show oCmp = real.cmp from congrArg Ar.cmp ho, show oBin = real.bin from congrArg Ar.bin ho, show oScmp = real.scmp from congrArg Ar.scmp ho, show oPickB = real.pickB from congrArg Ar.pickB ho]; decide)) ?_; cbv)
    | (with_reducible refine brA.no (by first | assumption | exact rfl | (simp only [show oCmp = real.cmp from congrArg Ar.cmp ho, show oBin = real.bin from congrArg Ar.bin ho, show oScmp = real.scmp from congrArg Ar.scmp ho, show oPickB = real.pickB from congrArg Ar.pickB ho]; decide)) ?_; cbv)
    | (with_reducible refine bcase (fun hb => ?_) (fun hb => ?_) <;> cbv)
    | (intro K' hK'; cbv))))
  all_goals ((try clear hK' K'); cases ho; (try simp only [nc1] at *); (try simp only [Int.ofNat_eq_natCast] at *))
  all_goals first
    | with_reducible exact gB_ok hm
    | exact ⟨⟨[], [], [0], [0, 1], 2⟩, _, 2, _, rfl, rfl, rfl, rfl, rfl⟩
    | trace_state
/-! amounts -/
theorem addL {j : Int} {i : Nat} (hj : j = i) (hi : i < 1000) : real.bin .add .i64 j 1 = ((i + 1 : Nat) : Int) := by
  simp only [real, rBin]; rw [wrap_i64 _ (by omega) (by omega)]; omega
def lnR (qs : List (Int × Int)) : List (List D) := qs.map fun q => [.int .i64 q.1, .int .i64 q.2]
theorem ln_get {qs : List (Int × Int)} {i : Nat} (hi : i < qs.length) : (lnR qs).getD i [] = [.int .i64 qs[i].1, .int .i64 qs[i].2] := by
  simp [lnR, List.getD, hi]
theorem ln_cI {qs : List (Int × Int)} {j : Int} {i : Nat} (hj : j = i) (hi : i < qs.length) : real.cI (lnR qs) j 0 = qs[i].1 ∧ real.cI (lnR qs) j 1 = qs[i].2 := by
  subst hj
  simp only [real, rCell, Int.toNat_natCast, ln_get hi]
  exact ⟨rfl, rfl⟩
theorem ln_ok {r : List (List D)} {qs : List (Int × Int)} (hr : r = lnR qs) {j : Int} {i : Nat} (hj : j = i) (hb : real.cmp .lss j (real.len r) = true) : real.okR r j 0 [.int .i64, .int .i64] = true := by
  subst hr hj
  have hi : i < qs.length := by simpa [real, rCmp, lnR] using hb
  simp only [real, Int.toNat_natCast, ln_get hi]
  simp [rowOk, kdOk, lnR, hi]
theorem ln_wf {r : List (List D)} {qs : List (Int × Int)} (hr : r = lnR qs) : real.wf r 2 = true := by
  subst hr
  simp only [real, rWf, List.all_eq_true]
  intro x hx
  obtain ⟨q, -, rfl⟩ := List.mem_map.1 hx
  rfl
theorem inb_lt {l : List (List D)} {j : Int} {i : Nat} (hj : j = i) (hb : real.cmp .lss j (real.len l) = true) : real.inb j (real.len l) = true := by
  subst hj
  simp only [real, rCmp, decide_eq_true_eq] at *
  omega
theorem ln_lt {r : List (List D)} {qs : List (Int × Int)} (hr : r = lnR qs) {j : Int} {i : Nat} (hj : j = i) (hb : real.cmp .lss j (real.len r) = true) : i < qs.length := by
  subst hr hj
  simpa [real, rCmp, lnR] using hb
theorem ln_end {r : List (List D)} {qs : List (Int × Int)} (hr : r = lnR qs) {j : Int} {i : Nat} (hj : j = i) (hi : i ≤ qs.length) (hb : real.cmp .lss j (real.len r) = false) : i = qs.length := by
  subst hr hj
  simp [real, rCmp, lnR] at hb
  omega
theorem row1_ok (a b : Int) : real.okR [[.int .i64 a, .int .i64 b]] 0 0 [.int .i64] = true := rfl
theorem row1_ok1 (a b : Int) : real.okR [[.int .i64 a, .int .i64 b]] 0 1 [.int .i64] = true := rfl
theorem take_snoc {α : Type} {l : List α} {i : Nat} (h : i < l.length) : l.take (i + 1) = l.take i ++ [l[i]] := by
  rw [List.take_add_one, List.getElem?_eq_getElem h]; rfl
theorem amp_app {A : Ar} (ho : A = real) {r : List (List D)} {qs : List (Int × Int)} {m : ML} {L : Bag} {i : Nat} {j : Int} {x : Value} (hr : r = lnR qs) (hl : qs.length ≤ 1000) (hA : AMP m L (qs.take i)) (hj : j = i) (hb : A.cmp .lss j (A.len r) = true)
    (hx : x = mraw m (A.cI [[.int .i64 (A.cI r j 0), .int .i64 (A.cI r j 1)]] 0 0)) :
    ∃ xs L', ((x = .slice none 0 0 ∧ xs = [] ∧ L' = L) ∨ ∃ B C, L = B ++ (x, xs) :: C ∧ L' = B ++ C) ∧ A.apok xs [[.int .i64 (A.cI [[.int .i64 (A.cI r j 0), .int .i64 (A.cI r j 1)]] 0 1)]] 1 8 = true ∧
      ∀ v', (∃ a n cap, v' = .slice a n cap) → AMP (A.mput m (A.cI [[.int .i64 (A.cI r j 0), .int .i64 (A.cI r j 1)]] 0 0) v') ((v', xs ++ [[.int .i64 (A.cI [[.int .i64 (A.cI r j 0), .int .i64 (A.cI r j 1)]] 0 1)]]) :: L') (qs.take (i + 1)) := by
  subst ho
  have hi := ln_lt hr hj hb
  subst hr
  have e1 : ∀ a b, real.cI [[.int .i64 a, .int .i64 b]] 0 0 = a := fun a b => rfl
  have e2 : ∀ a b, real.cI [[.int .i64 a, .int .i64 b]] 0 1 = b := fun a b => rfl
  obtain ⟨c1, c2⟩ := ln_cI hj hi
  rw [c1, c2, e1] at hx
  rw [c1, c2, e1, e2]
  obtain ⟨xs, L', h1, h2, h3, h4⟩ := hA.step (x := qs[i].2) hx
  refine ⟨xs, L', h1, ?_, fun v' hs => ?_⟩
  · simp only [List.length_take] at h2
    simp [real, flatD, maxLen]
    omega
  · rw [take_snoc hi]
    exact h4 v' hs
theorem K_amounts0 (r : List (List D)) (qs : List (Int × Int)) (hr : r = lnR qs) (hl : qs.length ≤ 1000) : CallE Try.prog 48 [.d (.imm r)] 0 []
    (fun v n h => Nd (fun _ => Fin 0 (fun v n h => ∃ m L, AMP m L qs ∧ v = .map 0 ∧ n = 2 ∧ h = [(1, .bag 1 L), (0, .mp .i64 m)]) v n h)) := by
  refine CallE.bag (c := 1) (by decide) ?_
  refine call_fn tysOK orders (C := C0) C0_ok ⟨[((5, 0), [3])], [], 0⟩ Try.func48 (by kernel_rfl) (by kernel_rfl) ?_
  intro oBin oCmp oWrap oNeg oCom oBnot oBeq oPickB oPickI oPickS oInb oSub2 oMinI oMaxI oSlen oSidx oScat oSsub oScmp oScok oLen oCI oCB oCS oCL oOkR oApp oApok oSub oSetc oRep oMkok oNthI oNthB oNthS oIteI oIteB oIteS oB2s oS2b oAllB oWf oDeq oMlen oMhas oMI oMB oMS oMok oMput oMdel oSgo oSru oSnx ho; cbv
  (repeat (any_goals (first
    | with_reducible refine And.intro ?_ ?_
    | exact True.intro
    | with_reducible exact rfl
    | (with_reducible refine Nd.mk ?_; try dsimp only)
    | (with_reducible refine Nd0.mk ?_; try dsimp only)
    | (with_reducible refine Pz.mk ?_; cbv)
    | (with_reducible refine RgOK.mk ?_; kernel_rfl)
    | (with_reducible refine OrOK.mk ?_; kernel_rfl)
    | (with_reducible refine Al.mk (fun x hx => ?_); cbv)
    | (with_reducible refine hK' _ ?_; clear hK' K'; cbv)
    | (with_reducible refine brA.yes (by first | assumption | exact rfl | (simp only [show oCmp = real.cmp from congrArg Ar.cmp ho, show oBin = real.bin from congrArg Ar.bin ho, show oScmp = real.scmp from congrArg Ar.scmp ho, show oPickB = real.pickB from congrArg Ar.pickB ho]; decide)) ?_; cbv)
    | (with_reducible refine brA.no (by first | assumption | exact rfl | (simp only [show oCmp = real.cmp from congrArg Ar.cmp ho, show oBin = real.bin from congrArg Ar.bin ho, show oScmp = real.scmp from congrArg Ar.scmp ho, show oPickB = real.pickB from congrArg Ar.pickB ho]; decide)) ?_; cbv)
    | (with_reducible refine bcase (fun hb => ?_) (fun hb => ?_) <;> cbv)
    | (intro K' hK'; cbv))))
  refine ⟨fun st => ∃ (i : Nat) (j : Int) (m : ML) (L : Bag), j = i ∧ i ≤ qs.length ∧ AMP m L (qs.take i) ∧ st = ⟨mkF 26 0 [(3, .map 1), (7, .d (.imm r)), (8, .d (.int .i64 (oLen r))), (9, .d (.int .i64 j))], 3, [(2, .bag 1 L), (1, .mp .i64 m)]⟩, fun st => ((qs.length : Int) - ctr 9 st).toNat, ⟨[], [(0, 2)], [3, 7, 8, 9], [0, 1], 3⟩, ?_, ?_, ?_⟩
  · cbv
  · exact ⟨0, 0, [], [], rfl, Nat.zero_le _, AMP.nil, rfl⟩
  rintro st1 ⟨i, j, m, L, hj, hi, hA, rfl⟩
  cbv
  (repeat (any_goals (first
    | with_reducible refine And.intro ?_ ?_
    | exact True.intro
    | with_reducible exact rfl
    | (with_reducible refine Nd.mk ?_; try dsimp only)
    | (with_reducible refine Nd0.mk ?_; try dsimp only)
    | (with_reducible refine Pz.mk ?_; cbv)
    | (with_reducible refine RgOK.mk ?_; kernel_rfl)
    | (with_reducible refine OrOK.mk ?_; kernel_rfl)
    | (with_reducible refine Al.mk (fun x hx => ?_); cbv)
    | (with_reducible refine hK' _ ?_; clear hK' K'; cbv)
    | (with_reducible refine brA.yes (by first | assumption | exact rfl | (simp only [show oCmp = real.cmp from congrArg Ar.cmp ho, show oBin = real.bin from congrArg Ar.bin ho, show oScmp = real.scmp from congrArg Ar.scmp ho, show oPickB = real.pickB from congrArg Ar.pickB ho]; decide)) ?_; cbv)
    | (with_reducible refine brA.no (by first | assumption | exact rfl | (simp only [show oCmp = real.cmp from congrArg Ar.cmp ho, show oBin = real.bin from congrArg Ar.bin ho, show oScmp = real.scmp from congrArg Ar.scmp ho, show oPickB = real.pickB from congrArg Ar.pickB ho]; decide)) ?_; cbv)
    | (with_reducible refine bcase (fun hb => ?_) (fun hb => ?_) <;> cbv)
    | (intro K' hK'; cbv))))
  any_goals first
    | exact hA.sl _ (by assumption)
    | (obtain ⟨xs, L', h1, h2, h3⟩ := amp_app ho hr hl hA hj hb hx
       refine ⟨xs, L', h1, h2, fun v' hs => ?_⟩
       cbv
       (repeat (any_goals (first
    | with_reducible refine And.intro ?_ ?_
    | exact True.intro
    | with_reducible exact rfl
    | (with_reducible refine Nd.mk ?_; try dsimp only)
    | (with_reducible refine Nd0.mk ?_; try dsimp only)
    | (with_reducible refine Pz.mk ?_; cbv)
    | (with_reducible refine RgOK.mk ?_; kernel_rfl)
    | (with_reducible refine OrOK.mk ?_; kernel_rfl)
    | (with_reducible refine Al.mk (fun x hx => ?_); cbv)
    | (with_reducible refine hK' _ ?_; clear hK' K'; cbv)
    | (with_reducible refine brA.yes (by first | assumption | exact rfl | (simp only [show oCmp = real.cmp from congrArg Ar.cmp ho, show oBin = real.bin from congrArg Ar.bin ho, show oScmp = real.scmp from congrArg Ar.scmp ho, show oPickB = real.pickB from congrArg Ar.pickB ho]; decide)) ?_; cbv)
    | (with_reducible refine brA.no (by first | assumption | exact rfl | (simp only [show oCmp = real.cmp from congrArg Ar.cmp ho, show oBin = real.bin from congrArg Ar.bin ho, show oScmp = real.scmp from congrArg Ar.scmp ho, show oPickB = real.pickB from congrArg Ar.pickB ho]; decide)) ?_; cbv)
    | (with_reducible refine bcase (fun hb => ?_) (fun hb => ?_) <;> cbv)
    | (intro K' hK'; cbv)))))
  all_goals ((try clear hK' K'); cases ho; (try simp only [nc1] at *); (try simp only [Int.ofNat_eq_natCast] at *))
  all_goals first
    | with_reducible exact inb_lt hj (by assumption)
    | with_reducible exact ln_wf hr
    | with_reducible exact ln_ok hr hj (by assumption)
    | with_reducible exact row1_ok _ _
    | with_reducible exact row1_ok1 _ _
    | (have hi' := ln_lt hr hj (by assumption)
       refine ⟨⟨[], [(4, 2)], [3, 7, 8, 9], [4, 1], 3⟩, rfl, ⟨i + 1, _, _, _, addL hj (by omega), by omega, h3 _ hs, by cases xs <;> rfl⟩, ?_⟩
       show ((qs.length : Int) - real.bin .add .i64 j 1).toNat < ((qs.length : Int) - j).toNat
       rw [addL hj (by omega)]; omega)
    | (refine ⟨⟨[], [(2, 1), (1, 0)], [0], [2, 1], 2⟩, _, 2, _, rfl, rfl, m, L, ?_, rfl, rfl, rfl⟩
       have := ln_end hr hj hi (by assumption)
       rwa [this, List.take_length] at hA)
    | trace_state
end Go.Proofs.Yteakfibolfapiaa.Ab
end
