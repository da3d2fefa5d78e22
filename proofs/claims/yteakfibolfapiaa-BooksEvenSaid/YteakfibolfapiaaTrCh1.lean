/- Charts: what stands in memory; New, Right, Get, Add. -/
import Derived.Test.YteakfibolfapiaaTrAb21
import Derived.Test.YteakfibolfapiaaTrAbT
import Derived.Test.YteakfibolfapiaaShelf
namespace Go.Proofs.Yteakfibolfapiaa.Ab
open Go Go.RowKit Go.Sort
set_option linter.unusedVariables false
set_option linter.unusedSimpArgs false
set_option maxRecDepth 100000
set_option maxHeartbeats 4000000
def I64 (x : Int) : Prop := -9223372036854775808 ≤ x ∧ x ≤ 9223372036854775807
theorem toTop {f n : Nat} {h : Hp} {args : List AV} {K : CallK} (hc : CallE Try.prog f args n h fun _ n h => K .top n h) : CallE Try.prog f args n h K :=
  hc.weaken fun v n h hk => ⟨.top, hk, fun _ _ _ _ _ => trivial⟩
/-- A result, and what a caller may forget. -/
def Fin (n0 : Nat) (K : CallK) (v : AV) (n : Nat) (h : Hp) : Prop := ∃ (k : Wk) (v2 : AV) (n2 : Nat) (h2 : Hp), wkOK n0 k ⟨[v], n, h⟩ = true ∧ wk k ⟨[v], n, h⟩ = ⟨[v2], n2, h2⟩ ∧ K v2 n2 h2
theorem CallE.fin {P : Program} {f n : Nat} {h : Hp} {args : List AV} {K : CallK} (hc : CallE P f args n h (fun v n' h' => Nd (fun _ => Fin n K v n' h'))) : CallE P f args n h K := by
  have key : ∀ {ρ w v w'}, Done (fun v n' h' => Nd (fun _ => Fin n K v n' h')) n ρ h w v w' → Done K n ρ h w v w' := by
    rintro ρ w v w' ⟨av, ρ', n', h', ⟨k, v2, n2, h2, h1, h3, h4⟩, hr, hn, hv, hg⟩
    obtain ⟨ρ2, r2, g2, g3⟩ := wk_sound (n0 := n) (k := k) (st := ⟨[av], n', h'⟩) (a := ⟨#[v], []⟩) ⟨rfl, ⟨v, [], rfl, hv, rfl⟩, hr⟩ hn h1
    rw [h3] at r2 g2 g3
    obtain ⟨x, r, hx, hx2, -⟩ := r2.fr
    simp only [List.cons.injEq] at hx
    obtain ⟨rfl, -⟩ := hx
    exact ⟨v2, ρ2, n2, h2, h4, r2.rep, g2, hx2, hg.trans g3⟩
  cases hc with
  | enter fn hf hn hb run =>
    refine .enter fn hf hn hb (fun ρ w vs hr ha => Calls.mono (run ρ w vs hr ha) ?_)
    rintro e w' ⟨v, rfl, hd⟩
    exact ⟨v, rfl, key hd⟩
  | ext run =>
    refine .ext (fun ρ w vs hr ha => ?_)
    obtain ⟨v, w', h1, h2⟩ := run ρ w vs hr ha
    exact ⟨v, w', h1, key h2⟩
abbrev ML := List (Int × Value)
/-- A chart's object, and its map. -/
def pat2 (h : Hp) (i : Nat) (p : Nat → ML → Prop) : Prop := match hget h i with
  | some (.cells [.map j]) => (match hget h j with | some (.mp .i64 m) => p j m | _ => False)
  | _ => False
theorem pat2_elim {h : Hp} {i : Nat} {p : Nat → ML → Prop} (hp : pat2 h i p) : ∃ j m, hget h i = some (.cells [.map j]) ∧ hget h j = some (.mp .i64 m) ∧ p j m := by
  unfold pat2 at hp
  split at hp
  · rename_i j h1
    split at hp
    · rename_i m h2
      exact ⟨j, m, h1, h2, hp⟩
    · exact hp.elim
  · exact hp.elim
def two (i j : Nat) (x : Nat) : Nat := bif x == 0 then j else i
def out2 (i j : Nat) (h : Hp) (m : ML) : Hp := outs (two i j) 2 h ++ [(j, .mp .i64 m), (i, .cells [.map j])]
theorem call_recv2 {f i j n : Nat} {m : ML} {h : Hp} {rest : List AV} {K0 K : CallK} (hc : CallE Try.prog f (.ptr 1 0 :: rest) 2 [(0, .mp .i64 m), (1, .cells [.map 0])] K0) (hr : idsVs rest = []) (hi : i < n) (hj : j < n) (hij : i ≠ j) (hg : hget h i = some (.cells [.map j])) (hg2 : hget h j = some (.mp .i64 m))
    (hK : ∀ v n1 h1, K0 v n1 h1 → 2 ≤ n1 → K (renV (lift (two i j) 2 n) v) (n + (n1 - 2)) (outs (two i j) 2 h ++ renH (lift (two i j) 2 n) h1)) : CallE Try.prog f (.ptr i 0 :: rest) n h K := by
  refine call_frame (g := two i j) hc ?_ rfl (fun a b ha hb e => ?_) (fun a ha => ?_) ?_ ?_ (fun v n1 h1 hn h2 => hK v n1 h1 h2 hn)
  · simp only [renVs, renV]
    rw [renVs_none rest hr]
    rfl
  · have h1 : a = 0 ∨ a = 1 := by omega
    have h2 : b = 0 ∨ b = 1 := by omega
    rcases h1 with rfl | rfl <;> rcases h2 with rfl | rfl <;> first | rfl | exact absurd e (fun e => hij (by simp [two] at e; omega))
  · have h1 : a = 0 ∨ a = 1 := by omega
    rcases h1 with rfl | rfl
    · exact hj
    · exact hi
  · intro a o hm
    simp only [List.mem_cons, Prod.mk.injEq, List.not_mem_nil, or_false] at hm
    rcases hm with ⟨rfl, rfl⟩ | ⟨rfl, rfl⟩
    · exact ⟨hget_mem hg2, fun j hj => by cases hj⟩
    · exact ⟨hget_mem hg, fun j hj => by simp [idsO, idsVs, idsV] at hj; omega⟩
  · intro j hj
    rw [show idsVs (.ptr 1 0 :: rest) = [1] ++ idsVs rest from rfl, hr] at hj
    simp at hj
    omega
/-! New -/
theorem K_New0 : CallE Try.prog 8 [] 0 [] (fun v n h => Nd (fun _ => v = .ptr 1 0 ∧ n = 2 ∧ h = [(0, .mp .i64 []), (1, .cells [.map 0])])) := by
  refine call_fn tysOK orders (C := C0) C0_ok H0 Try.func8 (by kernel_rfl) (by kernel_rfl) ?_
  intro oBin oCmp oWrap oNeg oCom oBnot oBeq oPickB oPickI oPickS oInb oSub2 oMinI oMaxI oSlen oSidx oScat oSsub oScmp oScok oLen oCI oCB oCS oCL oOkR oApp oApok oSub oSetc oRep oMkok oNthI oNthB oNthS oIteI oIteB oIteS oB2s oS2b oAllB oWf oDeq oMlen oMhas oMI oMB oMS oMok oMput oMdel oSgo oSru oSnx ho; cbv
  (repeat (any_goals (first
    | with_reducible refine And.intro ?_ ?_
    | exact True.intro
    | with_reducible exact rfl
    | (with_reducible refine Nd.mk ?_; try dsimp only)
    | (with_reducible refine Nd0.mk ?_; try dsimp only)
    | (with_reducible refine Pz.mk ?_; cbv)
    | (with_reducible refine RgOK.mk ?_; kernel_rfl)
    | (with_reducible refine OrOK.mk ?_; kernel_rfl)
    | (with_reducible refine Al.mk (fun x hx => ?_); cbv)
    | (with_reducible refine hK' _ ?_; clear hK' K'; cbv)
    | (with_reducible refine brA.yes (by first | assumption | exact rfl | (simp only [show oCmp = real.cmp from congrArg Ar.cmp ho, show oBin = real.bin from congrArg Ar.bin ho, show oScmp = real.scmp from congrArg Ar.scmp ho, show oPickB = real.pickB from congrArg Ar.pickB ho]; decide)) ?_; cbv)
    | (with_reducible refine brA.no (by first | assumption | exact rfl | (simp only [show oCmp = real.cmp from congrArg Ar.cmp ho, show oBin = real.bin from congrArg Ar.bin ho, show oScmp = real.scmp from congrArg Ar.scmp ho, show oPickB = real.pickB from congrArg Ar.pickB ho]; decide)) ?_; cbv)
    | (with_reducible refine bcase (fun hb => ?_) (fun hb => ?_) <;> cbv)
    | (intro K' hK'; cbv))))
  all_goals ((try clear hK' K'); cases ho; (try simp only [nc1] at *); (try simp only [Int.ofNat_eq_natCast] at *))
  all_goals first
    | exact ⟨rfl, rfl, rfl⟩
    | trace_state
/-! Right -/
def okB (b : UInt8) : Bool := decide (32 ≤ b.toNat ∧ b.toNat ≤ 126)
def rightN (s : List UInt8) : Bool := decide (1 ≤ s.length ∧ s.length ≤ 24) && s.all okB
def rightB (c k : Int) (s : List UInt8) : Bool := decide (1 ≤ c ∧ c ≤ 65535) && decide (1 ≤ k ∧ k ≤ 5) && rightN s
/-! runes -/
theorem dec_lo (s : ByteArray) (i : Nat) (h : (s.get! i).toNat < 128) : Utf8.decode s i = ((s.get! i).toNat, 1) := by
  unfold Utf8.decode
  simp only [Nat.add_zero, h, if_true]
theorem dec_hi (s : ByteArray) (i : Nat) (h : ¬ (s.get! i).toNat < 128) : 128 ≤ (Utf8.decode s i).1 := by
  unfold Utf8.decode
  simp only [Nat.add_zero, h, if_false]
  split
  · split
    · assumption
    · decide
  · split
    · split
      · rename_i h1
        simp only [Bool.and_eq_true, decide_eq_true_eq] at h1
        dsimp only
        omega
      · decide
    · split
      · split
        · rename_i h1
          simp only [Bool.and_eq_true, decide_eq_true_eq] at h1
          dsimp only
          omega
        · decide
      · decide
theorem get_b (s : List UInt8) (q : Nat) : (ByteArray.mk s.toArray).get! q = s.getD q 0 := by
  show s.toArray[q]! = _
  rw [List.getD_eq_getElem?_getD]
  simp [Array.getElem!_eq_getD, Array.getD_eq_getD_getElem?]
  rfl
theorem sgo_lt {s : List UInt8} {p : Int} {q : Nat} (hp : p = q) (h : real.sgo s p = true) : q < s.length := by
  subst hp
  simpa [real] using h
theorem sgo_end {s : List UInt8} {p : Int} {q : Nat} (hp : p = q) (h : real.sgo s p = false) : s.length ≤ q := by
  subst hp
  simpa [real] using h
theorem bad_at {s : List UInt8} {q : Nat} (hq : q < s.length) (h : okB (s.getD q 0) = false) : rightN s = false := by
  unfold rightN
  rw [Bool.and_eq_false_iff]
  right
  rw [Bool.eq_false_iff]
  intro ha
  rw [List.all_eq_true] at ha
  have := ha (s.getD q 0) (by rw [List.getD_eq_getElem?_getD, List.getElem?_eq_getElem hq]; exact List.getElem_mem _)
  rw [h] at this
  cases this
theorem sru_lt {s : List UInt8} {p : Int} {q : Nat} (hp : p = q) (h : real.sgo s p = true) (hb : real.sru s p < 32) : rightN s = false := by
  have hq := sgo_lt hp h
  subst hp
  refine bad_at hq ?_
  simp only [real, Int.toNat_natCast] at hb
  by_cases h1 : ((ByteArray.mk s.toArray).get! q).toNat < 128
  · rw [dec_lo _ _ h1, get_b] at hb
    simp only [okB, decide_eq_false_iff_not]
    dsimp only at hb
    omega
  · have := dec_hi _ _ h1
    omega
theorem sru_gt {s : List UInt8} {p : Int} {q : Nat} (hp : p = q) (h : real.sgo s p = true) (hb : 126 < real.sru s p) : rightN s = false := by
  have hq := sgo_lt hp h
  subst hp
  refine bad_at hq ?_
  simp only [real, Int.toNat_natCast] at hb
  by_cases h1 : ((ByteArray.mk s.toArray).get! q).toNat < 128
  · rw [dec_lo _ _ h1, get_b] at hb
    simp only [okB, decide_eq_false_iff_not]
    dsimp only at hb
    omega
  · rw [get_b] at h1
    simp only [okB, decide_eq_false_iff_not]
    omega
theorem sru_ok {s : List UInt8} {p : Int} {q : Nat} (hp : p = q) (h : real.sgo s p = true) (h0 : 32 ≤ real.sru s p) (h2 : real.sru s p ≤ 126) (ha : (s.take q).all okB = true) : real.snx s p = ((q + 1 : Nat) : Int) ∧ (s.take (q + 1)).all okB = true := by
  have hq := sgo_lt hp h
  subst hp
  simp only [real, Int.toNat_natCast] at h0 h2 ⊢
  by_cases h1 : ((ByteArray.mk s.toArray).get! q).toNat < 128
  · rw [dec_lo _ _ h1] at h0 h2 ⊢
    refine ⟨rfl, ?_⟩
    rw [get_b] at h0 h2
    dsimp only at h0 h2
    rw [List.take_add_one, List.all_append, ha, List.getElem?_eq_getElem hq]
    rw [List.getD_eq_getElem?_getD, List.getElem?_eq_getElem hq] at h0 h2
    simp only [Option.getD_some] at h0 h2
    simp [okB]
    omega
  · have := dec_hi _ _ h1
    omega
def sitp (i : Nat) (st : St) : Int := match hget st.h i with | some (.sit _ p) => p | _ => 0
theorem pkf (b : Bool) : real.pickB false true b = b := rfl
theorem lssI (a b : Int) : real.cmp .lss a b = decide (a < b) := rfl
theorem gtrI (a b : Int) : real.cmp .gtr a b = decide (a > b) := rfl
theorem fin_b {b r : Bool} (h : b = r) : Fin 0 (Gets fun v => v = AV.d (.bool r)) (.d (.bool b)) 0 [] := ⟨⟨[], [], [0], [], 0⟩, _, 0, _, rfl, rfl, ⟨show AV.d (.bool b) = .d (.bool r) by rw [h]⟩, rfl, rfl, rfl⟩
theorem rb_code {c k : Int} {s : List UInt8} (h : c < 1 ∨ c > 65535) : false = rightB c k s := by
  have : ¬ (1 ≤ c ∧ c ≤ 65535) := by omega
  simp [rightB, this]
theorem rb_kind {c k : Int} {s : List UInt8} (h : k < 1 ∨ k > 5) : false = rightB c k s := by
  have : ¬ (1 ≤ k ∧ k ≤ 5) := by omega
  simp [rightB, this]
theorem rb_name {c k : Int} {s : List UInt8} (h : rightN s = false) : false = rightB c k s := by simp [rightB, h]
theorem rn_nil {s : List UInt8} (h : real.scmp .eql s [] = true) : rightN s = false := by
  have : s = [] := by simpa [real, rScmp] using h
  subst this; rfl
theorem rn_long {s : List UInt8} (h : real.slen s > 24) : rightN s = false := by
  have h : (s.length : Int) > 24 := h
  have : ¬ (1 ≤ s.length ∧ s.length ≤ 24) := by omega
  simp only [rightN, this, decide_false, Bool.false_and]
theorem rb_yes {c k p : Int} {s : List UInt8} {q : Nat} (h1 : ¬ c < 1) (h2 : ¬ c > 65535) (h3 : ¬ k < 1) (h4 : ¬ k > 5) (h5 : real.scmp .eql s [] = false) (h6 : ¬ real.slen s > 24) (hp : p = q) (hg : real.sgo s p = false) (ha : (s.take q).all okB = true) : true = rightB c k s := by
  have hl := sgo_end hp hg
  rw [List.take_of_length_le hl] at ha
  have h6 : ¬ (s.length : Int) > 24 := h6
  have h7 : s ≠ [] := by
    intro e
    subst e
    cases h5
  have h8 : 1 ≤ s.length := List.length_pos_iff.2 h7
  have e1 : (1 ≤ c ∧ c ≤ 65535) := by omega
  have e2 : (1 ≤ k ∧ k ≤ 5) := by omega
  have e3 : (1 ≤ s.length ∧ s.length ≤ 24) := by omega
  simp only [rightB, rightN, e1, e2, e3, ha, decide_true, and_self, Bool.and_self]
theorem K_Right0 (c k : Int) (s : List UInt8) : CallE Try.prog 27 [.d (.agg [.int .i64 c, .int .u8 k, .str s])] 0 [] (fun v n h => Nd (fun _ => Fin 0 (Gets fun v => v = .d (.bool (rightB c k s))) v n h)) := by
  refine call_fn tysOK orders (C := C0) C0_ok H0 Try.func27 (by kernel_rfl) (by kernel_rfl) ?_
  intro oBin oCmp oWrap oNeg oCom oBnot oBeq oPickB oPickI oPickS oInb oSub2 oMinI oMaxI oSlen oSidx oScat oSsub oScmp oScok oLen oCI oCB oCS oCL oOkR oApp oApok oSub oSetc oRep oMkok oNthI oNthB oNthS oIteI oIteB oIteS oB2s oS2b oAllB oWf oDeq oMlen oMhas oMI oMB oMS oMok oMput oMdel oSgo oSru oSnx ho; cbv
  (repeat (any_goals (first
    | with_reducible refine And.intro ?_ ?_
    | exact True.intro
    | with_reducible exact rfl
    | (with_reducible refine Nd.mk ?_; try dsimp only)
    | (with_reducible refine Nd0.mk ?_; try dsimp only)
    | (with_reducible refine Pz.mk ?_; cbv)
    | (with_reducible refine RgOK.mk ?_; kernel_rfl)
    | (with_reducible refine OrOK.mk ?_; kernel_rfl)
    | (with_reducible refine Al.mk (fun x hx => ?_); cbv)
    | (with_reducible refine hK' _ ?_; clear hK' K'; cbv)
    | (with_reducible refine brA.yes (by first | assumption | exact rfl | (simp only [show oCmp = real.cmp from congrArg Ar.cmp ho, show oBin = real.bin from congrArg Ar.bin ho, show oScmp = real.scmp from congrArg Ar.scmp ho, show oPickB = real.pickB from congrArg Ar.pickB ho]; decide)) ?_; cbv)
    | (with_reducible refine brA.no (by first | assumption | exact rfl | (simp only [show oCmp = real.cmp from congrArg Ar.cmp ho, show oBin = real.bin from congrArg Ar.bin ho, show oScmp = real.scmp from congrArg Ar.scmp ho, show oPickB = real.pickB from congrArg Ar.pickB ho]; decide)) ?_; cbv)
    | (with_reducible refine bcase (fun hb => ?_) (fun hb => ?_) <;> cbv)
    | (intro K' hK'; cbv))))
  any_goals (refine ⟨fun st => ∃ (q : Nat) (p : Int), p = q ∧ q ≤ s.length ∧ (s.take q).all okB = true ∧ st = ⟨mkF 46 0 [(36, .iter 1)], 2, [(1, .sit s p)]⟩, fun st => ((s.length : Int) - sitp 1 st).toNat, ⟨[], [], [36], [1], 2⟩, ?_, ?_, ?_⟩
             · cbv
             · exact ⟨0, 0, rfl, Nat.zero_le _, rfl, rfl⟩
             rintro st1 ⟨q, p, hp, hq, ha, rfl⟩
             cbv
             (repeat (any_goals (first
    | with_reducible refine And.intro ?_ ?_
    | exact True.intro
    | with_reducible exact rfl
    | (with_reducible refine Nd.mk ?_; try dsimp only)
    | (with_reducible refine Nd0.mk ?_; try dsimp only)
    | (with_reducible refine Pz.mk ?_; cbv)
    | (with_reducible refine RgOK.mk ?_; kernel_rfl)
    | (with_reducible refine OrOK.mk ?_; kernel_rfl)
    | (with_reducible refine Al.mk (fun x hx => ?_); cbv)
    | (with_reducible refine hK' _ ?_; clear hK' K'; cbv)
    | (with_reducible refine brA.yes (by first | assumption | exact rfl | (simp only [show oCmp = real.cmp from congrArg Ar.cmp ho, show oBin = real.bin from congrArg Ar.bin ho, show oScmp = real.scmp from congrArg Ar.scmp ho, show oPickB = real.pickB from congrArg Ar.pickB ho]; decide)) ?_; cbv)
    | (with_reducible refine brA.no (by first | assumption | exact rfl | (simp only [show oCmp = real.cmp from congrArg Ar.cmp ho, show oBin = real.bin from congrArg Ar.bin ho, show oScmp = real.scmp from congrArg Ar.scmp ho, show oPickB = real.pickB from congrArg Ar.pickB ho]; decide)) ?_; cbv)
    | (with_reducible refine bcase (fun hb => ?_) (fun hb => ?_) <;> cbv)
    | (intro K' hK'; cbv)))))
  all_goals ((try clear hK' K'); cases ho; (try simp only [nc1] at *); (try simp only [Int.ofNat_eq_natCast] at *))
  all_goals (try simp only [pkf, lssI, gtrI, decide_eq_true_eq, decide_eq_false_iff_not] at *)
  all_goals first
    | exact fin_b (rb_code (.inl (by assumption)))
    | exact fin_b (rb_code (.inr (by assumption)))
    | exact fin_b (rb_kind (.inl (by assumption)))
    | exact fin_b (rb_kind (.inr (by assumption)))
    | with_reducible exact fin_b (rb_name (rn_nil (by assumption)))
    | with_reducible exact fin_b (rb_name (sru_lt hp (by assumption) (by assumption)))
    | with_reducible exact fin_b (rb_name (sru_gt hp (by assumption) (by assumption)))
    | with_reducible exact fin_b (rb_name (rn_long (by assumption)))
    | with_reducible exact fin_b (rb_yes (by assumption) (by assumption) (by assumption) (by assumption) (by assumption) (by assumption) hp (by assumption) ha)
    | (have hgo : real.sgo s p = true := by assumption
       have hlt := sgo_lt hp hgo
       obtain ⟨h1, h2⟩ := sru_ok hp hgo (by omega) (by omega) ha
       refine ⟨⟨[], [], [36], [1], 2⟩, rfl, ⟨q + 1, real.snx s p, h1, by omega, h2, rfl⟩, ?_⟩
       show ((s.length : Int) - real.snx s p).toNat < ((s.length : Int) - p).toNat
       rw [h1]; omega)
    | trace_state
def S_New (K : CallK) (n : Nat) (h : Hp) : Prop := K (.ptr (n + 1) 0) (n + 2) (h ++ [(n, .mp .i64 []), (n + 1, .cells [.map n])])
theorem L_New {n : Nat} {h : Hp} {K : CallK} (hK : S_New K n h) : CallE Try.prog 8 [] n h K := by
  refine call_frame (g := fun i => i) K_New0 rfl rfl (fun i j hi => absurd hi (Nat.not_lt_zero _)) (fun i hi => absurd hi (Nat.not_lt_zero _)) (fun i o hm => by cases hm) (by intro j hj; cases hj) ?_
  rintro v n1 h1 - ⟨⟨rfl, rfl, rfl⟩⟩
  rw [outs_zero]
  have e : n + (2 - 0) = n + 2 := rfl
  have e0 : lift (fun i => i) 0 n 0 = n := by simp [lift]; rfl
  have e1 : lift (fun i => i) 0 n 1 = n + 1 := by simp [lift]; rfl
  simp only [renH, renV, renO, renVs, e0, e1, e]
  exact hK
def S_Right (c k : Int) (s : List UInt8) (K : CallK) (n : Nat) (h : Hp) : Prop := Al (fun b => b = rightB c k s) fun b => K (.d (.bool b)) n h
theorem L_Right {c k : Int} {s : List UInt8} {n : Nat} {h : Hp} {K : CallK} (hK : S_Right c k s K n h) : CallE Try.prog 27 [.d (.agg [.int .i64 c, .int .u8 k, .str s])] n h K :=
  call_data (CallE.fin (K_Right0 c k s)) rfl (by rintro v rfl; exact hK.h _ rfl)
/-! Clone -/
def S_Cl (s : List UInt8) (K : CallK) (n : Nat) (h : Hp) : Prop := Nd (fun _ => s.length ≤ 281474976710656) ∧ K (.d (.str s)) n h
theorem L_slClone {s : List UInt8} {n : Nat} {h : Hp} {K : CallK} (hK : S_Cl s K n h) : CallE Try.prog 62 [.d (.str s)] n h K :=
  call_old (v := .string ⟨s.toArray⟩) Try.func62 (by kernel_rfl) (by kernel_rfl) (vals := [.string ⟨s.toArray⟩]) (by intro ρ w M vs h; simpa [RelVs, RelV, RelD] using h) (by intro ρ w M; simp [RelV, RelD]) (fun w hJ => Try.stringslite_Clone ⟨s.toArray⟩ w (by have := hK.1.h; simpa [ByteArray.size] using this)) hK.2
def C1 : CallS := fun f args n h K => match f with
  | 62 => (match args with | [.d (.str s)] => S_Cl s K n h | _ => False)
  | _ => False
theorem C1_ok : ∀ f args n h K, C1 f args n h K → CallE Try.prog f args n h K := by
  intro f args n h K hc
  unfold C1 at hc
  split at hc
  · split at hc
    · exact L_slClone hc
    · exact hc.elim
  · exact hc.elim
theorem K_Clone0 (s : List UInt8) (hs : s.length ≤ 281474976710656) : CallE Try.prog 41 [.d (.str s)] 0 [] (fun v n h => Nd (fun _ => Fin 0 (Gets fun v => v = .d (.str s)) v n h)) := by
  refine call_fn tysOK orders (C := C1) C1_ok H0 Try.func41 (by kernel_rfl) (by kernel_rfl) ?_
  intro oBin oCmp oWrap oNeg oCom oBnot oBeq oPickB oPickI oPickS oInb oSub2 oMinI oMaxI oSlen oSidx oScat oSsub oScmp oScok oLen oCI oCB oCS oCL oOkR oApp oApok oSub oSetc oRep oMkok oNthI oNthB oNthS oIteI oIteB oIteS oB2s oS2b oAllB oWf oDeq oMlen oMhas oMI oMB oMS oMok oMput oMdel oSgo oSru oSnx ho; cbv
  (repeat (any_goals (first
    | with_reducible refine And.intro ?_ ?_
    | exact True.intro
    | with_reducible exact rfl
    | (with_reducible refine Nd.mk ?_; try dsimp only)
    | (with_reducible refine Nd0.mk ?_; try dsimp only)
    | (with_reducible refine Pz.mk ?_; cbv)
    | (with_reducible refine RgOK.mk ?_; kernel_rfl)
    | (with_reducible refine OrOK.mk ?_; kernel_rfl)
    | (with_reducible refine Al.mk (fun x hx => ?_); cbv)
    | (with_reducible refine hK' _ ?_; clear hK' K'; cbv)
    | (with_reducible refine brA.yes (by first | assumption | exact rfl | (simp only [show oCmp = real.cmp from congrArg Ar.cmp ho, show oBin = real.bin from congrArg Ar.bin ho, show oScmp = real.scmp from congrArg Ar.scmp ho, show oPickB = real.pickB from congrArg Ar.pickB ho]; decide)) ?_; cbv)
    | (with_reducible refine brA.no (by first | assumption | exact rfl | (simp only [show oCmp = real.cmp from congrArg Ar.cmp ho, show oBin = real.bin from congrArg Ar.bin ho, show oScmp = real.scmp from congrArg Ar.scmp ho, show oPickB = real.pickB from congrArg Ar.pickB ho]; decide)) ?_; cbv)
    | (with_reducible refine bcase (fun hb => ?_) (fun hb => ?_) <;> cbv)
    | (intro K' hK'; cbv))))
  all_goals ((try clear hK' K'); cases ho; (try simp only [nc1] at *); (try simp only [Int.ofNat_eq_natCast] at *))
  all_goals first
    | exact hs
    | exact ⟨⟨[], [], [0], [], 0⟩, _, 0, _, rfl, rfl, ⟨rfl⟩, rfl, rfl, rfl⟩
    | trace_state
theorem L_Clone {s : List UInt8} {n : Nat} {h : Hp} {K : CallK} (hK : S_Cl s K n h) : CallE Try.prog 41 [.d (.str s)] n h K :=
  call_data (CallE.fin (K_Clone0 s hK.1.h)) rfl (by rintro v rfl; exact hK.2)
/-! what a chart holds -/
def acV (c k : Int) (s : List UInt8) : Value := .agg ⟨[.int .i64 c, .int .u8 k, .string ⟨⟨s⟩⟩]⟩
structure gC (m : ML) : Prop where
  h : ∀ p ∈ m, ∃ k s, p.2 = acV p.1 k s
theorem gC_ok {m : ML} (h : gC m) : real.mok m [.int .i64, .int .u8, .str] true = true := by
  simp only [real, List.all_eq_true]
  intro p hp
  obtain ⟨k, s, e⟩ := h.h p hp
  rw [e]
  rfl
def addE (m : ML) (c k : Int) (s : List UInt8) : Int := bif rightB c k s then (bif (Mk.look m c).isSome then 16 else if 64 ≤ m.length then 7 else 0) else 2
def addC (m : ML) (c k : Int) (s : List UInt8) : ML := if addE m c k s = 0 then Mk.put m c (acV c k s) else m
def C2 : CallS := fun f args n h K => match f with
  | 41 => (match args with | [.d (.str s)] => S_Cl s K n h | _ => False)
  | 27 => (match args with | [.d (.agg [.int .i64 c, .int .u8 k, .str s])] => S_Right c k s K n h | _ => False)
  | _ => False
theorem C2_ok : ∀ f args n h K, C2 f args n h K → CallE Try.prog f args n h K := by
  intro f args n h K hc
  unfold C2 at hc
  split at hc
  · split at hc
    · exact L_Clone hc
    · exact hc.elim
  · split at hc
    · exact L_Right hc
    · exact hc.elim
  · exact hc.elim
theorem fin_add {m m' : ML} {c k e : Int} {s : List UInt8} (h : e = addE m c k s ∧ m' = addC m c k s) : Fin 2 (fun v n h => v = .d (.int .i64 (addE m c k s)) ∧ n = 2 ∧ h = [(0, .mp .i64 (addC m c k s)), (1, .cells [.map 0])]) (.d (.int .i64 e)) 2 [(0, .mp .i64 m'), (1, .cells [.map 0])] := by
  obtain ⟨rfl, rfl⟩ := h
  exact ⟨⟨[], [], [0], [0, 1], 2⟩, _, 2, _, rfl, rfl, rfl, rfl, rfl⟩
theorem ae_arg {m : ML} {c k : Int} {s : List UInt8} {x : Bool} (hx : x = rightB c k s) (hb : real.bnot x = true) : 2 = addE m c k s ∧ m = addC m c k s := by
  subst hx
  have h : rightB c k s = false := by simpa [real] using hb
  have e : addE m c k s = 2 := by simp [addE, h]
  exact ⟨e.symm, by simp [addC, e]⟩
theorem ae_there {m : ML} {c k : Int} {s : List UInt8} {x : Bool} (hx : x = rightB c k s) (hb : real.bnot x = false) (h1 : real.mhas m c = true) : 16 = addE m c k s ∧ m = addC m c k s := by
  subst hx
  have h : rightB c k s = true := by simpa [real] using hb
  have h1 : (Mk.look m c).isSome = true := h1
  have e : addE m c k s = 16 := by simp only [addE, h, h1, cond_true]
  exact ⟨e.symm, by simp [addC, e]⟩
theorem ae_full {m : ML} {c k : Int} {s : List UInt8} {x : Bool} (hx : x = rightB c k s) (hb : real.bnot x = false) (h1 : real.mhas m c = false) (h2 : real.cmp .geq (real.mlen m) 64 = true) : 7 = addE m c k s ∧ m = addC m c k s := by
  subst hx
  have h : rightB c k s = true := by simpa [real] using hb
  have h1 : (Mk.look m c).isSome = false := h1
  have h2 : 64 ≤ m.length := by simp only [real, rCmp, decide_eq_true_eq] at h2; omega
  have e : addE m c k s = 7 := by simp only [addE, h, h1, cond_true, cond_false, if_pos h2]
  exact ⟨e.symm, by simp [addC, e]⟩
theorem ae_ok {m : ML} {c k : Int} {s : List UInt8} {x : Bool} (hx : x = rightB c k s) (hb : real.bnot x = false) (h1 : real.mhas m c = false) (h2 : real.cmp .geq (real.mlen m) 64 = false) : 0 = addE m c k s ∧ real.mput m c (.agg ⟨[.int .i64 c, .int .u8 k, .string ⟨⟨s⟩⟩]⟩) = addC m c k s := by
  subst hx
  have h : rightB c k s = true := by simpa [real] using hb
  have h1 : (Mk.look m c).isSome = false := h1
  have h2 : ¬ 64 ≤ m.length := by simp only [real, rCmp, decide_eq_false_iff_not] at h2; omega
  have e : addE m c k s = 0 := by simp only [addE, h, h1, cond_true, cond_false, if_neg h2]
  exact ⟨e.symm, by rw [addC, if_pos e]; rfl⟩
theorem right_len {c k : Int} {s : List UInt8} {x : Bool} (hx : x = rightB c k s) (hb : real.bnot x = false) : s.length ≤ 281474976710656 := by
  subst hx
  have h : rightB c k s = true := by simpa [real] using hb
  simp only [rightB, rightN, Bool.and_eq_true, decide_eq_true_eq] at h
  omega
theorem K_Add0 (m : ML) (hm : gC m) (c k : Int) (s : List UInt8) : CallE Try.prog 9 [.ptr 1 0, .d (.agg [.int .i64 c, .int .u8 k, .str s])] 2 [(0, .mp .i64 m), (1, .cells [.map 0])]
    (fun v n h => Nd (fun _ => Fin 2 (fun v n h => v = .d (.int .i64 (addE m c k s)) ∧ n = 2 ∧ h = [(0, .mp .i64 (addC m c k s)), (1, .cells [.map 0])]) v n h)) := by
  refine call_fn tysOK orders (C := C2) C2_ok H0 Try.func9 (by kernel_rfl) (by kernel_rfl) ?_
  intro oBin oCmp oWrap oNeg oCom oBnot oBeq oPickB oPickI oPickS oInb oSub2 oMinI oMaxI oSlen oSidx oScat oSsub oScmp oScok oLen oCI oCB oCS oCL oOkR oApp oApok oSub oSetc oRep oMkok oNthI oNthB oNthS oIteI oIteB oIteS oB2s oS2b oAllB oWf oDeq oMlen oMhas oMI oMB oMS oMok oMput oMdel oSgo oSru oSnx ho; cbv
  (repeat (any_goals (first
    | with_reducible refine And.intro ?_ ?_
    | exact True.intro
    | with_reducible exact rfl
    | (with_reducible refine Nd.mk ?_; try dsimp only)
    | (with_reducible refine Nd0.mk ?_; try dsimp only)
    | (with_reducible refine Pz.mk ?_; cbv)
    | (with_reducible refine RgOK.mk ?_; kernel_rfl)
    | (with_reducible refine OrOK.mk ?_; kernel_rfl)
    | (with_reducible refine Al.mk (fun x hx => ?_); cbv)
    | (with_reducible refine hK' _ ?_; clear hK' K'; cbv)
    | (with_reducible refine brA.yes (by first | assumption | exact rfl | (simp only [show oCmp = real.cmp from congrArg Ar.cmp ho, show oBin = real.bin from congrArg Ar.bin ho, show oScmp = real.scmp from congrArg Ar.scmp ho, show oPickB = real.pickB from congrArg Ar.pickB ho]; decide)) ?_; cbv)
    | (with_reducible refine brA.no (by first | assumption | exact rfl | (simp only [show oCmp = real.cmp from congrArg Ar.cmp ho, show oBin = real.bin from congrArg Ar.bin ho, show oScmp = real.scmp from congrArg Ar.scmp ho, show oPickB = real.pickB from congrArg Ar.pickB ho]; decide)) ?_; cbv)
    | (with_reducible refine bcase (fun hb => ?_) (fun hb => ?_) <;> cbv)
    | (intro K' hK'; cbv))))
  all_goals ((try clear hK' K'); cases ho; (try simp only [nc1] at *); (try simp only [Int.ofNat_eq_natCast] at *))
  all_goals first
    | with_reducible exact gC_ok hm
    | with_reducible exact right_len hx (by assumption)
    | with_reducible exact fin_add (ae_arg hx (by assumption))
    | with_reducible exact fin_add (ae_there hx (by assumption) (by assumption))
    | with_reducible exact fin_add (ae_full hx (by assumption) (by assumption) (by assumption))
    | with_reducible exact fin_add (ae_ok hx (by assumption) (by assumption) (by assumption))
    | trace_state
def S_Add (i : Nat) (c k : Int) (s : List UInt8) (K : CallK) (n : Nat) (h : Hp) : Prop := pat2 h i fun j m => Nd (fun _ => i < n ∧ j < n ∧ i ≠ j ∧ gC m) ∧ Al (fun q : Int × ML => q = (addE m c k s, addC m c k s)) fun q => K (.d (.int .i64 q.1)) n (out2 i j h q.2)
theorem L_Add {i n : Nat} {c k : Int} {s : List UInt8} {h : Hp} {K : CallK} (hK : S_Add i c k s K n h) : CallE Try.prog 9 [.ptr i 0, .d (.agg [.int .i64 c, .int .u8 k, .str s])] n h K := by
  obtain ⟨j, m, hg, hg2, ⟨⟨hi, hj, hij, hm⟩⟩, hk⟩ := pat2_elim hK
  refine call_recv2 (CallE.fin (K_Add0 m hm c k s)) rfl hi hj hij hg hg2 ?_
  rintro v n1 h1 ⟨rfl, rfl, rfl⟩ -
  exact hk.h _ rfl
theorem K_Get0 (m : ML) (hm : gC m) (c : Int) : CallE Try.prog 32 [.ptr 1 0, .d (.int .i64 c)] 2 [(0, .mp .i64 m), (1, .cells [.map 0])]
    (fun v n h => Nd (fun _ => Fin 2 (fun v n h => v = .tup [.d (.agg [.int .i64 (real.mI m c 0), .int .u8 (real.mI m c 1), .str (real.mS m c 2)]), .d (.bool (real.mhas m c))] ∧ n = 2 ∧ h = [(0, .mp .i64 m), (1, .cells [.map 0])]) v n h)) := by
  refine call_fn tysOK orders (C := C2) C2_ok H0 Try.func32 (by kernel_rfl) (by kernel_rfl) ?_
  intro oBin oCmp oWrap oNeg oCom oBnot oBeq oPickB oPickI oPickS oInb oSub2 oMinI oMaxI oSlen oSidx oScat oSsub oScmp oScok oLen oCI oCB oCS oCL oOkR oApp oApok oSub oSetc oRep oMkok oNthI oNthB oNthS oIteI oIteB oIteS oB2s oS2b oAllB oWf oDeq oMlen oMhas oMI oMB oMS oMok oMput oMdel oSgo oSru oSnx ho; cbv
  (repeat (any_goals (first
    | with_reducible refine And.intro ?_ ?_
    | exact True.intro
    | with_reducible exact rfl
    | (with_reducible refine Nd.mk ?_; try dsimp only)
    | (with_reducible refine Nd0.mk ?_; try dsimp only)
    | (with_reducible refine Pz.mk ?_; cbv)
    | (with_reducible refine RgOK.mk ?_; kernel_rfl)
    | (with_reducible refine OrOK.mk ?_; kernel_rfl)
    | (with_reducible refine Al.mk (fun x hx => ?_); cbv)
    | (with_reducible refine hK' _ ?_; clear hK' K'; cbv)
    | (with_reducible refine brA.yes (by first | assumption | exact rfl | (simp only [show oCmp = real.cmp from congrArg Ar.cmp ho, show oBin = real.bin from congrArg Ar.bin ho, show oScmp = real.scmp from congrArg Ar.scmp ho, show oPickB = real.pickB from congrArg Ar.pickB ho]; decide)) ?_; cbv)
    | (with_reducible refine brA.no (by first | assumption | exact rfl | (simp only [show oCmp = real.cmp from congrArg Ar.cmp ho, show oBin = real.bin from congrArg Ar.bin ho, show oScmp = real.scmp from congrArg Ar.scmp ho, show oPickB = real.pickB from congrArg Ar.pickB ho]; decide)) ?_; cbv)
    | (with_reducible refine bcase (fun hb => ?_) (fun hb => ?_) <;> cbv)
    | (intro K' hK'; cbv))))
  all_goals ((try clear hK' K'); cases ho; (try simp only [nc1] at *); (try simp only [Int.ofNat_eq_natCast] at *))
  all_goals first
    | with_reducible exact gC_ok hm
    | exact ⟨⟨[], [], [0], [0, 1], 2⟩, _, 2, _, rfl, rfl, rfl, rfl, rfl⟩
    | trace_state
def S_Get (i : Nat) (c : Int) (K : CallK) (n : Nat) (h : Hp) : Prop := pat2 h i fun j m => Nd (fun _ => i < n ∧ j < n ∧ i ≠ j ∧ gC m) ∧
  Al (fun q : Int × Int × List UInt8 × Bool => q = (real.mI m c 0, real.mI m c 1, real.mS m c 2, real.mhas m c)) fun q => K (.tup [.d (.agg [.int .i64 q.1, .int .u8 q.2.1, .str q.2.2.1]), .d (.bool q.2.2.2)]) n (out2 i j h m)
theorem L_Get {i n : Nat} {c : Int} {h : Hp} {K : CallK} (hK : S_Get i c K n h) : CallE Try.prog 32 [.ptr i 0, .d (.int .i64 c)] n h K := by
  obtain ⟨j, m, hg, hg2, ⟨⟨hi, hj, hij, hm⟩⟩, hk⟩ := pat2_elim hK
  refine call_recv2 (CallE.fin (K_Get0 m hm c)) rfl hi hj hij hg hg2 ?_
  rintro v n1 h1 ⟨rfl, rfl, rfl⟩ -
  exact hk.h _ rfl
end Go.Proofs.Yteakfibolfapiaa.Ab
