/- The reference's Parse; what CentsTells answers. -/
import Derived.Test.YtieoipmbcdfmeaaDoorTrCa6
namespace Go.Proofs.YtieoipmbcdfmeaaDoor.Ab
open Go Go.RowKit Go.Sort
set_option linter.unusedVariables false
set_option linter.unusedSimpArgs false
set_option maxRecDepth 100000
set_option maxHeartbeats 4000000
theorem L_RText {c : Int} {n : Nat} {h : Hp} {K : CallK} (hK : S_Text c K n h) : CallE Tryd.prog 16 [.d (.int .i64 c)] n h K := K_RText c hK.1.h (hK.2.h _ rfl)
def C15 : CallS := fun f args n h K => match f with
  | 22 => (match args with | [.d (.int .i64 a), .d (.int .i64 b)] => S_mul a b K n h | _ => False)
  | 19 => (match args with | [.d (.int .i64 a), .d (.int .i64 b)] => S_add a b K n h | _ => False)
  | 16 => (match args with | [.d (.int .i64 c)] => S_Text c K n h | _ => False)
  | _ => False
theorem C15_ok : ∀ f args n h K, C15 f args n h K → CallE Tryd.prog f args n h K := by
  intro f args n h K hc
  unfold C15 at hc
  split at hc
  · split at hc
    · exact L_RTimes hc
    · exact hc.elim
  · split at hc
    · exact L_RAdd hc
    · exact hc.elim
  · split at hc
    · exact L_RText hc
    · exact hc.elim
  · exact hc.elim
/-- No amount's text. -/
def noT (s : List UInt8) : Prop := ∀ c, I64 c → T03 c ≠ s
theorem parsed_no {s : List UInt8} (h : noT s) : parsed s (.tup [.d (.int .i64 0), .d (.int .i64 4)]) := .inr ⟨h, rfl⟩
def GG (s : List UInt8) (b : Bool) (t : List UInt8) : Prop := ∀ c, I64 c → T03 c = s → b = decide (c < 0) ∧ t = wD c ++ 46 :: rD c
def FF (s : List UInt8) (b : Bool) (t : List UInt8) : Prop := ∀ c, I64 c → T03 c = s → b = decide (c < 0) ∧ t = wD c ++ rD c
theorem sub1 (s : List UInt8) : real.ssub s 1 (real.slen s) = s.drop 1 := by simp [real]
theorem head45 {s : List UInt8} : real.cmp .eql (real.sidx s 0) 45 = true ↔ (s.getD 0 0) = 45 := by
  simp only [real, rCmp, beq_iff_eq, Int.toNat_zero]
  constructor
  · intro h
    have : (s.getD 0 0).toNat = 45 := by omega
    exact UInt8.toNat_inj.1 (by simpa using this)
  · intro h; rw [h]; rfl
theorem T03_head (c : Int) : (T03 c).getD 0 0 = 45 ↔ c < 0 := by
  rw [T03_eq]
  by_cases h : c < 0
  · simp [h]
  · obtain ⟨d, l, hl⟩ := List.exists_cons_of_ne_nil (dec_ne (c.natAbs / 100))
    have hd := wD_not c 45 (by unfold dig; decide)
    have e : wD c = d :: l := hl
    rw [e] at hd ⊢
    simp only [List.mem_cons, not_or] at hd
    simp only [h, if_false, List.nil_append, List.cons_append, iff_false]
    exact fun e => hd.1 e.symm
theorem GG_neg {s : List UInt8} (h : real.pickB true (real.cmp .eql (real.sidx s 0) 45) false = true) : GG s true (real.ssub s 1 (real.slen s)) := by
  intro c hc e
  have h1 : (s.getD 0 0) = 45 := head45.1 h
  rw [← e, T03_head] at h1
  rw [sub1, ← e, T03_eq]
  simp [h1]
theorem GG_pos {s : List UInt8} (h : real.pickB true (real.cmp .eql (real.sidx s 0) 45) false = false) : GG s false s := by
  intro c hc e
  have h1 : ¬ (s.getD 0 0) = 45 := fun e => by
    have := head45.2 e
    have h' : real.cmp .eql (real.sidx s 0) 45 = false := h
    rw [this] at h'
    cases h'
  rw [← e, T03_head] at h1
  rw [← e, T03_eq]
  simp [h1]
theorem nd_le : ∀ k u : Nat, u < 10 ^ (k + 1) → Lib.nDigits u ≤ k + 1 := by
  intro k
  induction k with
  | zero => intro u hu; rw [Lib.nDigits_small (by simpa using hu)]; omega
  | succ k ih =>
    intro u hu
    by_cases h10 : u < 10
    · rw [Lib.nDigits_small h10]; omega
    · rw [Lib.nDigits_big h10]
      have := ih (u / 10) (by rw [Nat.pow_succ] at hu; omega)
      omega
theorem wD_len {c : Int} (hc : I64 c) : 1 ≤ (wD c).length ∧ (wD c).length ≤ 17 := by
  unfold wD
  constructor
  · cases h : Lib.decDigits (c.natAbs / 100) with
    | nil => exact absurd h (dec_ne _)
    | cons => simp
  · rw [Lib.decDigits_length]
    exact nd_le 16 _ (by unfold I64 at hc; omega)
theorem G_len {s t : List UInt8} {b : Bool} (g : GG s b t) {c : Int} (hc : I64 c) (e : T03 c = s) : 4 ≤ t.length ∧ t.length ≤ 20 ∧ t.getD (t.length - 3) 0 = 46 := by
  obtain ⟨-, rfl⟩ := g c hc e
  obtain ⟨h1, h2⟩ := wD_len hc
  have hl : (wD c ++ 46 :: rD c).length = (wD c).length + 3 := by simp [rD]
  rw [hl]
  refine ⟨by omega, by omega, ?_⟩
  rw [Nat.add_sub_cancel]
  simp [List.getD]
theorem no_lt {s t : List UInt8} {b : Bool} (g : GG s b t) (h : real.cmp .lss (real.slen t) 4 = true) : noT s := fun c hc e => by
  have := (G_len g hc e).1
  have h1 : (t.length : Int) < 4 := of_decide_eq_true h
  omega
theorem no_gt {s t : List UInt8} {b : Bool} (g : GG s b t) (h : real.cmp .gtr (real.slen t) 20 = true) : noT s := fun c hc e => by
  have := (G_len g hc e).2.1
  have h1 : (t.length : Int) > 20 := of_decide_eq_true h
  omega
theorem len4 {t : List UInt8} (h : real.cmp .lss (real.slen t) 4 = false) : 4 ≤ t.length := by
  have h1 : ¬ (t.length : Int) < 4 := of_decide_eq_false h
  omega
theorem sub_len {t : List UInt8} {k : Int} (hk : 0 ≤ k ∧ k ≤ 3) (h : 4 ≤ t.length) (h2 : t.length ≤ 1000) : real.bin .sub .i64 (real.slen t) k = ((t.length - k.toNat : Nat) : Int) := by
  show IntKind.i64.wrap ((t.length : Int) - k) = _
  rw [wrap_i64 _ (by omega) (by omega)]
  omega
theorem no_dot {s t : List UInt8} {b : Bool} (g : GG s b t) (h4 : 4 ≤ t.length) (h2 : t.length ≤ 1000) (h : real.cmp .neq (real.sidx t (real.bin .sub .i64 (real.slen t) 3)) 46 = true) : noT s := fun c hc e => by
  have h1 := (G_len g hc e).2.2
  rw [sub_len (by omega) h4 h2] at h
  simp only [real, rCmp, bne_iff_ne, ne_eq, Int.toNat_natCast] at h
  rw [show Int.toNat 3 = 3 from rfl, h1] at h
  exact h rfl
/-- What is read on. -/
def ttT (t : List UInt8) : List UInt8 := real.scat (real.ssub t 0 (real.bin .sub .i64 (real.slen t) 3)) (real.ssub t (real.bin .sub .i64 (real.slen t) 2) (real.slen t))
theorem ttT_eq {t : List UInt8} (h4 : 4 ≤ t.length) (h2 : t.length ≤ 1000) : ttT t = t.take (t.length - 3) ++ t.drop (t.length - 2) := by
  unfold ttT
  rw [sub_len (by omega) h4 h2, sub_len (by omega) h4 h2]
  simp only [real, Int.toNat_natCast, Int.toNat_zero, List.drop_zero]
  rw [show Int.toNat 3 = 3 from rfl, show Int.toNat 2 = 2 from rfl, List.take_length]
theorem FF_of {s t : List UInt8} {b : Bool} (g : GG s b t) (h4 : 4 ≤ t.length) (h2 : t.length ≤ 1000) : FF s b (ttT t) := fun c hc e => by
  obtain ⟨h1, h3⟩ := g c hc e
  refine ⟨h1, ?_⟩
  rw [ttT_eq h4 h2, h3]
  have hl : (wD c ++ 46 :: rD c).length = (wD c).length + 3 := by simp [rD]
  rw [hl, Nat.add_sub_cancel, List.take_left, show (wD c).length + 3 - 2 = (wD c).length + 1 by omega]
  congr 1
  rw [← List.drop_drop, List.drop_left]
  rfl
theorem ttT_len {t : List UInt8} (h4 : 4 ≤ t.length) (h2 : t.length ≤ 1000) : (ttT t).length ≤ 1000 := by
  rw [ttT_eq h4 h2]; simp; omega
/-! the loop -/
def sg (b : Bool) (x : Int) : Int := if b then -x else x
theorem val_take {l : List UInt8} {i : Nat} (h : i < l.length) : valD 0 (l.take (i + 1)) = valD 0 (l.take i) * 10 + ((l.getD i 0).toNat - 48) := by
  rw [List.take_succ_eq_append_getElem h, valD_app]
  simp [valD, List.getD, List.getElem?_eq_getElem h]
theorem val_le (l : List UInt8) (i : Nat) : valD 0 (l.take i) ≤ valD 0 l := by
  have : valD 0 l = valD (valD 0 (l.take i)) (l.drop i) := by rw [← valD_app, List.take_append_drop]
  rw [this]
  exact valD_ge _ _
theorem F_val {s t : List UInt8} {b : Bool} (f : FF s b t) {c : Int} (hc : I64 c) (e : T03 c = s) : valD 0 t = c.natAbs ∧ b = decide (c < 0) ∧ ∀ x ∈ t, dig x := by
  obtain ⟨h1, rfl⟩ := f c hc e
  exact ⟨(T03_val c).1, h1, (T03_val c).2⟩
theorem no_dig {s t : List UInt8} {b : Bool} (f : FF s b t) {i : Nat} (hi : i < t.length) (h : (t.getD i 0).toNat < 48 ∨ 57 < (t.getD i 0).toNat) : noT s := fun c hc e => by
  have h1 := (F_val f hc e).2.2 (t.getD i 0) (by rw [List.getD, List.getElem?_eq_getElem hi]; exact List.getElem_mem _)
  unfold dig at h1
  omega
theorem sg_in {s t : List UInt8} {b : Bool} (f : FF s b t) {c : Int} (hc : I64 c) (e : T03 c = s) {m : Nat} (h : m ≤ valD 0 t) : I64 (sg b m) := by
  obtain ⟨h1, h2, -⟩ := F_val f hc e
  unfold I64 at hc ⊢
  unfold sg
  rw [h2]
  by_cases hn : c < 0 <;> simp [hn] <;> omega
theorem sg_mul (b : Bool) (x y : Int) : sg b x * y = sg b (x * y) := by
  unfold sg; cases b <;> simp [Int.neg_mul]
theorem sg_add (b : Bool) (x y : Int) : sg b x + sg b y = sg b (x + y) := by
  unfold sg; cases b <;> simp <;> omega
theorem no_mul {s t : List UInt8} {b : Bool} (f : FF s b t) {i : Nat} (hi : i < t.length) (h : ¬ I64 (sg b (valD 0 (t.take i)) * 10)) : noT s := fun c hc e => by
  apply h
  rw [sg_mul]
  have h1 := val_take hi
  have h2 := val_le t (i + 1)
  have := sg_in f hc e (m := valD 0 (t.take i) * 10) (by omega)
  simpa using this
theorem no_add {s t : List UInt8} {b : Bool} (f : FF s b t) {i : Nat} (hi : i < t.length) (h : ¬ I64 (sg b (valD 0 (t.take (i + 1))))) : noT s := fun c hc e =>
  h (sg_in f hc e (val_le t (i + 1)))
theorem end_yes {s t : List UInt8} {b : Bool} {v : Int} (hv : I64 v) (h : T03 v = s) : parsed s (.tup [.d (.int .i64 v), .d (.int .i64 0)]) := .inl ⟨v, hv, h, rfl⟩
theorem end_no {s t : List UInt8} {b : Bool} (f : FF s b t) (h : T03 (sg b (valD 0 t)) ≠ s) : noT s := fun c hc e => by
  obtain ⟨h1, h2, -⟩ := F_val f hc e
  apply h
  rw [h1, h2]
  have : sg (decide (c < 0)) (c.natAbs : Int) = c := by
    unfold sg
    by_cases hn : c < 0 <;> simp [hn] <;> omega
  rw [this]
  exact e
theorem l_lt {TT : List UInt8} {i : Nat} {j : Int} (hj : j = i) (h : real.cmp .lss j (real.slen TT) = true) : i < TT.length := by
  have h1 : j < (TT.length : Int) := of_decide_eq_true h
  omega
theorem l_ge {TT : List UInt8} {i : Nat} {j : Int} (hj : j = i) (h : real.cmp .lss j (real.slen TT) = false) : TT.length ≤ i := by
  have h1 : ¬ j < (TT.length : Int) := of_decide_eq_false h
  omega
theorem l_inb {TT : List UInt8} {i : Nat} {j : Int} (hj : j = i) (hi : i < TT.length) : real.inb j (real.slen TT) = true := decide_eq_true ⟨by omega, by show j < (TT.length : Int); omega⟩
theorem l_idx {TT : List UInt8} {i : Nat} {j : Int} (hj : j = i) : real.sidx TT j = ((TT.getD i 0).toNat : Int) := by subst hj; rfl
theorem l_nd1 {s TT : List UInt8} {b : Bool} (f : FF s b TT) {i : Nat} {j : Int} (hj : j = i) (hi : i < TT.length) (h : real.cmp .lss (real.sidx TT j) 48 = true) : noT s := by
  have h1 : real.sidx TT j < 48 := of_decide_eq_true h
  rw [l_idx hj] at h1
  exact no_dig f hi (.inl (by omega))
theorem l_nd2 {s TT : List UInt8} {b : Bool} (f : FF s b TT) {i : Nat} {j : Int} (hj : j = i) (hi : i < TT.length) (h : real.pickB false true (real.cmp .gtr (real.sidx TT j) 57) = true) : noT s := by
  have h1 : real.sidx TT j > 57 := of_decide_eq_true h
  rw [l_idx hj] at h1
  exact no_dig f hi (.inr (by omega))
theorem l_dd {TT : List UInt8} {i : Nat} {j : Int} (hj : j = i) (h1 : real.cmp .lss (real.sidx TT j) 48 = false) (h2 : real.pickB false true (real.cmp .gtr (real.sidx TT j) 57) = false) :
    real.bin .sub .i64 (real.wrap .i64 (real.sidx TT j)) 48 = (((TT.getD i 0).toNat - 48 : Nat) : Int) ∧ (TT.getD i 0).toNat ≤ 57 := by
  have g1 : ¬ real.sidx TT j < 48 := of_decide_eq_false h1
  have g2 : ¬ real.sidx TT j > 57 := of_decide_eq_false h2
  rw [l_idx hj] at g1 g2 ⊢
  refine ⟨?_, by omega⟩
  have e1 : real.wrap .i64 ((TT.getD i 0).toNat : Int) = ((TT.getD i 0).toNat : Int) := wrap_i64 _ (by omega) (by omega)
  rw [e1]
  show IntKind.i64.wrap (_ - 48) = _
  rw [wrap_i64 _ (by omega) (by omega)]
  omega
theorem d_neg {TT : List UInt8} {i : Nat} {j : Int} {b : Bool} (hj : j = i) (h1 : real.cmp .lss (real.sidx TT j) 48 = false) (h2 : real.pickB false true (real.cmp .gtr (real.sidx TT j) 57) = false) (hb : b = true) :
    real.neg .i64 (real.bin .sub .i64 (real.wrap .i64 (real.sidx TT j)) 48) = sg b (((TT.getD i 0).toNat - 48 : Nat) : Int) := by
  obtain ⟨e, hl⟩ := l_dd hj h1 h2
  rw [e, hb]
  show IntKind.i64.wrap (0 - _) = -_
  rw [wrap_i64 _ (by omega) (by omega)]
  omega
theorem d_pos {TT : List UInt8} {i : Nat} {j : Int} {b : Bool} (hj : j = i) (h1 : real.cmp .lss (real.sidx TT j) 48 = false) (h2 : real.pickB false true (real.cmp .gtr (real.sidx TT j) 57) = false) (hb : b = false) :
    real.bin .sub .i64 (real.wrap .i64 (real.sidx TT j)) 48 = sg b (((TT.getD i 0).toNat - 48 : Nat) : Int) := by
  obtain ⟨e, hl⟩ := l_dd hj h1 h2
  rw [e, hb]
  rfl
theorem sg_small {b : Bool} {m : Nat} (h : m ≤ 1000) : I64 (sg b m) := by
  unfold I64 sg; cases b <;> simp <;> omega
theorem d_I64 {TT : List UInt8} {i : Nat} {j : Int} {b : Bool} {dd : Int} (hj : j = i) (h1 : real.cmp .lss (real.sidx TT j) 48 = false) (h2 : real.pickB false true (real.cmp .gtr (real.sidx TT j) 57) = false)
    (hd : dd = sg b (((TT.getD i 0).toNat - 48 : Nat) : Int)) : I64 dd := by
  obtain ⟨-, hl⟩ := l_dd hj h1 h2
  rw [hd]
  exact sg_small (by omega)
theorem ne0_amt {x V : Int} (hx : x = amtE V) (h : real.cmp .neq x 0 = true) : ¬ I64 V := fun hi => by
  rw [(amt_yes hi).2] at hx
  subst hx
  cases h
theorem eq0_amt {x V : Int} (hx : x = amtE V) (h : real.cmp .neq x 0 = false) : I64 V := by
  rcases Classical.em (I64 V) with h' | h'
  · exact h'
  · rw [(amt_no h').2] at hx
    subst hx
    cases h
theorem l_mul {s TT : List UInt8} {b : Bool} (f : FF s b TT) {i : Nat} (hi : i < TT.length) {v x : Int} (hv : v = sg b (valD 0 (TT.take i) : Nat)) (hx : x = amtE (v * 10)) (h : real.cmp .neq x 0 = true) : noT s := by
  have := ne0_amt hx h
  rw [hv] at this
  exact no_mul f hi this
theorem l_next {TT : List UInt8} {b : Bool} {i : Nat} (hi : i < TT.length) {v dd : Int} (hv : v = sg b (valD 0 (TT.take i) : Nat)) (hd : dd = sg b (((TT.getD i 0).toNat - 48 : Nat) : Int)) : v * 10 + dd = sg b (valD 0 (TT.take (i + 1)) : Nat) := by
  rw [hv, hd, sg_mul, sg_add, val_take hi]
  congr 1
theorem l_add {s TT : List UInt8} {b : Bool} (f : FF s b TT) {i : Nat} (hi : i < TT.length) {v x1 x2 x3 dd : Int} (hv : v = sg b (valD 0 (TT.take i) : Nat)) (h1 : x1 = amt (v * 10)) (h2 : x2 = amtE (v * 10)) (h3 : real.cmp .neq x2 0 = false)
    (h4 : x3 = amtE (x1 + dd)) (h5 : real.cmp .neq x3 0 = true) (hd : dd = sg b (((TT.getD i 0).toNat - 48 : Nat) : Int)) : noT s := by
  have g1 := eq0_amt h2 h3
  rw [(amt_yes g1).1] at h1
  have g2 := ne0_amt h4 h5
  rw [h1, l_next hi hv hd] at g2
  exact no_add f hi g2
theorem l_yes {TT : List UInt8} {b : Bool} {i : Nat} (hi : i < TT.length) {v x1 x2 x3 x4 dd : Int} (hv : v = sg b (valD 0 (TT.take i) : Nat)) (h1 : x1 = amt (v * 10)) (h2 : x2 = amtE (v * 10)) (h3 : real.cmp .neq x2 0 = false)
    (h4 : x3 = amtE (x1 + dd)) (h5 : real.cmp .neq x3 0 = false) (h6 : x4 = amt (x1 + dd)) (hd : dd = sg b (((TT.getD i 0).toNat - 48 : Nat) : Int)) : x4 = sg b (valD 0 (TT.take (i + 1)) : Nat) ∧ I64 x4 := by
  have g1 := eq0_amt h2 h3
  rw [(amt_yes g1).1] at h1
  have g2 := eq0_amt h4 h5
  rw [(amt_yes g2).1, h1, l_next hi hv hd] at h6
  rw [h1, l_next hi hv hd] at g2
  rw [h6]
  exact ⟨rfl, g2⟩
theorem l_end {s TT x : List UInt8} {b : Bool} (f : FF s b TT) {i : Nat} {v : Int} (hi : TT.length ≤ i) (hv : v = sg b (valD 0 (TT.take i) : Nat)) (hx : x = T03 v) (h : real.scmp .neq x s = true) : noT s := by
  rw [List.take_of_length_le hi] at hv
  subst hx
  rw [hv] at h
  exact end_no f (scmp_ne h)
theorem j_next {j : Int} {i n : Nat} (hj : j = i) (hi : i < n) (hn : n ≤ 1000) : real.bin .add .i64 j 1 = ((i + 1 : Nat) : Int) := by
  show IntKind.i64.wrap (j + 1) = _
  rw [wrap_i64 _ (by omega) (by omega)]; omega
theorem absurd_e {s : List UInt8} (h1 : real.cmp .gtr (real.slen s) 0 = false) (h2 : real.cmp .lss (real.slen s) 4 = false) : False := by
  have h3 : ¬ (s.length : Int) > 0 := of_decide_eq_false h1
  have := len4 h2
  omega
theorem no_e {s : List UInt8} (h1 : real.cmp .gtr (real.slen s) 0 = false) : noT s := fun c hc e => by
  have h3 : ¬ (s.length : Int) > 0 := of_decide_eq_false h1
  have := (T03_len c hc).2
  rw [e] at this
  omega
theorem c_inb {t : List UInt8} (h4 : 4 ≤ t.length) (h2 : t.length ≤ 1000) : real.inb (real.bin .sub .i64 (real.slen t) 3) (real.slen t) = true := by
  rw [sub_len (by omega) h4 h2]; exact decide_eq_true ⟨by omega, by show _ < (t.length : Int); rw [show Int.toNat 3 = 3 from rfl]; omega⟩
theorem c_sa {t : List UInt8} (h4 : 4 ≤ t.length) (h2 : t.length ≤ 1000) : real.sub2 0 (real.bin .sub .i64 (real.slen t) 3) (real.slen t) = true := by
  rw [sub_len (by omega) h4 h2]; exact decide_eq_true ⟨by omega, by omega, by show _ ≤ (t.length : Int); omega⟩
theorem c_sb {t : List UInt8} (h4 : 4 ≤ t.length) (h2 : t.length ≤ 1000) : real.sub2 (real.bin .sub .i64 (real.slen t) 2) (real.slen t) (real.slen t) = true := by
  rw [sub_len (by omega) h4 h2]; exact decide_eq_true ⟨by omega, by show _ ≤ (t.length : Int); omega, by omega⟩
theorem c_ok {t : List UInt8} (h4 : 4 ≤ t.length) (h2 : t.length ≤ 1000) : real.scok (real.ssub t 0 (real.bin .sub .i64 (real.slen t) 3)) (real.ssub t (real.bin .sub .i64 (real.slen t) 2) (real.slen t)) = true := by
  have := ttT_len h4 h2
  have e : (ttT t).length = (real.ssub t 0 (real.bin .sub .i64 (real.slen t) 3)).length + (real.ssub t (real.bin .sub .i64 (real.slen t) 2) (real.slen t)).length := List.length_append
  exact decide_eq_true (by omega)
theorem K_RParse0 (s : List UInt8) (hs : s.length ≤ 100) : CallE Tryd.prog 15 [.d (.str s)] 0 [] (Gets fun v => parsed s v) := by
  have hs1 : s.length ≤ 1000 := by omega
  have hs2 : (real.ssub s 1 (real.slen s)).length ≤ 1000 := by rw [sub1]; simp; omega
  refine call_fn tysOK orders (C := C15) C15_ok H0 Tryd.func15 (by kernel_rfl) (by kernel_rfl) ?_
  intro oBin oCmp oWrap oNeg oCom oBnot oBeq oPickB oPickI oPickS oInb oSub2 oMinI oMaxI oSlen oSidx oScat oSsub oScmp oScok oLen oCI oCB oCS oCL oOkR oApp oApok oSub oSetc oRep oMkok oNthI oNthB oNthS oIteI oIteB oIteS oB2s oS2b oAllB oWf oDeq ho; cbv
  (repeat (any_goals (first
    | with_reducible refine And.intro ?_ ?_
    | exact True.intro
    | with_reducible exact rfl
    | (with_reducible refine Nd.mk ?_; try dsimp only)
    | (with_reducible refine Al.mk (fun x hx => ?_); cbv)
    | (with_reducible refine hK' _ ?_; clear hK' K'; cbv)
    | (with_reducible refine brA.yes (by first | assumption | exact rfl | (simp only [show oCmp = real.cmp from congrArg Ar.cmp ho, show oBin = real.bin from congrArg Ar.bin ho, show oScmp = real.scmp from congrArg Ar.scmp ho, show oPickB = real.pickB from congrArg Ar.pickB ho]; decide)) ?_; cbv)
    | (with_reducible refine brA.no (by first | assumption | exact rfl | (simp only [show oCmp = real.cmp from congrArg Ar.cmp ho, show oBin = real.bin from congrArg Ar.bin ho, show oScmp = real.scmp from congrArg Ar.scmp ho, show oPickB = real.pickB from congrArg Ar.pickB ho]; decide)) ?_; cbv)
    | (with_reducible refine bcase (fun hb => ?_) (fun hb => ?_) <;> cbv)
    | (intro K' hK'; cbv))))
  all_goals (try (((try clear hK' K'); cases ho; (try simp only [nc1] at *); (try simp only [Int.ofNat_eq_natCast] at *)); first
    | exact decide_eq_true ⟨by omega, by have h1 : (s.length : Int) > 0 := of_decide_eq_true (by assumption); simp only [real]; omega⟩
    | exact decide_eq_true ⟨by omega, by have h1 : (s.length : Int) > 0 := of_decide_eq_true (by assumption); simp only [real]; omega, by omega⟩
    | exact parsed_no (no_e (by assumption))
    | exact (absurd_e (by assumption) (by assumption)).elim
    | exact parsed_no (no_lt (GG_neg (by assumption)) (by assumption))
    | exact parsed_no (no_gt (GG_neg (by assumption)) (by assumption))
    | exact parsed_no (no_dot (GG_neg (by assumption)) (len4 (by assumption)) hs2 (by assumption))
    | exact c_inb (len4 (by assumption)) hs2
    | exact c_sa (len4 (by assumption)) hs2
    | exact c_sb (len4 (by assumption)) hs2
    | exact c_ok (len4 (by assumption)) hs2
    | exact c_inb (len4 (by assumption)) hs1
    | exact c_sa (len4 (by assumption)) hs1
    | exact c_sb (len4 (by assumption)) hs1
    | exact c_ok (len4 (by assumption)) hs1
    | exact parsed_no (no_lt (GG_pos (by assumption)) (by assumption))
    | exact parsed_no (no_gt (GG_pos (by assumption)) (by assumption))
    | exact parsed_no (no_dot (GG_pos (by assumption)) (len4 (by assumption)) hs1 (by assumption))))
  all_goals first
    | (obtain ⟨TT, hTT⟩ : ∃ TT, TT = oScat (oSsub (oSsub s 1 (oSlen s)) 0 (oBin .sub .i64 (oSlen (oSsub s 1 (oSlen s))) 3)) (oSsub (oSsub s 1 (oSlen s)) (oBin .sub .i64 (oSlen (oSsub s 1 (oSlen s))) 2) (oSlen (oSsub s 1 (oSlen s)))) := ⟨_, rfl⟩
       rw [← hTT]
       obtain ⟨b, hb0⟩ : ∃ b, b = oPickB true (oCmp .eql (oSidx s 0) 45) false := ⟨_, rfl⟩
       rw [← hb0]
       have hF : FF s b TT ∧ TT.length ≤ 1000 := by
         rw [hTT, hb0]
         ((try clear hK' K'); cases ho; (try simp only [nc1] at *); (try simp only [Int.ofNat_eq_natCast] at *))
         rw [show real.pickB true (real.cmp .eql (real.sidx s 0) 45) false = true by assumption]
         exact ⟨FF_of (GG_neg (by assumption)) (len4 (by assumption)) hs2, ttT_len (len4 (by assumption)) hs2⟩)
    | (obtain ⟨TT, hTT⟩ : ∃ TT, TT = oScat (oSsub s 0 (oBin .sub .i64 (oSlen s) 3)) (oSsub s (oBin .sub .i64 (oSlen s) 2) (oSlen s)) := ⟨_, rfl⟩
       rw [← hTT]
       obtain ⟨b, hb0⟩ : ∃ b, b = oPickB true (oCmp .eql (oSidx s 0) 45) false := ⟨_, rfl⟩
       rw [← hb0]
       have hF : FF s b TT ∧ TT.length ≤ 1000 := by
         rw [hTT, hb0]
         ((try clear hK' K'); cases ho; (try simp only [nc1] at *); (try simp only [Int.ofNat_eq_natCast] at *))
         rw [show real.pickB true (real.cmp .eql (real.sidx s 0) 45) false = false by assumption]
         exact ⟨FF_of (GG_pos (by assumption)) (len4 (by assumption)) hs1, ttT_len (len4 (by assumption)) hs1⟩)
  all_goals (obtain ⟨hF, hL⟩ := hF)
  all_goals (clear hTT hb0 hb; rename_i z1 z2 z3; clear z1 z2 z3)
  all_goals (refine ⟨fun st => ∃ (i : Nat) (j v : Int), j = i ∧ i ≤ TT.length ∧ v = sg b (valD 0 (TT.take i)) ∧ I64 v ∧ st = ⟨mkF 96 0 [(0, .d (.str s)), (4, .d (.str TT)), (5, .d (.bool b)), (6, .d (.int .i64 v)), (7, .d (.int .i64 j))], 0, []⟩, fun st => (TT.length - ctr 7 st).toNat, ⟨[], [], [0, 4, 5, 6, 7], [], 0⟩, ?_, ?_, ?_⟩)
  all_goals (try (first
    | (cbv; done)
    | exact ⟨0, 0, 0, rfl, Nat.zero_le _, by cases b <;> rfl, ⟨by omega, by omega⟩, rfl⟩))
  all_goals (rintro st1 ⟨i, j, v, hj, hi, hv, hvI, rfl⟩; cbv)
  (repeat (any_goals (first
    | with_reducible refine And.intro ?_ ?_
    | exact True.intro
    | with_reducible exact rfl
    | (with_reducible refine Nd.mk ?_; try dsimp only)
    | (with_reducible refine Al.mk (fun x hx => ?_); cbv)
    | (with_reducible refine hK' _ ?_; clear hK' K'; cbv)
    | (with_reducible refine brA.yes (by first | assumption | exact rfl | (simp only [show oCmp = real.cmp from congrArg Ar.cmp ho, show oBin = real.bin from congrArg Ar.bin ho, show oScmp = real.scmp from congrArg Ar.scmp ho, show oPickB = real.pickB from congrArg Ar.pickB ho]; decide)) ?_; cbv)
    | (with_reducible refine brA.no (by first | assumption | exact rfl | (simp only [show oCmp = real.cmp from congrArg Ar.cmp ho, show oBin = real.bin from congrArg Ar.bin ho, show oScmp = real.scmp from congrArg Ar.scmp ho, show oPickB = real.pickB from congrArg Ar.pickB ho]; decide)) ?_; cbv)
    | (with_reducible refine bcase (fun hb => ?_) (fun hb => ?_) <;> cbv)
    | (intro K' hK'; cbv))))
  all_goals ((try clear hK' K'); cases ho; (try simp only [nc1] at *); (try simp only [Int.ofNat_eq_natCast] at *))
  all_goals first
    | exact hvI
    | (have hlt := l_lt hj (by assumption)
       first
         | exact l_inb hj hlt
         | exact parsed_no (l_nd1 hF hj hlt (by assumption))
         | exact parsed_no (l_nd2 hF hj hlt (by assumption))
         | (unfold I64; omega)
         | (subst_vars; exact amt_in _)
         | (have hd := d_neg (b := b) hj (by assumption) (by assumption) (by assumption)
            first
              | exact d_I64 hj (by assumption) (by assumption) hd
              | exact parsed_no (l_mul hF hlt hv (by assumption) (by assumption))
              | exact parsed_no (l_add hF hlt hv (by assumption) (by assumption) (by assumption) (by assumption) (by assumption) hd)
              | (obtain ⟨g1, g2⟩ := l_yes hlt hv (by assumption) (by assumption) (by assumption) (by assumption) (by assumption) (by assumption) hd
                 refine ⟨⟨[], [], [0, 4, 5, 6, 7], [], 0⟩, rfl, ⟨i + 1, _, _, j_next hj hlt hL, by omega, g1, g2, rfl⟩, ?_⟩
                 show (TT.length - real.bin .add .i64 j 1).toNat < (TT.length - j).toNat
                 rw [j_next hj hlt hL]; omega))
         | (have hd := d_pos (b := b) hj (by assumption) (by assumption) (by assumption)
            first
              | exact d_I64 hj (by assumption) (by assumption) hd
              | exact parsed_no (l_mul hF hlt hv (by assumption) (by assumption))
              | exact parsed_no (l_add hF hlt hv (by assumption) (by assumption) (by assumption) (by assumption) (by assumption) hd)
              | (obtain ⟨g1, g2⟩ := l_yes hlt hv (by assumption) (by assumption) (by assumption) (by assumption) (by assumption) (by assumption) hd
                 refine ⟨⟨[], [], [0, 4, 5, 6, 7], [], 0⟩, rfl, ⟨i + 1, _, _, j_next hj hlt hL, by omega, g1, g2, rfl⟩, ?_⟩
                 show (TT.length - real.bin .add .i64 j 1).toNat < (TT.length - j).toNat
                 rw [j_next hj hlt hL]; omega)))
    | (have hge := l_ge hj (by assumption)
       first
         | exact parsed_no (l_end hF hge hv (by assumption) (by assumption))
         | exact end_yes (t := s) (b := b) hvI (by subst_vars; exact scmp_eq (by assumption)))
    | trace_state
end Go.Proofs.YtieoipmbcdfmeaaDoor.Ab
