/- What CentsTimes answers. -/
import Derived.Test.YtieoipmbcdfmeaaDoorTrCa6
namespace Go.Proofs.YtieoipmbcdfmeaaDoor.Ab
open Go Go.RowKit Go.Sort
set_option linter.unusedVariables false
set_option linter.unusedSimpArgs false
set_option maxRecDepth 100000
set_option maxHeartbeats 4000000
def C6 : CallS := fun f args n h K => match f with
  | 18 => (match args with | [.d (.int .i64 a), .d (.int .i64 b)] => S_mul a b K n h | _ => False)
  | 9 => (match args with | [.d (.imm l)] => S_tot l K n h | _ => False)
  | 17 => (match args with | [.d (.int .i64 a), .d (.int .i64 b)] => S_add a b K n h | _ => False)
  | 12 => (match args with | [] => S_wakes K n h | _ => False)
  | _ => False
theorem C6_ok : ∀ f args n h K, C6 f args n h K → CallE Tryd.prog f args n h K := by
  intro f args n h K hc
  unfold C6 at hc
  split at hc
  · split at hc
    · exact L_Times hc
    · exact hc.elim
  · split at hc
    · exact L_Total hc
    · exact hc.elim
  · split at hc
    · exact L_Add hc
    · exact hc.elim
  · split at hc
    · exact L_wakes hc
    · exact hc.elim
  · exact hc.elim
/-- So often added. -/
def tt (a : Int) : Nat → Int × Int
  | 0 => (0, 0)
  | i + 1 => if (tt a i).2 = 0 then (amt ((tt a i).1 + a), amtE ((tt a i).1 + a)) else tt a i
theorem tt_is {a : Int} (ha : I64 a) : ∀ i : Nat, (I64 (a * i) → tt a i = (a * i, 0)) ∧ (¬ I64 (a * i) → (tt a i).2 = 6 ∧ I64 (tt a i).1)
  | 0 => by
    have h0 : I64 (a * ((0 : Nat) : Int)) := by simp [I64]
    exact ⟨fun _ => by simp [tt], fun h => absurd h0 h⟩
  | i + 1 => by
    obtain ⟨h1, h2⟩ := tt_is ha i
    have e : a * ((i + 1 : Nat) : Int) = a * i + a := by rw [Int.natCast_add, Int.mul_add]; simp
    rw [e]
    have hs : (0 ≤ a → 0 ≤ a * (i : Int)) ∧ (a ≤ 0 → a * (i : Int) ≤ 0) := ⟨fun h => Int.mul_nonneg h (by omega), fun h => Int.mul_nonpos_of_nonpos_of_nonneg h (by omega)⟩
    by_cases hi : I64 (a * i)
    · have ht := h1 hi
      have hu : tt a (i + 1) = (amt (a * i + a), amtE (a * i + a)) := by simp [tt, ht]
      rw [hu]
      refine ⟨fun h => ?_, fun h => ?_⟩
      · rw [(amt_yes h).1, (amt_yes h).2]
      · exact ⟨(amt_no h).2, amt_in _⟩
    · obtain ⟨h3, h4⟩ := h2 hi
      have hu : tt a (i + 1) = tt a i := by simp [tt, h3]
      rw [hu]
      refine ⟨fun h => ?_, fun _ => ⟨h3, h4⟩⟩
      unfold I64 at h hi
      generalize a * (i : Int) = m at *
      omega
theorem tt_I64 {a : Int} (ha : I64 a) (i : Nat) : I64 (tt a i).1 := by
  by_cases hi : I64 (a * i)
  · rw [(tt_is ha i).1 hi]; exact hi
  · exact ((tt_is ha i).2 hi).2
theorem tt_end {a : Int} (ha : I64 a) (k : Nat) : amtE (a * k) = (tt a k).2 ∧ (amtE (a * k) = 0 → amt (a * k) = (tt a k).1) := by
  by_cases hi : I64 (a * k)
  · rw [(tt_is ha k).1 hi]; exact ⟨(amt_yes hi).2, fun _ => (amt_yes hi).1⟩
  · rw [(amt_no hi).2, ((tt_is ha k).2 hi).1]; exact ⟨rfl, fun h => by cases h⟩
theorem k40 {b : Int} (hb : 0 ≤ b ∧ b ≤ 255) : ∃ k : Int, (0 ≤ k ∧ k ≤ 39) ∧ real.wrap .i64 (real.bin .rem .u8 b 40) = k := by
  refine ⟨b.tmod 40, ?_, ?_⟩
  · have h1 := Int.tmod_lt_of_pos b (show (0 : Int) < 40 by omega)
    have h2 := Int.tmod_nonneg (a := b) 40 hb.1
    omega
  · have h1 := Int.tmod_lt_of_pos b (show (0 : Int) < 40 by omega)
    have h2 := Int.tmod_nonneg (a := b) 40 hb.1
    show IntKind.i64.wrap (b.tmod 40) = _
    rw [wrap_i64 _ (by omega) (by omega)]
theorem K_CentsTimes (a b : Int) (ha : I64 a) (hb : 0 ≤ b ∧ b ≤ 255) : CallE Tryd.prog 6 [.d (.int .i64 a), .d (.int .u8 b)] 0 [] (Gets fun v => v = .d (.bool true)) := by
  obtain ⟨k, hk, hkk⟩ := k40 hb
  refine call_fn tysOK orders (C := C6) C6_ok ⟨[((3, 2), [0])], [], 0⟩ Tryd.func6 (by kernel_rfl) (by kernel_rfl) ?_
  intro oBin oCmp oWrap oNeg oCom oBnot oBeq oPickB oPickI oPickS oInb oSub2 oMinI oMaxI oSlen oSidx oScat oSsub oScmp oScok oLen oCI oCB oCS oCL oOkR oApp oApok oSub oSetc oRep oMkok oNthI oNthB oNthS oIteI oIteB oIteS oB2s oS2b oAllB oWf oDeq ho; cbv
  (repeat (any_goals (first
    | with_reducible refine And.intro ?_ ?_
    | exact True.intro
    | with_reducible exact rfl
    | (with_reducible refine Nd.mk ?_; try dsimp only)
    | (with_reducible refine Al.mk (fun x hx => ?_); cbv)
    | (with_reducible refine hK' _ ?_; clear hK' K'; cbv)
    | (with_reducible refine brA.yes (by first | assumption | exact rfl | (simp only [show oCmp = real.cmp from congrArg Ar.cmp ho, show oBin = real.bin from congrArg Ar.bin ho, show oScmp = real.scmp from congrArg Ar.scmp ho, show oPickB = real.pickB from congrArg Ar.pickB ho]; decide)) ?_; cbv)
    | (with_reducible refine brA.no (by first | assumption | exact rfl | (simp only [show oCmp = real.cmp from congrArg Ar.cmp ho, show oBin = real.bin from congrArg Ar.bin ho, show oScmp = real.scmp from congrArg Ar.scmp ho, show oPickB = real.pickB from congrArg Ar.pickB ho]; decide)) ?_; cbv)
    | (with_reducible refine bcase (fun hb => ?_) (fun hb => ?_) <;> cbv)
    | (intro K' hK'; cbv))))
  · ((try clear hK' K'); cases ho; (try simp only [nc1] at *); (try simp only [Int.ofNat_eq_natCast] at *)); rfl
  · exact ha
  · ((try clear hK' K'); cases ho; (try simp only [nc1] at *); (try simp only [Int.ofNat_eq_natCast] at *)); rw [hkk]; unfold I64; omega
  · ((try clear hK' K'); cases ho; (try simp only [nc1] at *); (try simp only [Int.ofNat_eq_natCast] at *)); rw [hkk]; simp only [real]; exact decide_eq_true (by unfold maxLen; omega)
  · ((try clear hK' K'); cases ho; (try simp only [nc1] at *); (try simp only [Int.ofNat_eq_natCast] at *)); exact ⟨[], rfl, by simp, by simp⟩
  rename_i p hp q hq y hy
  obtain ⟨kk, hkk'⟩ : ∃ kk, kk = oWrap .i64 (oBin .rem .u8 b 40) := ⟨_, rfl⟩
  have hkv : kk = k := by rw [hkk', ← hkk, show oWrap = real.wrap from congrArg Ar.wrap ho, show oBin = real.bin from congrArg Ar.bin ho]
  have hr0 : ints (oRep 0 [.int .i64 0]) = [] := by rw [show oRep = real.rep from congrArg Ar.rep ho]; rfl
  rw [hr0] at hy hx
  rw [← hkk'] at hp hq ⊢
  refine ⟨fun st => ∃ (i : Nat) (j y f : Int), j = i ∧ i ≤ k.toNat ∧ (y, f) = tt a i ∧ st = ⟨mkF 52 0 [(0, .d (.int .i64 a)), (6, .d (.int .i64 p)), (7, .d (.int .i64 q)), (8, .d (.int .i64 y)), (9, .d (.int .i64 f)), (25, .d (.int .i64 kk)), (26, .d (.int .i64 j))], 0, []⟩,
    fun st => (k - ctr 26 st).toNat, ⟨[], [], [0, 6, 7, 8, 9, 25, 26], [], 0⟩, ?_, ?_, ?_⟩
  · cbv
  · exact ⟨0, 0, y, x, rfl, Nat.zero_le _, by rw [hy, hx]; rfl, rfl⟩
  rintro st1 ⟨i, j, y, f, hj, hi, hyf, rfl⟩
  cbv
  (repeat (any_goals (first
    | with_reducible refine And.intro ?_ ?_
    | exact True.intro
    | with_reducible exact rfl
    | (with_reducible refine Nd.mk ?_; try dsimp only)
    | (with_reducible refine Al.mk (fun x hx => ?_); cbv)
    | (with_reducible refine hK' _ ?_; clear hK' K'; cbv)
    | (with_reducible refine brA.yes (by first | assumption | exact rfl | (simp only [show oCmp = real.cmp from congrArg Ar.cmp ho, show oBin = real.bin from congrArg Ar.bin ho, show oScmp = real.scmp from congrArg Ar.scmp ho, show oPickB = real.pickB from congrArg Ar.pickB ho]; decide)) ?_; cbv)
    | (with_reducible refine brA.no (by first | assumption | exact rfl | (simp only [show oCmp = real.cmp from congrArg Ar.cmp ho, show oBin = real.bin from congrArg Ar.bin ho, show oScmp = real.scmp from congrArg Ar.scmp ho, show oPickB = real.pickB from congrArg Ar.pickB ho]; decide)) ?_; cbv)
    | (with_reducible refine bcase (fun hb => ?_) (fun hb => ?_) <;> cbv)
    | (intro K' hK'; cbv))))
  all_goals ((try clear hK' K'); cases ho; (try simp only [nc1] at *); (try simp only [Int.ofNat_eq_natCast] at *))
  all_goals (try simp only [real, rCmp, rBin, decide_eq_true_eq, decide_eq_false_iff_not, beq_iff_eq, beq_eq_false_iff_ne, ne_eq] at *)
  · have := tt_I64 ha i
    rw [← hyf] at this
    exact this
  · exact ha
  · have hy1 := ‹_ = amt (y + a)›
    refine ⟨⟨[], [], [0, 6, 7, 8, 9, 25, 26], [], 0⟩, rfl, ⟨i + 1, IntKind.i64.wrap (j + 1), _, x, ?_, by omega, ?_, rfl⟩, ?_⟩
    · rw [wrap_i64 _ (by omega) (by omega)]; omega
    · rw [hy1, hx, tt, ← hyf]
      simp [hb]
    · show (k - IntKind.i64.wrap (j + 1)).toNat < (k - j).toNat
      rw [wrap_i64 _ (by omega) (by omega)]; omega
  · refine ⟨⟨[], [], [0, 6, 7, 8, 9, 25, 26], [], 0⟩, rfl, ⟨i + 1, IntKind.i64.wrap (j + 1), y, f, ?_, by omega, ?_, rfl⟩, ?_⟩
    · rw [wrap_i64 _ (by omega) (by omega)]; omega
    · rw [tt, ← hyf]
      simp [hb]
    · show (k - IntKind.i64.wrap (j + 1)).toNat < (k - j).toNat
      rw [wrap_i64 _ (by omega) (by omega)]; omega
  all_goals
    obtain rfl : i = k.toNat := by omega
    obtain ⟨e1, e2⟩ := tt_end ha k.toNat
    rw [← hyf, show ((k.toNat : Nat) : Int) = kk by omega, ← hq] at e1 e2
    rw [← hp] at e2
    simp only at e1 e2
    clear hyf hp hq hkk hkk' hr0 hy hx
    simp_all
end Go.Proofs.YtieoipmbcdfmeaaDoor.Ab
