/- strconv, strings: what cents.Parse calls, as calls of the executor. -/
import Derived.Test.YtieoipmbcdfmeaaDoorTrAb21
import Derived.Test.YtieoipmbcdfmeaaDoorTrAbT
import Derived.Test.YtieoipmbcdfmeaaDoorTrCTxt
namespace Go.Proofs.YtieoipmbcdfmeaaDoor.Ab
open Go Go.RowKit Go.Sort
set_option linter.unusedVariables false
set_option linter.unusedSimpArgs false
set_option maxRecDepth 100000

/-! small ones, from the shelf -/
theorem K_lower (c : Int) {n : Nat} {h : Hp} {K : CallK} (hK : K (.d (.int .u8 (bits .or .u8 c 32))) n h) : CallE Tryd.prog 75 [.d (.int .u8 c)] n h K :=
  call_old (v := .int .u8 (bits .or .u8 c 32)) Tryd.func75 (by kernel_rfl) (by kernel_rfl) (vals := [.int .u8 c]) (by intro ρ w M vs h; simpa [RelVs, RelV, RelD] using h) (by intro ρ w M; simp [RelVs, RelV, RelD])
    (fun w _ => (Tryd.internal_strconv_lower c w).mono (by rintro e w' ⟨he, rfl⟩; exact ⟨he, Below.refl _ _⟩)) hK
theorem K_HasPrefix (s p : List UInt8) {n : Nat} {h : Hp} {K : CallK} (hK : K (.d (.bool (Lib.hasPrefix s p))) n h) : CallE Tryd.prog 40 [.d (.str s), .d (.str p)] n h K :=
  call_old (v := .bool (Lib.hasPrefix s p)) Tryd.func40 (by kernel_rfl) (by kernel_rfl) (vals := [.string ⟨s.toArray⟩, .string ⟨p.toArray⟩]) (by intro ρ w M vs h; simpa [RelVs, RelV, RelD] using h) (by intro ρ w M; simp [RelVs, RelV, RelD])
    (fun w _ => (Tryd.strings_HasPrefix ⟨s.toArray⟩ ⟨p.toArray⟩ w).mono (by rintro e w' ⟨he, rfl⟩; exact ⟨he, Below.refl _ _⟩)) hK
theorem K_TrimPrefix (s p : List UInt8) {n : Nat} {h : Hp} {K : CallK} (hK : K (.d (.str (Lib.trimPrefix s p))) n h) : CallE Tryd.prog 38 [.d (.str s), .d (.str p)] n h K :=
  call_old (v := .string ⟨(Lib.trimPrefix s p).toArray⟩) Tryd.func38 (by kernel_rfl) (by kernel_rfl) (vals := [.string ⟨s.toArray⟩, .string ⟨p.toArray⟩]) (by intro ρ w M vs h; simpa [RelVs, RelV, RelD] using h) (by intro ρ w M; simp [RelVs, RelV, RelD])
    (fun w _ => (Tryd.strings_TrimPrefix ⟨s.toArray⟩ ⟨p.toArray⟩ w).mono (by rintro e w' ⟨he, rfl⟩; exact ⟨he, Below.refl _ _⟩)) hK
theorem K_IndexOne (s : List UInt8) (c : UInt8) {n : Nat} {h : Hp} {K : CallK} (hK : K (.d (.int .i64 (Lib.indexByte s c))) n h) : CallE Tryd.prog 74 [.d (.str s), .d (.str [c])] n h K :=
  call_old (v := .int .i64 (Lib.indexByte s c)) Tryd.func74 (by kernel_rfl) (by kernel_rfl) (vals := [.string ⟨s.toArray⟩, .string ⟨[c].toArray⟩]) (by intro ρ w M vs h; simpa [RelVs, RelV, RelD] using h) (by intro ρ w M; simp [RelVs, RelV, RelD])
    (fun w _ => (Tryd.stringslite_Index_one ⟨s.toArray⟩ c w).mono (by rintro e w' ⟨he, rfl⟩; exact ⟨he, Below.refl _ _⟩)) hK
theorem K_Text (c : Int) (hc : I64 c) {n : Nat} {h : Hp} {K : CallK} (hK : K (.d (.str (T03 c))) n h) : CallE Tryd.prog 13 [.d (.int .i64 c)] n h K :=
  call_old (v := .string ⟨(T03 c).toArray⟩) Tryd.func13 (by kernel_rfl) (by kernel_rfl) (vals := [.int .i64 c]) (by intro ρ w M vs h; simpa [RelVs, RelV, RelD] using h) (by intro ρ w M; simp [RelVs, RelV, RelD]) (fun w hJ => C_CText c hc w hJ.1) hK
theorem K_RText (c : Int) (hc : I64 c) {n : Nat} {h : Hp} {K : CallK} (hK : K (.d (.str (T03 c))) n h) : CallE Tryd.prog 16 [.d (.int .i64 c)] n h K :=
  call_old (v := .string ⟨(T03 c).toArray⟩) Tryd.func16 (by kernel_rfl) (by kernel_rfl) (vals := [.int .i64 c]) (by intro ρ w M vs h; simpa [RelVs, RelV, RelD] using h) (by intro ρ w M; simp [RelVs, RelV, RelD]) (fun w hJ => C_R03Text c hc w) hK
theorem K_Add (a b : Int) (ha : I64 a) (hb : I64 b) {n : Nat} {h : Hp} {K : CallK} (hK : K (.tup [.d (.int .i64 (amt (a + b))), .d (.int .i64 (amtE (a + b)))]) n h) : CallE Tryd.prog 17 [.d (.int .i64 a), .d (.int .i64 b)] n h K :=
  call_old (v := .tuple #[.int .i64 (amt (a + b)), .int .i64 (amtE (a + b))]) Tryd.func17 (by kernel_rfl) (by kernel_rfl) (vals := [.int .i64 a, .int .i64 b]) (by intro ρ w M vs h; simpa [RelVs, RelV, RelD] using h)
    (by intro ρ w M; simp [RelVs, RelV, RelD]) (fun w hJ => C_Add a b ha hb w) hK
theorem K_Clone (s : List UInt8) (hs : s.length ≤ 281474976710656) {n : Nat} {h : Hp} {K : CallK} (hK : K (.d (.str s)) n h) : CallE Tryd.prog 60 [.d (.str s)] n h K :=
  call_old (v := .string ⟨s.toArray⟩) Tryd.func60 (by kernel_rfl) (by kernel_rfl) (vals := [.string ⟨s.toArray⟩]) (by intro ρ w M vs h; simpa [RelVs, RelV, RelD] using h) (by intro ρ w M; simp [RelVs, RelV, RelD])
    (fun w _ => (Tryd.stringslite_Clone ⟨s.toArray⟩ w (by simpa [ByteArray.size] using hs))) hK
/-! what is told of each -/
def S_lower (c : Int) (K : CallK) (n : Nat) (h : Hp) : Prop := Al (fun x => x = bits .or .u8 c 32) fun x => K (.d (.int .u8 x)) n h
theorem K_lower1 {c : Int} {n : Nat} {h : Hp} {K : CallK} (hK : S_lower c K n h) : CallE Tryd.prog 75 [.d (.int .u8 c)] n h K := K_lower c (hK.h _ rfl)
def S_Index1 (s : List UInt8) (c : UInt8) (K : CallK) (n : Nat) (h : Hp) : Prop := Al (fun x => x = Lib.indexByte s c) fun x => K (.d (.int .i64 x)) n h
theorem K_Index1 {s : List UInt8} {c : UInt8} {n : Nat} {h : Hp} {K : CallK} (hK : S_Index1 s c K n h) : CallE Tryd.prog 74 [.d (.str s), .d (.str [c])] n h K := K_IndexOne s c (hK.h _ rfl)

/-! Cut at one byte -/
def C55 : CallS := fun f args n h K => match f with
  | 74 => (match args with | [.d (.str s), .d (.str [c])] => S_Index1 s c K n h | _ => False)
  | _ => False
theorem C55_ok : ∀ f args n h K, C55 f args n h K → CallE Tryd.prog f args n h K := by
  intro f args n h K hc
  unfold C55 at hc
  split at hc
  · split at hc
    · exact K_Index1 hc
    · exact hc.elim
  · exact hc.elim
def cutA (s : List UInt8) (j : Int) : List UInt8 := bif decide (0 ≤ j) then s.take j.toNat else s
def cutB (s : List UInt8) (j : Int) : List UInt8 := bif decide (0 ≤ j) then s.drop (j.toNat + 1) else []
def S_cut (s : List UInt8) (c : UInt8) (K : CallK) (n : Nat) (h : Hp) : Prop := Al (fun x => x = cutA s (Lib.indexByte s c)) fun x => Al (fun y => y = cutB s (Lib.indexByte s c)) fun y => Al (fun z => z = decide (0 ≤ Lib.indexByte s c)) fun z => K (.tup [.d (.str x), .d (.str y), .d (.bool z)]) n h
theorem K_cut0 (s : List UInt8) (c : UInt8) (hs : s.length ≤ 281474976710656) (hi : Lib.indexByte s c < s.length) : CallE Tryd.prog 55 [.d (.str s), .d (.str [c])] 0 [] (Gets fun v => v = .tup [.d (.str (cutA s (Lib.indexByte s c))), .d (.str (cutB s (Lib.indexByte s c))), .d (.bool (decide (0 ≤ Lib.indexByte s c)))]) := by
  refine call_fn tysOK orders (C := C55) C55_ok H0 Tryd.func55 (by kernel_rfl) (by kernel_rfl) ?_
  intro oBin oCmp oWrap oNeg oCom oBnot oBeq oPickB oPickI oPickS oInb oSub2 oMinI oMaxI oSlen oSidx oScat oSsub oScmp oScok oLen oCI oCB oCS oCL oOkR oApp oApok oSub oSetc oRep oMkok oNthI oNthB oNthS oIteI oIteB oIteS oB2s oS2b oAllB oWf oDeq ho; cbv
  (repeat (any_goals (first
    | with_reducible refine And.intro ?_ ?_
    | exact True.intro
    | with_reducible exact rfl
    | (with_reducible refine Nd.mk ?_; try dsimp only)
    | (with_reducible refine Al.mk (fun x hx => ?_); cbv)
    | (with_reducible refine hK' _ ?_; clear hK' K'; cbv)
    | (with_reducible refine brA.yes (by first | assumption | exact rfl | (simp only [show oCmp = real.cmp from congrArg Ar.cmp ho, show oBin = real.bin from congrArg Ar.bin ho, show oScmp = real.scmp from congrArg Ar.scmp ho, show oPickB = real.pickB from congrArg Ar.pickB ho]; decide)) ?_; cbv)
    | (with_reducible refine brA.no (by first | assumption | exact rfl | (simp only [show oCmp = real.cmp from congrArg Ar.cmp ho, show oBin = real.bin from congrArg Ar.bin ho, show oScmp = real.scmp from congrArg Ar.scmp ho, show oPickB = real.pickB from congrArg Ar.pickB ho]; decide)) ?_; cbv)
    | (with_reducible refine bcase (fun hb => ?_) (fun hb => ?_) <;> cbv)
    | (intro K' hK'; cbv))))
  all_goals ((try clear hK' K'); cases ho; (try simp only [real, rBin, rCmp, Op.intArith, decide_eq_true_eq, decide_eq_false_iff_not, ge_iff_le, gt_iff_lt, Bool.cond_true, Bool.cond_false, beq_iff_eq, beq_eq_false_iff_ne, bne_iff_ne, bne_eq_false_iff_eq, ne_eq, Bool.not_eq_true, Bool.false_eq_true, Bool.true_eq_false, not_true_eq_false, not_false_eq_true] at *); (try simp only [nc1] at *); (try simp only [Int.ofNat_eq_natCast] at *))
  all_goals (generalize Lib.indexByte s c = j at *; subst hx; try simp only [cutA, cutB, List.length_singleton] at *)
  all_goals first
    | omega
    | (rw [wrap_i64 _ (by omega) (by omega)]; omega)
    | (rw [wrap_i64 _ (by omega) (by omega), show (x + ((1 : Nat) : Int)).toNat = x.toNat + 1 by omega]; simp [hb])
    | simp [hb]
theorem K_cut {s : List UInt8} {c : UInt8} (hs : s.length ≤ 281474976710656) (hi : Lib.indexByte s c < s.length) {n : Nat} {h : Hp} {K : CallK} (hK : S_cut s c K n h) : CallE Tryd.prog 55 [.d (.str s), .d (.str [c])] n h K :=
  call_data (K_cut0 s c hs hi) rfl (by rintro v rfl; exact ((hK.h _ rfl).h _ rfl).h _ rfl)
end Go.Proofs.YtieoipmbcdfmeaaDoor.Ab
