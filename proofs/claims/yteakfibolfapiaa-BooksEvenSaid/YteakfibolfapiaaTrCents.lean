/- cents: wide sums, by contract: what is added up is the sum itself; the end tells it, or that it is no amount. -/
import Derived.Test.YteakfibolfapiaaProg
import Derived.Test.YteakfibolfapiaaTrHeap
import Derived.Laws.Externs
namespace Go.Proofs.Yteakfibolfapiaa
open Go.RowKit Go.Sort
set_option linter.unusedVariables false
set_option linter.unusedSimpArgs false

/-! plain numbers -/
def loA (l c : Int) : Int := (l + c) % 18446744073709551616
def hiA (l c : Int) : Int := (l + c) / 18446744073709551616
def hiW (V : Int) : Int := V / 18446744073709551616
def loW (V : Int) : Int := V % 18446744073709551616
def u64 (c : Int) : Int := IntKind.u64.wrap c
def I64 (c : Int) : Prop := -9223372036854775808 ≤ c ∧ c ≤ 9223372036854775807
def Mid (V : Int) : Prop := -85070591730234615865843651857942052864 ≤ V ∧ V ≤ 85070591730234615865843651857942052864
theorem u64_eq (c : Int) : IntKind.u64.wrap c = c % 18446744073709551616 := by simp [IntKind.wrap, IntKind.bits, IntKind.signed]
theorem loW_0 (V : Int) : 0 ≤ loW V := by unfold loW; omega
theorem loW_1 (V : Int) : loW V ≤ 18446744073709551615 := by unfold loW; omega
theorem wrap_0 (c : Int) : 0 ≤ IntKind.u64.wrap c := by rw [u64_eq]; omega
theorem hiA_0 (l c : Int) (h : 0 ≤ l) : 0 ≤ hiA l (IntKind.u64.wrap c) := by rw [u64_eq]; unfold hiA; omega
theorem hiA_1 (l c : Int) (h : l ≤ 18446744073709551615) : hiA l (IntKind.u64.wrap c) ≤ 1 := by rw [u64_eq]; unfold hiA; omega
theorem add_lo (V c : Int) : loA (loW V) (IntKind.u64.wrap c) = loW (V + c) := by rw [u64_eq]; unfold loA loW; omega
theorem add_hi (V c : Int) (hV : Mid V) (hc : I64 c) : wrap64 (wrap64 (hiW V + c / 9223372036854775808) + hiA (loW V) (IntKind.u64.wrap c)) = hiW (V + c) := by
  rw [u64_eq]; unfold hiA hiW loW; unfold Mid at hV; unfold I64 at hc
  have hf : c / 9223372036854775808 = 0 ∨ c / 9223372036854775808 = -1 := by omega
  have he : -4611686018427387904 ≤ V / 18446744073709551616 ∧ V / 18446744073709551616 ≤ 4611686018427387904 := by omega
  have hh : 0 ≤ (V % 18446744073709551616 + c % 18446744073709551616) / 18446744073709551616 ∧ (V % 18446744073709551616 + c % 18446744073709551616) / 18446744073709551616 ≤ 1 := by omega
  have e1 : wrap64 (V / 18446744073709551616 + c / 9223372036854775808) = V / 18446744073709551616 + c / 9223372036854775808 := by unfold wrap64; omega
  rw [e1]
  have e2 : wrap64 (V / 18446744073709551616 + c / 9223372036854775808 + (V % 18446744073709551616 + c % 18446744073709551616) / 18446744073709551616) =
      V / 18446744073709551616 + c / 9223372036854775808 + (V % 18446744073709551616 + c % 18446744073709551616) / 18446744073709551616 := by unfold wrap64; omega
  rw [e2]
  rcases hf with h | h <;> rw [h] <;> omega

/-- A sum as an amount, and the error beside it. -/
def amt (V : Int) : Int := if -9223372036854775808 ≤ V ∧ V ≤ 9223372036854775807 then V else 0
def amtE (V : Int) : Int := if -9223372036854775808 ≤ V ∧ V ≤ 9223372036854775807 then 0 else 6
theorem fits_yes (V : Int) (h : I64 V) : wrap64 (loW V) = V ∧ hiW V = V / 9223372036854775808 := by
  unfold I64 at h; unfold wrap64 loW hiW; omega
theorem fits_no (V : Int) (hV : Mid V) (h : ¬ I64 V) : hiW V ≠ wrap64 (loW V) / 9223372036854775808 := by
  unfold I64 at h; unfold wrap64 loW hiW; omega
theorem amt_yes {V : Int} (h : I64 V) : amt V = V ∧ amtE V = 0 := by unfold amt amtE; unfold I64 at h; rw [if_pos h, if_pos h]; exact ⟨rfl, rfl⟩
theorem amt_no {V : Int} (h : ¬ I64 V) : amt V = 0 ∧ amtE V = 6 := by unfold amt amtE; unfold I64 at h; rw [if_neg h, if_neg h]; exact ⟨rfl, rfl⟩
theorem amt_in (V : Int) : I64 (amt V) := by unfold amt I64; split <;> omega
theorem zero_wide : hiW 0 = 0 ∧ loW 0 = 0 := by decide

theorem run_add64c (l c : Int) (h0 : 0 ≤ l) (h1 : 0 ≤ c) (W : World) : (callFunc 85 #[.int .u64 l, .int .u64 c, .int .u64 0]).run Try.prog W = .ok (.value (.tuple #[.int .u64 (loA l c), .int .u64 (hiA l c)])) W := by
  rw [run_callFunc_extern Try.func85 (by kernel_rfl) (by kernel_rfl) (by kernel_rfl) (e := add64Entry) (by kernel_rfl), run_add64 l c 0 h0 h1 (by omega) (by omega)]
  simp [Result.andThen, loA, hiA]

set_option maxRecDepth 100000 in
set_option maxHeartbeats 1000000 in
theorem add_raw (h l c : Int) (w : World) (hl0 : 0 ≤ l) (hl : l ≤ 18446744073709551615) :
    Calls Try.prog 70 #[.agg #[.int .i64 h, .int .u64 l], .int .i64 c] w fun e w' =>
      e = .returned (.agg #[.int .i64 (wrap64 (wrap64 (h + c / 9223372036854775808) + hiA l (IntKind.u64.wrap c))), .int .u64 (loA l (IntKind.u64.wrap c))]) ∧ Below w.heap.size w w' := by
  have hw0 := wrap_0 c
  have hr := fun W => run_add64c l (IntKind.u64.wrap c) hl0 hw0 W
  have hc0 := hiA_0 l c hl0
  have hc1 := hiA_1 l c hl
  clear hl
  go_enter Try.func70, Try.ntmps70
  go_wp2_with fail
  refine bodyPost_ret (Tr.results_run [.cell 4 147] [_] rfl ⟨_, _, rfl, ⟨_, rfl, Tr.load_blk (Tr.blk_at (by simp)) Try.underlying147 rfl (by kernel_rfl)⟩, rfl⟩ _ rfl) rfl ⟨rfl, ?_⟩
  (repeat (first | with_reducible assumption | (with_reducible exact Below.refl _ _) | ((with_reducible refine Tr.below_alloc ?_ ?_); rotate_left; focus (first | omega | exact Nat.le_refl _)) | (with_reducible refine Tr.below_drew ?_) | (with_reducible refine Tr.below_drewN ?_) | ((with_reducible refine Tr.below_set ?_ ?_); rotate_left; focus (first | omega | (simp; done) | (simp; omega))) | ((with_reducible refine Tr.below_trans ?_ (by assumption) ?_); rotate_left; focus (first | exact Nat.le_refl _ | omega))))

theorem C_add (V c : Int) (hV : Mid V) (hc : I64 c) (w : World) :
    Calls Try.prog 70 #[.agg #[.int .i64 (hiW V), .int .u64 (loW V)], .int .i64 c] w fun e w' =>
      e = .returned (.agg #[.int .i64 (hiW (V + c)), .int .u64 (loW (V + c))]) ∧ Below w.heap.size w w' := by
  have := add_raw (hiW V) (loW V) c w (loW_0 V) (loW_1 V)
  rwa [add_hi V c hV hc, add_lo V c] at this

set_option maxRecDepth 100000 in
set_option maxHeartbeats 1000000 in
theorem cents_eq (h l : Int) (w : World) (hl0 : 0 ≤ l) (he : (h == wrap64 l / 9223372036854775808) = true) :
    Calls Try.prog 71 #[.agg #[.int .i64 h, .int .u64 l]] w fun e w' => e = .returned (.tuple #[.int .i64 (wrap64 l), .int .i64 0]) ∧ Below w.heap.size w w' := by
  have he2 : (h != wrap64 l / 9223372036854775808) = false := by simp [bne, he]
  go_enter Try.func71, Try.ntmps71
  go_wp2_with fail
  go_ret2
  refine ⟨rfl, ?_⟩
  (repeat (first | with_reducible assumption | (with_reducible exact Below.refl _ _) | ((with_reducible refine Tr.below_alloc ?_ ?_); rotate_left; focus (first | omega | exact Nat.le_refl _)) | (with_reducible refine Tr.below_drew ?_) | (with_reducible refine Tr.below_drewN ?_) | ((with_reducible refine Tr.below_set ?_ ?_); rotate_left; focus (first | omega | (simp; done) | (simp; omega))) | ((with_reducible refine Tr.below_trans ?_ (by assumption) ?_); rotate_left; focus (first | exact Nat.le_refl _ | omega))))
set_option maxRecDepth 100000 in
set_option maxHeartbeats 1000000 in
theorem cents_ne (h l : Int) (w : World) (hl0 : 0 ≤ l) (he : (h == wrap64 l / 9223372036854775808) = false) :
    Calls Try.prog 71 #[.agg #[.int .i64 h, .int .u64 l]] w fun e w' => e = .returned (.tuple #[.int .i64 0, .int .i64 6]) ∧ Below w.heap.size w w' := by
  have he2 : (h != wrap64 l / 9223372036854775808) = true := by simp [bne, he]
  go_enter Try.func71, Try.ntmps71
  go_wp2_with fail
  go_ret2
  refine ⟨rfl, ?_⟩
  (repeat (first | with_reducible assumption | (with_reducible exact Below.refl _ _) | ((with_reducible refine Tr.below_alloc ?_ ?_); rotate_left; focus (first | omega | exact Nat.le_refl _)) | (with_reducible refine Tr.below_drew ?_) | (with_reducible refine Tr.below_drewN ?_) | ((with_reducible refine Tr.below_set ?_ ?_); rotate_left; focus (first | omega | (simp; done) | (simp; omega))) | ((with_reducible refine Tr.below_trans ?_ (by assumption) ?_); rotate_left; focus (first | exact Nat.le_refl _ | omega))))
theorem C_cents (V : Int) (hV : Mid V) (w : World) :
    Calls Try.prog 71 #[.agg #[.int .i64 (hiW V), .int .u64 (loW V)]] w fun e w' => e = .returned (.tuple #[.int .i64 (amt V), .int .i64 (amtE V)]) ∧ Below w.heap.size w w' := by
  by_cases h : I64 V
  · obtain ⟨h1, h2⟩ := fits_yes V h
    have := cents_eq (hiW V) (loW V) w (loW_0 V) (by rw [h1, h2]; simp)
    rw [(amt_yes h).1, (amt_yes h).2]
    rwa [h1] at this
  · have := cents_ne (hiW V) (loW V) w (loW_0 V) (by simpa using fits_no V hV h)
    rw [(amt_no h).1, (amt_no h).2]
    exact this

/-- Add: the sum of two. -/
theorem Mid_of {V : Int} (h : I64 V) : Mid V := by unfold Mid; unfold I64 at h; omega
theorem Mid_of2 {V c : Int} (h : I64 V) (g : I64 c) : Mid (V + c) := by unfold Mid; unfold I64 at h g; omega
theorem C_add0 (a : Int) (ha : I64 a) (w : World) : Calls Try.prog 70 #[.agg #[.int .i64 0, .int .u64 0], .int .i64 a] w fun e w' =>
    e = .returned (.agg #[.int .i64 (hiW a), .int .u64 (loW a)]) ∧ Below w.heap.size w w' := by
  have := C_add 0 a (by unfold Mid; omega) ha w
  rwa [zero_wide.1, zero_wide.2, Int.zero_add] at this
/-- A slice of numbers. -/
def Ints (k : IntKind) (w : World) (v : Value) (xs : List Int) : Prop :=
  ∃ a cap, v = .slice a xs.length cap ∧ (0 < xs.length → ∃ b off, a = some ⟨b, off, none⟩ ∧ b < w.heap.size ∧ ∀ j, j < xs.length → w.cell? ⟨b, off + j, none⟩ = some (.int k (xs.getD j 0)))
theorem Ints.keep {k : IntKind} {w w' : World} {v : Value} {xs : List Int} (hb : Below w.heap.size w w') (h : Ints k w v xs) : Ints k w' v xs := by
  obtain ⟨a, cap, hv, h⟩ := h
  refine ⟨a, cap, hv, fun h0 => ?_⟩
  obtain ⟨b, off, ha, hlt, hc⟩ := h h0
  exact ⟨b, off, ha, Nat.lt_of_lt_of_le hlt hb.size, fun j hj => by rw [hb.cell (p := ⟨b, off + j, none⟩) hlt]; exact hc j hj⟩

theorem sum_take_bd (xs : List Int) (hx : ∀ x ∈ xs, I64 x) (i : Nat) : -(9223372036854775808 * (i : Int)) ≤ (xs.take i).sum ∧ (xs.take i).sum ≤ 9223372036854775808 * (i : Int) := by
  induction i with
  | zero => simp
  | succ i ih =>
    by_cases h : i < xs.length
    · rw [List.take_succ_eq_append_getElem h, List.sum_append, List.sum_singleton]
      have := hx _ (List.getElem_mem h)
      unfold I64 at this
      omega
    · have e : xs.take (i + 1) = xs.take i := by rw [List.take_of_length_le (by omega), List.take_of_length_le (by omega)]
      rw [e]; omega
theorem sum_take_mid (xs : List Int) (hx : ∀ x ∈ xs, I64 x) (i : Nat) (hi : i ≤ 9223372036854775807) : Mid (xs.take i).sum := by
  have := sum_take_bd xs hx i
  unfold Mid; omega
theorem sum_take_succ (xs : List Int) (i : Nat) (h : i < xs.length) : (xs.take (i + 1)).sum = (xs.take i).sum + xs.getD i 0 := by
  rw [List.take_succ_eq_append_getElem h, List.sum_append, List.sum_singleton]; simp [List.getD, h]

def TotInv (xs : List Int) (g : Nat) (B : World) (s9 : Value) (wr : World) : Prop :=
  ∃ i : Nat, i ≤ xs.length ∧ s9 = .int .i64 i ∧ wr.heap[g]? = some (.cells #[.int .i64 (hiW (xs.take i).sum), .int .u64 (loW (xs.take i).sum)] 147 (0, 0)) ∧ Below B.heap.size B wr

set_option maxRecDepth 100000 in
set_option maxHeartbeats 2000000 in
/-- Total: the sum of all. -/
theorem C_Total (v : Value) (xs : List Int) (w : World) (hv : Ints .i64 w v xs) (hx : ∀ x ∈ xs, I64 x) (hn : xs.length ≤ 9223372036854775807) :
    Calls Try.prog 49 #[v] w fun e w' => e = .returned (.tuple #[.int .i64 (amt xs.sum), .int .i64 (amtE xs.sum)]) ∧ Below w.heap.size w w' := by
  obtain ⟨a, cap, rfl, hc⟩ := hv
  have HC := Lib.hid hc; have HX := Lib.hid hx
  clear hc hx
  go_enter Try.func49, Try.ntmps49
  go_wp2_with fail
  go_loopw [9] (fun s9 wr => TotInv xs w.heap.size w s9 wr) (fun s9 _ => xs.length - (intOf s9).toNat)
  case atStart =>
    exact ⟨0, Nat.zero_le _, rfl, by rw [List.take_zero, List.sum_nil, zero_wide.1, zero_wide.2]; (repeat (first | with_reducible assumption | with_reducible refine Tr.blk_drew ?_ | with_reducible refine Tr.blk_drewN ?_ | (refine Tr.blk_at ?_; focus (first | (simp; done) | (simp; omega))) | with_reducible refine Tr.blk_old ?_ | ((with_reducible refine Tr.blk_set_ne ?_ _ ?_); rotate_left; focus (first | (simp; done) | (simp; omega) | (simp; assumption))))), by (repeat (first | with_reducible assumption | (with_reducible exact Below.refl _ _) | ((with_reducible refine Tr.below_alloc ?_ ?_); rotate_left; focus (first | omega | exact Nat.le_refl _)) | (with_reducible refine Tr.below_drew ?_) | (with_reducible refine Tr.below_drewN ?_) | ((with_reducible refine Tr.below_set ?_ ?_); rotate_left; focus (first | omega | (simp; done) | (simp; omega))) | ((with_reducible refine Tr.below_trans ?_ (by assumption) ?_); rotate_left; focus (first | exact Nat.le_refl _ | omega))))⟩
  case round =>
    obtain ⟨i, hi, rfl, hg, hB⟩ := hrel
    have BG := Lib.hid hg
    have cg := fun o => Tr.cell_blk (o := o) hg
    have fg := fun o => Tr.frozen_blk (o := o) hg
    clear hg
    by_cases hlt : i < xs.length
    · obtain ⟨b, off, rfl, hbl, hcell⟩ := HC.out (by omega)
      obtain ⟨x, hxe⟩ : ∃ x, x = xs.getD i 0 := ⟨_, rfl⟩
      have hci : wr.cell? ⟨b, off + i, none⟩ = some (.int .i64 x) := by rw [hB.cell (p := ⟨b, off + i, none⟩) hbl, hcell i hlt, hxe]
      have hxI : I64 x := by rw [hxe]; simp only [List.getD, List.getElem?_eq_getElem hlt, Option.getD_some]; exact HX.out _ (List.getElem_mem _)
      have hs := sum_take_succ xs i hlt
      rw [← hxe] at hs
      have HS := Lib.hid hs; have HXI := Lib.hid hxI
      clear hcell hxe hxI hs
      have hgB : w.heap.size < wr.heap.size := Tr.blk_lt BG.out
      go_wp2_with fail
      refine (C_add _ x (sum_take_mid xs HX.out i (by omega)) HXI.out _).mono ?_
      rintro e w2 ⟨rfl, hb2⟩
      have b2 := Tr.blk_keep hb2 BG.out
      have c2 := fun o => Tr.cell_blk (o := o) b2
      have f2 := fun o => Tr.frozen_blk (o := o) b2
      have B2 := Lib.hid b2
      have hB2 := Tr.below_trans hB hb2
      clear b2 cg fg hci
      go_wp2
      go_roundw
      case rel =>
        refine ⟨i + 1, by omega, by go_num, ?_, ?_⟩
        · rw [HS.out]
          exact Tr.blk_set (o := 1) (Tr.blk_set (o := 0) B2.out _) _
        · exact Tr.below_set (Tr.below_set hB2 (Nat.le_refl _)) (Nat.le_refl _)
      case measure => simp [intOf]; omega
    · have hie : i = xs.length := by omega
      subst hie
      rw [List.take_length] at cg BG
      have hm : Mid xs.sum := by have := sum_take_mid xs HX.out xs.length hn; rwa [List.take_length] at this
      have HM := Lib.hid hm; clear hm
      go_wp2_with (go_at_call 71; refine (C_cents _ HM.out _).mono ?_; rintro e w3 ⟨rfl, hb3⟩)
      go_ret2
      exact ⟨rfl, Tr.below_trans hB hb3⟩
end Go.Proofs.Yteakfibolfapiaa
