/- Several texts in one: Cents, Bk2, BkP, Bk3, Bl1. -/
import Derived.Test.YteakfibolfapiaaProg
import Derived.Test.YteakfibolfapiaaTrPk1
import Derived.Laws.Externs
import Derived.Test.YteakfibolfapiaaTrPk10
import Derived.Test.YteakfibolfapiaaSrt
import Derived.Test.YteakfibolfapiaaShelf
import Derived.Shelf.SlSortCmp.WholeK
import Derived.Shelf.SlSortCmp.InsertionK
import Derived.Shelf.SlSortCmp.NoneTotal
import Derived.Sort.OwnSorted
import Derived.Maps.AppendAt
section
namespace Go.Proofs.Yteakfibolfapiaa
open Go.RowKit Go.Sort
set_option linter.unusedVariables false
set_option linter.unusedSimpArgs false

/-! plain numbers -/
def loA (l c : Int) : Int := (l + c) % 18446744073709551616
def hiA (l c : Int) : Int := (l + c) / 18446744073709551616
def hiW (V : Int) : Int := V / 18446744073709551616
def loW (V : Int) : Int := V % 18446744073709551616
def u64 (c : Int) : Int := IntKind.u64.wrap c
def I64 (c : Int) : Prop := -9223372036854775808 ≤ c ∧ c ≤ 9223372036854775807
def Mid (V : Int) : Prop := -85070591730234615865843651857942052864 ≤ V ∧ V ≤ 85070591730234615865843651857942052864
theorem u64_eq (c : Int) : IntKind.u64.wrap c = c % 18446744073709551616 := by simp [IntKind.wrap, IntKind.bits, IntKind.signed]
theorem loW_0 (V : Int) : 0 ≤ loW V := by unfold loW; omega
theorem loW_1 (V : Int) : loW V ≤ 18446744073709551615 := by unfold loW; omega
theorem wrap_0 (c : Int) : 0 ≤ IntKind.u64.wrap c := by rw [u64_eq]; omega
theorem hiA_0 (l c : Int) (h : 0 ≤ l) : 0 ≤ hiA l (IntKind.u64.wrap c) := by rw [u64_eq]; unfold hiA; omega
theorem hiA_1 (l c : Int) (h : l ≤ 18446744073709551615) : hiA l (IntKind.u64.wrap c) ≤ 1 := by rw [u64_eq]; unfold hiA; omega
theorem add_lo (V c : Int) : loA (loW V) (IntKind.u64.wrap c) = loW (V + c) := by rw [u64_eq]; unfold loA loW; omega
theorem add_hi (V c : Int) (hV : Mid V) (hc : I64 c) : wrap64 (wrap64 (hiW V + c / 9223372036854775808) + hiA (loW V) (IntKind.u64.wrap c)) = hiW (V + c) := by
  rw [u64_eq]; unfold hiA hiW loW; unfold Mid at hV; unfold I64 at hc
  have hf : c / 9223372036854775808 = 0 ∨ c / 9223372036854775808 = -1 := by omega
  have he : -4611686018427387904 ≤ V / 18446744073709551616 ∧ V / 18446744073709551616 ≤ 4611686018427387904 := by omega
  have hh : 0 ≤ (V % 18446744073709551616 + c % 18446744073709551616) / 18446744073709551616 ∧ (V % 18446744073709551616 + c % 18446744073709551616) / 18446744073709551616 ≤ 1 := by omega
  have e1 : wrap64 (V / 18446744073709551616 + c / 9223372036854775808) = V / 18446744073709551616 + c / 9223372036854775808 := by unfold wrap64; omega
  rw [e1]
  have e2 : wrap64 (V / 18446744073709551616 + c / 9223372036854775808 + (V % 18446744073709551616 + c % 18446744073709551616) / 18446744073709551616) =
      V / 18446744073709551616 + c / 9223372036854775808 + (V % 18446744073709551616 + c % 18446744073709551616) / 18446744073709551616 := by unfold wrap64; omega
  rw [e2]
  rcases hf with h | h <;> rw [h] <;> omega

/-- A sum as an amount, and the error beside it. -/
def amt (V : Int) : Int := if -9223372036854775808 ≤ V ∧ V ≤ 9223372036854775807 then V else 0
def amtE (V : Int) : Int := if -9223372036854775808 ≤ V ∧ V ≤ 9223372036854775807 then 0 else 6
theorem fits_yes (V : Int) (h : I64 V) : wrap64 (loW V) = V ∧ hiW V = V / 9223372036854775808 := by
  unfold I64 at h; unfold wrap64 loW hiW; omega
theorem fits_no (V : Int) (hV : Mid V) (h : ¬ I64 V) : hiW V ≠ wrap64 (loW V) / 9223372036854775808 := by
  unfold I64 at h; unfold wrap64 loW hiW; omega
theorem amt_yes {V : Int} (h : I64 V) : amt V = V ∧ amtE V = 0 := by unfold amt amtE; unfold I64 at h; rw [if_pos h, if_pos h]; exact ⟨rfl, rfl⟩
theorem amt_no {V : Int} (h : ¬ I64 V) : amt V = 0 ∧ amtE V = 6 := by unfold amt amtE; unfold I64 at h; rw [if_neg h, if_neg h]; exact ⟨rfl, rfl⟩
theorem amt_in (V : Int) : I64 (amt V) := by unfold amt I64; split <;> omega
theorem zero_wide : hiW 0 = 0 ∧ loW 0 = 0 := by decide

theorem run_add64c (l c : Int) (h0 : 0 ≤ l) (h1 : 0 ≤ c) (W : World) : (callFunc 85 #[.int .u64 l, .int .u64 c, .int .u64 0]).run Try.prog W = .ok (.value (.tuple #[.int .u64 (loA l c), .int .u64 (hiA l c)])) W := by
  rw [run_callFunc_extern Try.func85 (by kernel_rfl) (by kernel_rfl) (by kernel_rfl) (e := add64Entry) (by kernel_rfl), run_add64 l c 0 h0 h1 (by omega) (by omega)]
  simp [Result.andThen, loA, hiA]

set_option maxRecDepth 100000 in
set_option maxHeartbeats 1000000 in
theorem add_raw (h l c : Int) (w : World) (hl0 : 0 ≤ l) (hl : l ≤ 18446744073709551615) :
    Calls Try.prog 70 #[.agg #[.int .i64 h, .int .u64 l], .int .i64 c] w fun e w' =>
      e = .returned (.agg #[.int .i64 (wrap64 (wrap64 (h + c / 9223372036854775808) + hiA l (IntKind.u64.wrap c))), .int .u64 (loA l (IntKind.u64.wrap c))]) ∧ Below w.heap.size w w' := by
  have hw0 := wrap_0 c
  have hr := fun W => run_add64c l (IntKind.u64.wrap c) hl0 hw0 W
  have hc0 := hiA_0 l c hl0
  have hc1 := hiA_1 l c hl
  clear hl
  go_enter Try.func70, Try.ntmps70
  go_wp2_with fail
  refine bodyPost_ret (Tr.results_run [.cell 4 147] [_] rfl ⟨_, _, rfl, ⟨_, rfl, Tr.load_blk (Tr.blk_at (by simp)) Try.underlying147 rfl (by kernel_rfl)⟩, rfl⟩ _ rfl) rfl ⟨rfl, ?_⟩
  (repeat (first | with_reducible assumption | (with_reducible exact Below.refl _ _) | ((with_reducible refine Tr.below_alloc ?_ ?_); rotate_left; focus (first | omega | exact Nat.le_refl _)) | (with_reducible refine Tr.below_drew ?_) | (with_reducible refine Tr.below_drewN ?_) | ((with_reducible refine Tr.below_set ?_ ?_); rotate_left; focus (first | omega | (simp; done) | (simp; omega))) | ((with_reducible refine Tr.below_trans ?_ (by assumption) ?_); rotate_left; focus (first | exact Nat.le_refl _ | omega))))

theorem C_add (V c : Int) (hV : Mid V) (hc : I64 c) (w : World) :
    Calls Try.prog 70 #[.agg #[.int .i64 (hiW V), .int .u64 (loW V)], .int .i64 c] w fun e w' =>
      e = .returned (.agg #[.int .i64 (hiW (V + c)), .int .u64 (loW (V + c))]) ∧ Below w.heap.size w w' := by
  have := add_raw (hiW V) (loW V) c w (loW_0 V) (loW_1 V)
  rwa [add_hi V c hV hc, add_lo V c] at this

set_option maxRecDepth 100000 in
set_option maxHeartbeats 1000000 in
theorem cents_eq (h l : Int) (w : World) (hl0 : 0 ≤ l) (he : (h == wrap64 l / 9223372036854775808) = true) :
    Calls Try.prog 71 #[.agg #[.int .i64 h, .int .u64 l]] w fun e w' => e = .returned (.tuple #[.int .i64 (wrap64 l), .int .i64 0]) ∧ Below w.heap.size w w' := by
  have he2 : (h != wrap64 l / 9223372036854775808) = false := by simp [bne, he]
  go_enter Try.func71, Try.ntmps71
  go_wp2_with fail
  go_ret2
  refine ⟨rfl, ?_⟩
  (repeat (first | with_reducible assumption | (with_reducible exact Below.refl _ _) | ((with_reducible refine Tr.below_alloc ?_ ?_); rotate_left; focus (first | omega | exact Nat.le_refl _)) | (with_reducible refine Tr.below_drew ?_) | (with_reducible refine Tr.below_drewN ?_) | ((with_reducible refine Tr.below_set ?_ ?_); rotate_left; focus (first | omega | (simp; done) | (simp; omega))) | ((with_reducible refine Tr.below_trans ?_ (by assumption) ?_); rotate_left; focus (first | exact Nat.le_refl _ | omega))))
set_option maxRecDepth 100000 in
set_option maxHeartbeats 1000000 in
theorem cents_ne (h l : Int) (w : World) (hl0 : 0 ≤ l) (he : (h == wrap64 l / 9223372036854775808) = false) :
    Calls Try.prog 71 #[.agg #[.int .i64 h, .int .u64 l]] w fun e w' => e = .returned (.tuple #[.int .i64 0, .int .i64 6]) ∧ Below w.heap.size w w' := by
  have he2 : (h != wrap64 l / 9223372036854775808) = true := by simp [bne, he]
  go_enter Try.func71, Try.ntmps71
  go_wp2_with fail
  go_ret2
  refine ⟨rfl, ?_⟩
  (repeat (first | with_reducible assumption | (with_reducible exact Below.refl _ _) | ((with_reducible refine Tr.below_alloc ?_ ?_); rotate_left; focus (first | omega | exact Nat.le_refl _)) | (with_reducible refine Tr.below_drew ?_) | (with_reducible refine Tr.below_drewN ?_) | ((with_reducible refine Tr.below_set ?_ ?_); rotate_left; focus (first | omega | (simp; done) | (simp; omega))) | ((with_reducible refine Tr.below_trans ?_ (by assumption) ?_); rotate_left; focus (first | exact Nat.le_refl _ | omega))))
theorem C_cents (V : Int) (hV : Mid V) (w : World) :
    Calls Try.prog 71 #[.agg #[.int .i64 (hiW V), .int .u64 (loW V)]] w fun e w' => e = .returned (.tuple #[.int .i64 (amt V), .int .i64 (amtE V)]) ∧ Below w.heap.size w w' := by
  by_cases h : I64 V
  · obtain ⟨h1, h2⟩ := fits_yes V h
    have := cents_eq (hiW V) (loW V) w (loW_0 V) (by rw [h1, h2]; simp)
    rw [(amt_yes h).1, (amt_yes h).2]
    rwa [h1] at this
  · have := cents_ne (hiW V) (loW V) w (loW_0 V) (by simpa using fits_no V hV h)
    rw [(amt_no h).1, (amt_no h).2]
    exact this

/-- Add: the sum of two. -/
theorem Mid_of {V : Int} (h : I64 V) : Mid V := by unfold Mid; unfold I64 at h; omega
theorem Mid_of2 {V c : Int} (h : I64 V) (g : I64 c) : Mid (V + c) := by unfold Mid; unfold I64 at h g; omega
theorem C_add0 (a : Int) (ha : I64 a) (w : World) : Calls Try.prog 70 #[.agg #[.int .i64 0, .int .u64 0], .int .i64 a] w fun e w' =>
    e = .returned (.agg #[.int .i64 (hiW a), .int .u64 (loW a)]) ∧ Below w.heap.size w w' := by
  have := C_add 0 a (by unfold Mid; omega) ha w
  rwa [zero_wide.1, zero_wide.2, Int.zero_add] at this
/-- A slice of numbers. -/
def Ints (k : IntKind) (w : World) (v : Value) (xs : List Int) : Prop :=
  ∃ a cap, v = .slice a xs.length cap ∧ (0 < xs.length → ∃ b off, a = some ⟨b, off, none⟩ ∧ b < w.heap.size ∧ ∀ j, j < xs.length → w.cell? ⟨b, off + j, none⟩ = some (.int k (xs.getD j 0)))
theorem Ints.keep {k : IntKind} {w w' : World} {v : Value} {xs : List Int} (hb : Below w.heap.size w w') (h : Ints k w v xs) : Ints k w' v xs := by
  obtain ⟨a, cap, hv, h⟩ := h
  refine ⟨a, cap, hv, fun h0 => ?_⟩
  obtain ⟨b, off, ha, hlt, hc⟩ := h h0
  exact ⟨b, off, ha, Nat.lt_of_lt_of_le hlt hb.size, fun j hj => by rw [hb.cell (p := ⟨b, off + j, none⟩) hlt]; exact hc j hj⟩

theorem sum_take_bd (xs : List Int) (hx : ∀ x ∈ xs, I64 x) (i : Nat) : -(9223372036854775808 * (i : Int)) ≤ (xs.take i).sum ∧ (xs.take i).sum ≤ 9223372036854775808 * (i : Int) := by
  induction i with
  | zero => simp
  | succ i ih =>
    by_cases h : i < xs.length
    · rw [List.take_succ_eq_append_getElem h, List.sum_append, List.sum_singleton]
      have := hx _ (List.getElem_mem h)
      unfold I64 at this
      omega
    · have e : xs.take (i + 1) = xs.take i := by rw [List.take_of_length_le (by omega), List.take_of_length_le (by omega)]
      rw [e]; omega
theorem sum_take_mid (xs : List Int) (hx : ∀ x ∈ xs, I64 x) (i : Nat) (hi : i ≤ 9223372036854775807) : Mid (xs.take i).sum := by
  have := sum_take_bd xs hx i
  unfold Mid; omega
theorem sum_take_succ (xs : List Int) (i : Nat) (h : i < xs.length) : (xs.take (i + 1)).sum = (xs.take i).sum + xs.getD i 0 := by
  rw [List.take_succ_eq_append_getElem h, List.sum_append, List.sum_singleton]; simp [List.getD, h]

def TotInv (xs : List Int) (g : Nat) (B : World) (s9 : Value) (wr : World) : Prop :=
  ∃ i : Nat, i ≤ xs.length ∧ s9 = .int .i64 i ∧ wr.heap[g]? = some (.cells #[.int .i64 (hiW (xs.take i).sum), .int .u64 (loW (xs.take i).sum)] 147 (0, 0)) ∧ Below B.heap.size B wr

set_option maxRecDepth 100000 in
set_option maxHeartbeats 2000000 in
/-- Total: the sum of all. -/
theorem C_Total (v : Value) (xs : List Int) (w : World) (hv : Ints .i64 w v xs) (hx : ∀ x ∈ xs, I64 x) (hn : xs.length ≤ 9223372036854775807) :
    Calls Try.prog 49 #[v] w fun e w' => e = .returned (.tuple #[.int .i64 (amt xs.sum), .int .i64 (amtE xs.sum)]) ∧ Below w.heap.size w w' := by
  obtain ⟨a, cap, rfl, hc⟩ := hv
  have HC := Lib.hid hc; have HX := Lib.hid hx
  clear hc hx
  go_enter Try.func49, Try.ntmps49
  go_wp2_with fail
  go_loopw [9] (fun s9 wr => TotInv xs w.heap.size w s9 wr) (fun s9 _ => xs.length - (intOf s9).toNat)
  case atStart =>
    exact ⟨0, Nat.zero_le _, rfl, by rw [List.take_zero, List.sum_nil, zero_wide.1, zero_wide.2]; (repeat (first | with_reducible assumption | with_reducible refine Tr.blk_drew ?_ | with_reducible refine Tr.blk_drewN ?_ | (refine Tr.blk_at ?_; focus (first | (simp; done) | (simp; omega))) | with_reducible refine Tr.blk_old ?_ | ((with_reducible refine Tr.blk_set_ne ?_ _ ?_); rotate_left; focus (first | (simp; done) | (simp; omega) | (simp; assumption))))), by (repeat (first | with_reducible assumption | (with_reducible exact Below.refl _ _) | ((with_reducible refine Tr.below_alloc ?_ ?_); rotate_left; focus (first | omega | exact Nat.le_refl _)) | (with_reducible refine Tr.below_drew ?_) | (with_reducible refine Tr.below_drewN ?_) | ((with_reducible refine Tr.below_set ?_ ?_); rotate_left; focus (first | omega | (simp; done) | (simp; omega))) | ((with_reducible refine Tr.below_trans ?_ (by assumption) ?_); rotate_left; focus (first | exact Nat.le_refl _ | omega))))⟩
  case round =>
    obtain ⟨i, hi, rfl, hg, hB⟩ := hrel
    have BG := Lib.hid hg
    have cg := fun o => Tr.cell_blk (o := o) hg
    have fg := fun o => Tr.frozen_blk (o := o) hg
    clear hg
    by_cases hlt : i < xs.length
    · obtain ⟨b, off, rfl, hbl, hcell⟩ := HC.out (by omega)
      obtain ⟨x, hxe⟩ : ∃ x, x = xs.getD i 0 := ⟨_, rfl⟩
      have hci : wr.cell? ⟨b, off + i, none⟩ = some (.int .i64 x) := by rw [hB.cell (p := ⟨b, off + i, none⟩) hbl, hcell i hlt, hxe]
      have hxI : I64 x := by rw [hxe]; simp only [List.getD, List.getElem?_eq_getElem hlt, Option.getD_some]; exact HX.out _ (List.getElem_mem _)
      have hs := sum_take_succ xs i hlt
      rw [← hxe] at hs
      have HS := Lib.hid hs; have HXI := Lib.hid hxI
      clear hcell hxe hxI hs
      have hgB : w.heap.size < wr.heap.size := Tr.blk_lt BG.out
      go_wp2_with fail
      refine (C_add _ x (sum_take_mid xs HX.out i (by omega)) HXI.out _).mono ?_
      rintro e w2 ⟨rfl, hb2⟩
      have b2 := Tr.blk_keep hb2 BG.out
      have c2 := fun o => Tr.cell_blk (o := o) b2
      have f2 := fun o => Tr.frozen_blk (o := o) b2
      have B2 := Lib.hid b2
      have hB2 := Tr.below_trans hB hb2
      clear b2 cg fg hci
      go_wp2
      go_roundw
      case rel =>
        refine ⟨i + 1, by omega, by go_num, ?_, ?_⟩
        · rw [HS.out]
          exact Tr.blk_set (o := 1) (Tr.blk_set (o := 0) B2.out _) _
        · exact Tr.below_set (Tr.below_set hB2 (Nat.le_refl _)) (Nat.le_refl _)
      case measure => simp [intOf]; omega
    · have hie : i = xs.length := by omega
      subst hie
      rw [List.take_length] at cg BG
      have hm : Mid xs.sum := by have := sum_take_mid xs HX.out xs.length hn; rwa [List.take_length] at this
      have HM := Lib.hid hm; clear hm
      go_wp2_with (go_at_call 71; refine (C_cents _ HM.out _).mono ?_; rintro e w3 ⟨rfl, hb3⟩)
      go_ret2
      exact ⟨rfl, Tr.below_trans hB hb3⟩
end Go.Proofs.Yteakfibolfapiaa
end
section
namespace Go.Proofs.Yteakfibolfapiaa.Ab
open Go Go.RowKit Go.Sort
set_option linter.unusedVariables false
set_option linter.unusedSimpArgs false
set_option maxRecDepth 100000
set_option maxHeartbeats 4000000
theorem iR_len (xs : List Int) : (iR xs).length = xs.length := by simp [iR]
theorem rows_cells {w : World} {M : Nat → Prop} : ∀ (xs : List Int) (vs : List Value), RelRows w M (iR xs) vs → ∀ j, j < xs.length → vs[j]? = some (.int .i64 (xs.getD j 0))
  | [], vs, _, j, hj => by simp at hj
  | x :: xs, vs, h, j, hj => by
    obtain ⟨⟨v, r, hv, hd, -⟩, h2⟩ := h
    obtain hd : v = .int .i64 x := hd
    obtain ⟨a, rest, rfl⟩ : ∃ a rest, vs = a :: rest := by
      cases vs with
      | nil => simp at hv
      | cons a rest => exact ⟨a, rest, rfl⟩
    simp only [List.length_singleton, List.take_succ_cons, List.take_zero, List.cons.injEq] at hv
    obtain ⟨rfl, rfl⟩ := hv
    cases j with
    | zero => simp [hd]
    | succ j =>
      have := rows_cells xs rest h2 j (by simpa using hj)
      simpa using this
theorem ints_of {w : World} {M : Nat → Prop} {xs : List Int} {v : Value} (h : RelD w M (.imm (iR xs)) v) : Ints .i64 w v xs := by
  obtain ⟨a, cap, rfl, hc, h1⟩ := h
  refine ⟨a, cap, by rw [iR_len], fun h0 => ?_⟩
  rcases h1 with h1 | ⟨b, off, cs, e, fz, c, rfl, hb, hm, hl, hr⟩
  · have := iR_len xs
    rw [h1] at this
    simp at this
    omega
  · refine ⟨b, off, rfl, lt_of_get hb, fun j hj => ?_⟩
    have h2 := rows_cells xs _ hr j hj
    rw [List.getElem?_drop] at h2
    simp only [World.cell?, hb]
    simpa using h2
theorem ints_own {w : World} {M : Nat → Prop} {xs : List Int} {v : Value} {cs : List Value} {ty : TypeId} (h : w.ownsRow 0 ty 1 v (iR xs).length cs) (hr : RelRows w M (iR xs) cs) : Ints .i64 w v xs := by
  obtain ⟨hl, h⟩ := h
  rw [iR_len] at h hl
  rcases h with ⟨rfl, h0⟩ | ⟨g, cap, cur, rfl, -, hb, h1, h2, h3, h4⟩
  · refine ⟨none, 0, by rw [h0], fun h => by omega⟩
  · refine ⟨_, cap, rfl, fun h0 => ⟨g, 0, rfl, lt_of_get hb, fun j hj => ?_⟩⟩
    have h5 := rows_cells xs _ hr j hj
    rw [← h4, List.getElem?_take_of_lt (by omega), Array.getElem?_toList] at h5
    simp only [World.cell?, hb]
    simpa using h5
/-- Total of one of the bag's slices, its newest. -/
def S_TotalR (v : Value) (K : CallK) (n : Nat) (h : Hp) : Prop := match bagOf h with
  | some (id, c, p :: L) => Nd (fun _ => c = 1 ∧ p.1 = v ∧ ∃ xs, p.2 = iR xs ∧ xs.length ≤ 100000 ∧ ∀ x ∈ xs, I64 x) ∧ Al (fun q : Int × Int => ∃ xs, p.2 = iR xs ∧ q = (amt xs.sum, amtE xs.sum)) fun q => K (.tup [.d (.int .i64 q.1), .d (.int .i64 q.2)]) n h
  | _ => False
theorem L_TotalR {v : Value} {n : Nat} {h : Hp} {K : CallK} (hK : S_TotalR v K n h) : CallE Try.prog 49 [.raw v] n h K := by
  unfold S_TotalR at hK
  split at hK
  · rename_i id c p L hbg
    obtain ⟨⟨rfl, rfl, xs, hp, hl, hx⟩, hk⟩ := hK
    refine .enter _ Try.func49 (by kernel_rfl) (by kernel_rfl) (fun ρ w vs r a => ?_)
    obtain ⟨v0, rest, rfl, ⟨rfl, -⟩, hrest⟩ := a
    obtain rfl : rest = [] := hrest
    obtain ⟨vs, h1, h2, h3, h4, h5⟩ := r.objs _ _ (bagOf_mem hbg)
    obtain ⟨cs, ty, g1, g2, g3⟩ := h4 p (by simp)
    rw [hp] at g1 g3
    refine (C_Total _ xs w (ints_own g1 g3) hx (by omega)).mono ?_
    rintro e w' ⟨rfl, hb⟩
    have hg : Grows w w' := fun b o hbo => by rw [hb.block b (lt_of_get hbo)]; exact hbo
    exact ⟨_, rfl, _, ρ, n, h, hk.h _ ⟨xs, hp, rfl⟩, r.grow hg, Nat.le_refl _, by simp [RelVs, RelV, RelD], goes_grow hg hb.os hb.tape hb.output hb.size⟩
  · exact hK.elim
theorem call_old3 {P : Program} {n : Nat} {h : Hp} {f : Nat} {fn : Func} {args : List AV} {Q : World → List Value → Prop} {av : AV} {v : Value} {K : CallK} (hf : P.funcs[f]? = some fn) (hn : (fn.name == "runtime.NumGoroutine") = false) (hb : fn.body.isNone = false)
    (ha : ∀ ρ w M vs, RelVs ρ w M args vs → Q w vs) (hv : ∀ ρ w M, RelV ρ w M av v) (hc : ∀ w vs, J w → Q w vs → Calls P f vs.toArray w fun e w' => e = .returned v ∧ Below w.heap.size w w') (hK : K av n h) : CallE P f args n h K := by
  refine .enter fn hf hn hb (fun ρ w vs hr hvs => ?_)
  refine Calls.mono (hc w vs hr.old.inv (ha _ _ _ _ hvs)) ?_
  rintro e w' ⟨rfl, hb⟩
  have hg : Grows w w' := fun b o hbo => by rw [hb.block b (lt_of_get hbo)]; exact hbo
  exact ⟨_, rfl, av, ρ, n, h, hK, hr.grow hg, Nat.le_refl _, hv _ _ _, goes_grow hg hb.os hb.tape hb.output hb.size⟩
/-- Total of a list that stays. -/
def S_Total (l : List (List D)) (K : CallK) (n : Nat) (h : Hp) : Prop := Nd (fun _ => ∃ xs, l = iR xs ∧ xs.length ≤ 100000 ∧ ∀ x ∈ xs, I64 x) ∧ Al (fun q : Int × Int => ∃ xs, l = iR xs ∧ q = (amt xs.sum, amtE xs.sum)) fun q => K (.tup [.d (.int .i64 q.1), .d (.int .i64 q.2)]) n h
theorem L_Total {l : List (List D)} {n : Nat} {h : Hp} {K : CallK} (hK : S_Total l K n h) : CallE Try.prog 49 [.d (.imm l)] n h K := by
  obtain ⟨⟨xs, rfl, hl, hx⟩, hk⟩ := hK
  exact call_old3 (Q := fun w vs => ∃ v, vs = [v] ∧ Ints .i64 w v xs) (v := .tuple #[.int .i64 (amt xs.sum), .int .i64 (amtE xs.sum)]) Try.func49 (by kernel_rfl) (by kernel_rfl)
    (by rintro ρ w M vs ⟨v, r, rfl, h1, rfl⟩; exact ⟨v, rfl, ints_of h1⟩) (by intro ρ w M; simp [RelVs, RelV, RelD]) (by rintro w vs hJ ⟨v, rfl, hi⟩; exact C_Total v xs w hi hx (by omega)) (hk.h _ ⟨xs, rfl, rfl⟩)
/-! the contracts -/
def S_amounts (r : List (List D)) (K : CallK) (n : Nat) (h : Hp) : Prop := Nd (fun _ => ∃ qs, r = lnR qs ∧ qs.length ≤ 1000) ∧
  Al (fun p : ML × Bag => ∃ qs, r = lnR qs ∧ AMP p.1 p.2 qs) fun p => K (.map n) (n + 2) (h ++ [(n + 1, .bag 1 p.2), (n, .mp .i64 p.1)])
theorem L_amounts {r : List (List D)} {n : Nat} {h : Hp} {K : CallK} (hK : S_amounts r K n h) : CallE Try.prog 48 [.d (.imm r)] n h K := by
  obtain ⟨⟨qs, hr, hl⟩, hk⟩ := hK
  refine call_frame (g := fun i => i) (CallE.fin (K_amounts0 r qs hr hl)) rfl rfl (fun i j hi => absurd hi (Nat.not_lt_zero _)) (fun i hi => absurd hi (Nat.not_lt_zero _)) (fun i o hm => by cases hm) (by intro j hj; cases hj) ?_
  rintro v n1 h1 - ⟨m, L, hA, rfl, rfl, rfl⟩
  rw [outs_zero]
  have e : n + (2 - 0) = n + 2 := rfl
  have e0 : lift (fun i => i) 0 n 0 = n := by simp [lift]; rfl
  have e1 : lift (fun i => i) 0 n 1 = n + 1 := by simp [lift]; rfl
  simp only [renH, renV, renO, renVs, e0, e1, e]
  exact hk.h (m, L) ⟨qs, hr, hA⟩
def S_Bal (i : Nat) (k : Int) (K : CallK) (n : Nat) (h : Hp) : Prop := pat2 h i fun j m => Nd (fun _ => i < n ∧ j < n ∧ i ≠ j ∧ gB m) ∧ Al (fun z : Int => z = bal m k) fun z => K (.d (.int .i64 z)) n (out2 i j h m)
theorem L_Bal {i n : Nat} {k : Int} {h : Hp} {K : CallK} (hK : S_Bal i k K n h) : CallE Try.prog 17 [.ptr i 0, .d (.int .i64 k)] n h K := by
  obtain ⟨j, m, hg, hg2, ⟨⟨hi, hj, hij, hm⟩⟩, hk⟩ := pat2_elim hK
  refine call_recv2 (CallE.fin (K_Balance0 m hm k)) rfl hi hj hij hg hg2 ?_
  rintro v n1 h1 ⟨rfl, rfl, rfl⟩ -
  exact hk.h _ rfl
def S_set (i : Nat) (k z : Int) (K : CallK) (n : Nat) (h : Hp) : Prop := pat2 h i fun j m => Nd (fun _ => i < n ∧ j < n ∧ i ≠ j ∧ gB m) ∧ Al (fun m' : ML => m' = setM m k z) fun m' => K (.tup []) n (out2 i j h m')
theorem L_set {i n : Nat} {k z : Int} {h : Hp} {K : CallK} (hK : S_set i k z K n h) : CallE Try.prog 50 [.ptr i 0, .d (.int .i64 k), .d (.int .i64 z)] n h K := by
  obtain ⟨j, m, hg, hg2, ⟨⟨hi, hj, hij, hm⟩⟩, hk⟩ := pat2_elim hK
  refine call_recv2 (CallE.fin (K_set0 m hm k z)) rfl hi hj hij hg hg2 ?_
  rintro v n1 h1 ⟨rfl, rfl, rfl⟩ -
  exact hk.h _ rfl
end Go.Proofs.Yteakfibolfapiaa.Ab
end
section
namespace Go.Proofs.Yteakfibolfapiaa.Ab
open Go Go.RowKit Go.Sort
set_option linter.unusedVariables false
set_option linter.unusedSimpArgs false
def valI : Option Value → Int
  | some (.int _ z) => z
  | _ => 0
theorem look_in {m : ML} {k : Int} {v : Value} (h : Mk.look m k = some v) : (k, v) ∈ m := by
  unfold Mk.look at h
  simp only [Option.map_eq_some_iff] at h
  obtain ⟨p, hp, rfl⟩ := h
  have h1 := List.mem_of_find?_eq_some hp
  have h2 := List.find?_some hp
  simp only [beq_iff_eq] at h2
  rw [← h2]; exact h1
theorem bal_look {m : ML} (h : gB m) (k : Int) : bal m k = valI (Mk.look m k) := by
  simp only [bal, real, mcell]
  cases hl : Mk.look m k with
  | none => rfl
  | some v =>
    obtain ⟨z, hz, -⟩ := h.h _ (look_in hl)
    have hz : v = .int .i64 z := hz
    subst hz
    rfl
theorem bal_in {m : ML} (h : gB m) {k z : Int} (hm : (k, .int .i64 z) ∈ m) : bal m k = z := by
  rw [bal_look h, (Mk.look_mem h.nd).2 hm]; rfl
theorem bal_no {m : ML} (h : gB m) {k : Int} (hk : ∀ p ∈ m, p.1 ≠ k) : bal m k = 0 := by
  rw [bal_look h]
  cases hl : Mk.look m k with
  | none => rfl
  | some v => exact absurd rfl (hk _ (look_in hl))
theorem bal_I {m : ML} (h : gB m) (k : Int) : I64 (bal m k) := by
  rw [bal_look h]
  cases hl : Mk.look m k with
  | none => exact ⟨by decide, by decide⟩
  | some v =>
    obtain ⟨z, hz, -, hi⟩ := h.h _ (look_in hl)
    have hz : v = .int .i64 z := hz
    subst hz
    exact hi
theorem del_eq {k : Int} : ∀ (l : ML), (l.map (·.1)).Nodup → Mk.del l k = l.filter (fun p => !(p.1 == k))
  | [], _ => rfl
  | a :: l, hn => by
    rw [List.map_cons, List.nodup_cons] at hn
    have ih := del_eq (k := k) l hn.2
    unfold Mk.del at ih ⊢
    rw [List.findIdx?_cons]
    by_cases e : a.1 = k
    · have e' : (a.1 == k) = true := by simpa using e
      simp only [e', if_true, List.eraseIdx_cons_zero]
      rw [List.filter_cons, e']
      simp only [Bool.not_true, Bool.false_eq_true, if_false]
      rw [List.filter_eq_self.2]
      intro p hp
      have : p.1 ≠ k := fun e2 => hn.1 (List.mem_map.2 ⟨p, hp, e2.trans e.symm⟩)
      simpa using this
    · have e' : (a.1 == k) = false := by simpa using e
      rw [List.filter_cons, e']
      simp only [Bool.not_false, if_true, Bool.false_eq_true, if_false]
      rw [← ih]
      cases l.findIdx? (fun x => x.1 == k) <;> simp
theorem find_filter {k j : Int} (h : j ≠ k) : ∀ l : ML, (l.filter (fun p => !(p.1 == k))).find? (fun p => p.1 == j) = l.find? (fun p => p.1 == j)
  | [] => rfl
  | a :: l => by
    have ih := find_filter h l
    rw [List.filter_cons]
    by_cases e : a.1 = k
    · have e1 : (a.1 == k) = true := by simpa using e
      have e2 : (a.1 == j) = false := by
        have : a.1 ≠ j := fun e3 => h (e3.symm.trans e)
        simpa using this
      simp only [e1, Bool.not_true, Bool.false_eq_true, if_false]
      rw [ih, List.find?_cons, e2]
    · have e1 : (a.1 == k) = false := by simpa using e
      simp only [e1, Bool.not_false, if_true]
      rw [List.find?_cons, List.find?_cons, ih]
theorem look_del {m : ML} (hn : (m.map (·.1)).Nodup) (k j : Int) : Mk.look (Mk.del m k) j = if j = k then none else Mk.look m j := by
  rw [del_eq m hn]
  unfold Mk.look
  by_cases e : j = k
  · subst e
    rw [if_pos rfl, Option.map_eq_none_iff, List.find?_eq_none]
    intro p hp
    have := (List.mem_filter.1 hp).2
    simpa using this
  · rw [if_neg e, find_filter e]
theorem gB_nil : gB [] := ⟨(fun p hp => by cases hp), List.nodup_nil, (fun p hp => by cases hp)⟩
theorem gB.set {m : ML} (h : gB m) {k z : Int} (hk : 0 ≤ k ∧ k ≤ 65535) (hz : I64 z) : gB (setM m k z) := by
  unfold setM
  split
  · rw [del_eq m h.nd]
    refine ⟨fun p hp => h.h p (List.mem_filter.1 hp).1, ?_, fun p hp => h.rg p (List.mem_filter.1 hp).1⟩
    exact List.Nodup.sublist (List.Sublist.map _ List.filter_sublist) h.nd
  · rename_i hz0
    have hn := Mk.put_nodup m k (.int .i64 z) h.nd
    have key : ∀ p ∈ Mk.put m k (.int .i64 z), p = (k, .int .i64 z) ∨ p ∈ m := by
      intro p hp
      have h1 := (Mk.look_mem hn (k := p.1) (v := p.2)).2 hp
      rw [Mk.look_put] at h1
      split at h1
      · rename_i e
        left
        have := Option.some.inj h1
        exact Prod.ext e this.symm
      · right
        exact (Mk.look_mem h.nd).1 h1
    refine ⟨fun p hp => ?_, hn, fun p hp => ?_⟩
    · rcases key p hp with rfl | h1
      · exact ⟨z, rfl, hz0, hz⟩
      · exact h.h p h1
    · rcases key p hp with rfl | h1
      · exact hk
      · exact h.rg p h1
theorem bal_set {m : ML} (h : gB m) {k z : Int} (hk : 0 ≤ k ∧ k ≤ 65535) (hz : I64 z) (j : Int) : bal (setM m k z) j = if j = k then z else bal m j := by
  rw [bal_look (h.set hk hz), bal_look h]
  unfold setM
  split
  · rename_i e
    subst e
    rw [look_del h.nd]
    split <;> rfl
  · rw [Mk.look_put]
    split <;> rfl
/-- Numbers without doubles below a bound are no more. -/
theorem nodup_le : ∀ (N : Nat) (l : List Int), l.Nodup → (∀ x ∈ l, 0 ≤ x ∧ x < N) → l.length ≤ N
  | 0, [], _, _ => Nat.le_refl _
  | 0, x :: l, _, h => by have := h x (by simp); omega
  | N + 1, l, hn, h => by
    have h1 := nodup_le N (l.erase N) (hn.erase _) (fun x hx => by
      have h2 := h x (List.mem_of_mem_erase hx)
      have h3 : x ≠ N := fun e => by
        subst e
        exact (List.Nodup.not_mem_erase hn) hx
      omega)
    have h4 := List.length_erase (a := (N : Int)) (l := l)
    split at h4 <;> omega
theorem gB.len {m : ML} (h : gB m) : m.length ≤ 65536 := by
  have := nodup_le 65536 (m.map (·.1)) h.nd (fun x hx => by
    obtain ⟨p, hp, rfl⟩ := List.mem_map.1 hx
    have := h.rg p hp
    omega)
  simpa using this
/-! what Apply does -/
def tot (m : ML) (qs : List (Int × Int)) (k : Int) : Int := (sel qs k).sum + bal m k
def inR (qs : List (Int × Int)) : Prop := ∀ q ∈ qs, 0 ≤ q.1 ∧ q.1 ≤ 65535
structure AppOk (m : ML) (qs : List (Int × Int)) (m' : ML) : Prop where
  g : gB m'
  b : ∀ k, bal m' k = tot m qs k
def AppR (m : ML) (qs : List (Int × Int)) (e : Int) (m' : ML) : Prop :=
  (e = 3 ∧ m' = m ∧ ¬ inR qs) ∨ (e = 6 ∧ m' = m ∧ inR qs ∧ ∃ q ∈ qs, ¬ I64 (tot m qs q.1)) ∨ (e = 0 ∧ inR qs ∧ (∀ q ∈ qs, I64 (tot m qs q.1)) ∧ AppOk m qs m')
def nF (m : ML) (qs : List (Int × Int)) (p : Int × Value) : Int × Value := (p.1, .int .i64 (tot m qs p.1))
/-- In the second loop. -/
structure LP2 (m am : ML) (qs : List (Int × Int)) (left : ML) (L : Bag) (nx : ML) : Prop where
  ex : ∃ done, am.Perm (done ++ left) ∧ (∃ R, L.Perm (left.map (aF qs) ++ R)) ∧ nx = done.map (nF m qs) ∧ ∀ p ∈ done, I64 (tot m qs p.1)
theorem LP2.start {m am : ML} {qs : List (Int × Int)} {L : Bag} (h : AMP am L qs) : LP2 m am qs am L [] :=
  ⟨[], List.Perm.refl _, ⟨[], by simpa using h.dat⟩, rfl, fun p hp => by cases hp⟩
theorem LP2.bag {m am nx : ML} {qs : List (Int × Int)} {left left' : ML} {L : Bag} {p : Int × Value} (h : LP2 m am qs left L nx) (hp : left.Perm (p :: left')) :
    ∃ A B, L = A ++ (p.2, iR (sel qs p.1)) :: B ∧ p ∈ am := by
  obtain ⟨done, h1, ⟨R, h2⟩, -, -⟩ := h
  have hin : (p.2, iR (sel qs p.1)) ∈ L := h2.mem_iff.2 (by
    refine List.mem_append_left _ (List.mem_map.2 ⟨p, hp.mem_iff.2 (by simp), rfl⟩))
  obtain ⟨A, B, e⟩ := List.append_of_mem hin
  exact ⟨A, B, e, h1.mem_iff.2 (by simp [hp.mem_iff])⟩
theorem LP2.go {m am nx : ML} {qs : List (Int × Int)} {left left' : ML} {A B : Bag} {p : Int × Value} (h : LP2 m am qs left (A ++ (p.2, iR (sel qs p.1)) :: B) nx) (hn : (am.map (·.1)).Nodup) (hp : left.Perm (p :: left')) (hi : I64 (tot m qs p.1)) (y : Value × List (List D)) :
    LP2 m am qs left' (y :: (A ++ B)) (Mk.put nx p.1 (.int .i64 (tot m qs p.1))) := by
  obtain ⟨done, h1, ⟨R, h2⟩, rfl, h3⟩ := h
  have h4 : am.Perm ((done ++ [p]) ++ left') := by
    rw [List.append_assoc]
    exact h1.trans (List.Perm.append_left _ hp)
  refine ⟨done ++ [p], h4, ⟨y :: R, ?_⟩, ?_, ?_⟩
  · have h5 : (A ++ (p.2, iR (sel qs p.1)) :: B).Perm ((p.2, iR (sel qs p.1)) :: (left'.map (aF qs) ++ R)) := h2.trans (List.Perm.append_right _ (hp.map (aF qs)))
    have h6 : (A ++ B).Perm (left'.map (aF qs) ++ R) := List.Perm.cons_inv (List.perm_middle.symm.trans h5)
    exact (List.Perm.cons _ h6).trans List.perm_middle.symm
  · have hno : Mk.look (done.map (nF m qs)) p.1 = none := by
      cases hl : Mk.look (done.map (nF m qs)) p.1 with
      | none => rfl
      | some v =>
        have h7 := look_in hl
        obtain ⟨q, hq, e⟩ := List.mem_map.1 h7
        have e0 : (nF m qs q).1 = p.1 := by rw [e]
        have e : q.1 = p.1 := e0
        have h8 := (h4.map (·.1)).nodup_iff.1 hn
        rw [List.map_append, List.map_append, List.nodup_append, List.nodup_append] at h8
        exact absurd e (h8.1.2.2 q.1 (List.mem_map.2 ⟨q, hq, rfl⟩) p.1 (by simp))
    rw [put_none hno, List.map_append]
    rfl
  · intro q hq
    rcases List.mem_append.1 hq with hq | hq
    · exact h3 q hq
    · simp only [List.mem_singleton] at hq
      subst hq
      exact hi
/-- In the third loop. -/
structure LP3 (m : ML) (qs : List (Int × Int)) (left m' : ML) : Prop where
  g : gB m'
  l : ∀ p ∈ left, p.2 = .int .i64 (tot m qs p.1) ∧ I64 (tot m qs p.1) ∧ 0 ≤ p.1 ∧ p.1 ≤ 65535
  n : (left.map (·.1)).Nodup
  b : ∀ k, bal m' k = if k ∈ left.map (·.1) then bal m k else tot m qs k
theorem LP3.start {m am nx : ML} {qs : List (Int × Int)} {L L' : Bag} (hm : gB m) (hA : AMP am L qs) (hr : inR qs) (h : LP2 m am qs [] L' nx) : LP3 m qs nx m := by
  obtain ⟨done, h1, -, rfl, h3⟩ := h
  rw [List.append_nil] at h1
  have hk : ∀ k, k ∈ done.map (·.1) ↔ ∃ q ∈ qs, q.1 = k := by
    intro k
    rw [← hA.key k, ← (h1.map (·.1)).mem_iff]
    constructor
    · intro hx
      obtain ⟨p, hp, rfl⟩ := List.mem_map.1 hx
      rw [(Mk.look_mem hA.nd (k := p.1) (v := p.2)).2 hp]
      rfl
    · intro hx
      obtain ⟨v, hv⟩ := Option.isSome_iff_exists.1 hx
      exact List.mem_map.2 ⟨_, look_in hv, rfl⟩
  have hmap : (done.map (nF m qs)).map (·.1) = done.map (·.1) := by rw [List.map_map]; rfl
  refine ⟨hm, fun p hp => ?_, ?_, fun k => ?_⟩
  · obtain ⟨q, hq, rfl⟩ := List.mem_map.1 hp
    obtain ⟨q2, hq2, e⟩ := (hk q.1).1 (List.mem_map.2 ⟨q, hq, rfl⟩)
    have := hr q2 hq2
    rw [e] at this
    exact ⟨rfl, h3 q hq, this⟩
  · rw [hmap]
    exact (h1.map (·.1)).nodup_iff.1 hA.nd
  · rw [hmap]
    split
    · rfl
    · rename_i hno
      have : sel qs k = [] := sel_none (fun q hq e => hno ((hk k).2 ⟨q, hq, e⟩))
      simp [tot, this]
theorem LP3.go {m m' : ML} {qs : List (Int × Int)} {left left' : ML} {p : Int × Value} {z : Int} (h : LP3 m qs left m') (hp : left.Perm (p :: left')) (hz : p.2 = .int .i64 z) : LP3 m qs left' (setM m' p.1 z) := by
  obtain ⟨e, hi, hr⟩ := h.l p (hp.mem_iff.2 (by simp))
  rw [hz] at e
  obtain rfl : z = tot m qs p.1 := by injection e
  have hn : ((p :: left').map (·.1)).Nodup := (hp.map (·.1)).nodup_iff.1 h.n
  rw [List.map_cons, List.nodup_cons] at hn
  refine ⟨h.g.set hr hi, fun q hq => h.l q (hp.mem_iff.2 (by simp [hq])), hn.2, fun k => ?_⟩
  rw [bal_set h.g hr hi, h.b k]
  have h1 : k ∈ left.map (·.1) ↔ k = p.1 ∨ k ∈ left'.map (·.1) := by
    rw [(hp.map (·.1)).mem_iff, List.map_cons, List.mem_cons]
  by_cases e1 : k = p.1
  · subst e1
    rw [if_pos rfl, if_neg hn.1]
  · rw [if_neg e1]
    by_cases e2 : k ∈ left'.map (·.1)
    · rw [if_pos (h1.2 (.inr e2)), if_pos e2]
    · rw [if_neg (fun h2 => (h1.1 h2).elim e1 e2), if_neg e2]
theorem LP3.fin {m m' : ML} {qs : List (Int × Int)} (h : LP3 m qs [] m') : AppOk m qs m' := ⟨h.g, fun k => by rw [h.b k]; simp⟩
end Go.Proofs.Yteakfibolfapiaa.Ab
end
section
namespace Go.Proofs.Yteakfibolfapiaa.Ab
open Go Go.RowKit Go.Sort
set_option linter.unusedVariables false
set_option linter.unusedSimpArgs false
set_option maxRecDepth 100000
set_option maxHeartbeats 8000000
def B1 : CallS := fun f args n h K => match f with
  | 48 => (match args with | [.d (.imm r)] => S_amounts r K n h | _ => False)
  | 49 => (match args with | [.raw v] => S_TotalR v K n h | _ => False)
  | 17 => (match args with | [.ptr i 0, .d (.int .i64 k)] => S_Bal i k K n h | _ => False)
  | 50 => (match args with | [.ptr i 0, .d (.int .i64 k), .d (.int .i64 z)] => S_set i k z K n h | _ => False)
  | _ => False
theorem B1_ok : ∀ f args n h K, B1 f args n h K → CallE Try.prog f args n h K := by
  intro f args n h K hc
  unfold B1 at hc
  split at hc
  · split at hc
    · exact L_amounts hc
    · exact hc.elim
  · split at hc
    · exact L_TotalR hc
    · exact hc.elim
  · split at hc
    · exact L_Bal hc
    · exact hc.elim
  · split at hc
    · exact L_set hc
    · exact hc.elim
  · exact hc.elim
theorem lnR_inj : ∀ {a b : List (Int × Int)}, lnR a = lnR b → a = b
  | [], [], _ => rfl
  | [], b :: bs, h => by simp [lnR] at h
  | a :: l, [], h => by simp [lnR] at h
  | a :: l, b :: bs, h => by
    simp only [lnR, List.map_cons, List.cons.injEq, D.int.injEq, and_true, true_and] at h
    rw [show a = b from Prod.ext h.1.1 h.1.2, lnR_inj (a := l) (b := bs) h.2]
def itl (i : Nat) (st : St) : Nat := match hget st.h i with | some (.it _ _ l _) => l.length | _ => 0
def KApp (m : ML) (qs : List (Int × Int)) : CallK := fun v n h => ∃ e m', v = .d (.int .i64 e) ∧ n = 2 ∧ h = [(0, .mp .i64 m'), (1, .cells [.map 0])] ∧ AppR m qs e m'
theorem fin_app {m m' : ML} {qs : List (Int × Int)} {e : Int} {n : Nat} {r : Hp} (h : AppR m qs e m') : Fin 2 (KApp m qs) (.d (.int .i64 e)) n ((0, .mp .i64 m') :: (1, .cells [.map 0]) :: r) :=
  ⟨⟨[], [], [0], [0, 1], 2⟩, _, 2, _, rfl, rfl, e, m', rfl, rfl, rfl, h⟩
theorem acc_lo {r : List (List D)} {qs : List (Int × Int)} {j : Int} {i : Nat} (hr : r = lnR qs) (hj : j = i) (hb : real.cmp .lss j (real.len r) = true) (h : real.cmp .lss (real.cI r j 0) 0 = true) : ¬ inR qs := by
  have hi := ln_lt hr hj hb
  subst hr
  rw [(ln_cI hj hi).1] at h
  simp only [real, rCmp, decide_eq_true_eq] at h
  intro hR
  have := hR _ (List.getElem_mem hi)
  omega
theorem acc_hi {r : List (List D)} {qs : List (Int × Int)} {j : Int} {i : Nat} (hr : r = lnR qs) (hj : j = i) (hb : real.cmp .lss j (real.len r) = true) (h : real.pickB false true (real.cmp .gtr (real.cI r j 0) 65535) = true) : ¬ inR qs := by
  have hi := ln_lt hr hj hb
  subst hr
  rw [(ln_cI hj hi).1] at h
  simp only [real, rCmp, decide_eq_true_eq, cond_false] at h
  intro hR
  have := hR _ (List.getElem_mem hi)
  omega
theorem acc_ok {r : List (List D)} {qs : List (Int × Int)} {j : Int} {i : Nat} (hr : r = lnR qs) (hj : j = i) (hb : real.cmp .lss j (real.len r) = true) (h : real.cmp .lss (real.cI r j 0) 0 = false) (h2 : real.pickB false true (real.cmp .gtr (real.cI r j 0) 65535) = false) (hA : inR (qs.take i)) : inR (qs.take (i + 1)) := by
  have hi := ln_lt hr hj hb
  subst hr
  rw [(ln_cI hj hi).1] at h h2
  simp only [real, rCmp, decide_eq_false_iff_not, cond_false] at h h2
  rw [take_snoc hi]
  intro q hq
  rcases List.mem_append.1 hq with hq | hq
  · exact hA q hq
  · simp only [List.mem_singleton] at hq
    subst hq
    omega
theorem in_end {A : Ar} (ho : A = real) {r : List (List D)} {qs : List (Int × Int)} (hr : r = lnR qs) {j : Int} {i : Nat} (hj : j = i) (hi : i ≤ qs.length) (hA : inR (qs.take i)) (hb : A.cmp .lss j (A.len r) = false) : inR qs := by
  subst ho
  have := ln_end hr hj hi hb
  rwa [this, List.take_length] at hA
theorem LP2.sub {m am nx : ML} {qs : List (Int × Int)} {left : ML} {L : Bag} (h : LP2 m am qs left L nx) {p : Int × Value} (hp : p ∈ left) : p ∈ am := by
  obtain ⟨done, h1, -⟩ := h
  exact h1.mem_iff.2 (by simp [hp])
theorem perm_one {left l : ML} {q p : Int × Value} (h : left.Perm (q :: l)) (hp : p ∈ [q]) : p ∈ left := by
  simp only [List.mem_singleton] at hp
  subst hp
  exact h.mem_iff.2 (by simp)
theorem bag_ok {A : Ar} (ho : A = real) {ys : List (List D)} {s : List Int} {z : Int} (hys : ys = iR s) (hl : s.length ≤ 1000) : A.apok ys [[.int .i64 z]] 1 8 = true := by
  subst ho hys
  simp [real, flatD, maxLen, iR_len]
  omega
theorem LP2.fit {m am nx : ML} {qs : List (Int × Int)} {L L' : Bag} (h : LP2 m am qs [] L' nx) (hA : AMP am L qs) : ∀ q ∈ qs, I64 (tot m qs q.1) := by
  obtain ⟨done, h1, -, -, h3⟩ := h
  intro q hq
  have h4 := (hA.key q.1).2 ⟨q, hq, rfl⟩
  obtain ⟨v, hv⟩ := Option.isSome_iff_exists.1 h4
  rw [List.append_nil] at h1
  exact h3 _ (h1.mem_iff.1 (look_in hv))
theorem mI_one {p : Int × Value} {z : Int} (h : p.2 = .int .i64 z) : real.mI [p] p.1 0 = z := by
  obtain ⟨k, v⟩ := p
  have h : v = .int .i64 z := h
  subst h
  simp [real, mcell, Mk.look, Value.cells]
theorem LP3.mok {m m' : ML} {qs : List (Int × Int)} {left : ML} (h : LP3 m qs left m') : real.mok left [.int .i64] false = true := by
  simp only [real, List.all_eq_true]
  intro p hp
  rw [(h.l p hp).1]
  rfl
theorem LP3.mok1 {m m' : ML} {qs : List (Int × Int)} {left l : ML} {p : Int × Value} (h : LP3 m qs left m') (hp : left.Perm (p :: l)) : real.mok [p] [.int .i64] false = true := by
  simp only [real, List.all_eq_true]
  intro q hq
  rw [(h.l q (perm_one hp hq)).1]
  rfl
theorem LP3.step {m m' m2 : ML} {qs : List (Int × Int)} {left l : ML} {p : Int × Value} (h : LP3 m qs left m') (hp : left.Perm (p :: l)) (hx : m2 = setM m' p.1 (real.mI [p] p.1 0)) : LP3 m qs l m2 := by
  obtain ⟨e, -⟩ := h.l p (hp.mem_iff.2 (by simp))
  rw [mI_one e] at hx
  subst hx
  exact h.go hp e
theorem iR_inj {a b : List Int} (h : iR a = iR b) : a = b := by
  have h1 := congrArg (fun l : List (List D) => l.map fun r => match r with | [.int _ z] => z | _ => 0) h
  have e : ∀ l : List Int, (iR l).map (fun r => match r with | [.int _ z] => z | _ => 0) = l := by
    intro l
    induction l with
    | nil => rfl
    | cons a l ih => simp only [iR, List.map_cons] at ih ⊢; rw [ih]
  simp only [e] at h1
  exact h1
theorem iR_snoc {ys : List (List D)} {s : List Int} {z : Int} (hys : ys = iR s) : ys ++ [[.int .i64 z]] = iR (s ++ [z]) := by
  subst hys; simp [iR]
theorem tot_of {ys : List (List D)} {m : ML} {qs : List (Int × Int)} {k z : Int} {q : Int × Int} (hys : ys = iR (sel qs k)) (hz : z = bal m k) (h : ∃ xs, ys ++ [[.int .i64 z]] = iR xs ∧ q = (amt xs.sum, amtE xs.sum)) : q = (amt (tot m qs k), amtE (tot m qs k)) := by
  obtain ⟨xs, h1, rfl⟩ := h
  rw [iR_snoc hys] at h1
  rw [← iR_inj h1]
  simp [tot, hz]
theorem sel_I {qs : List (Int × Int)} (hq : ∀ q ∈ qs, I64 q.2) (k : Int) : ∀ x ∈ sel qs k, I64 x := by
  intro x hx
  obtain ⟨q, hq1, rfl⟩ := List.mem_map.1 hx
  exact hq q (List.mem_filter.1 hq1).1
theorem rows_ok {ys : List (List D)} {m : ML} {qs : List (Int × Int)} {k z : Int} (hm : gB m) (hq : ∀ q ∈ qs, I64 q.2) (hl : qs.length ≤ 1000) (hys : ys = iR (sel qs k)) (hz : z = bal m k) : ∃ xs, ys ++ [[.int .i64 z]] = iR xs ∧ xs.length ≤ 100000 ∧ ∀ x ∈ xs, I64 x := by
  refine ⟨_, iR_snoc hys, ?_, fun x hx => ?_⟩
  · have := sel_len qs k
    simp
    omega
  · rcases List.mem_append.1 hx with hx | hx
    · exact sel_I hq k x hx
    · simp only [List.mem_singleton] at hx
      subst hx hz
      exact bal_I hm k
theorem LP2.bad {m am : ML} {qs : List (Int × Int)} {L0 : Bag} {p : Int × Value} {q : Int × Int} (hA : AMP am L0 qs) (hin : inR qs) (hk : p ∈ am) (hq : q = (amt (tot m qs p.1), amtE (tot m qs p.1))) (hb : real.cmp .neq q.2 0 = true) : AppR m qs q.2 m := by
  subst hq
  obtain ⟨k, v⟩ := p
  obtain ⟨q2, hq2, rfl⟩ := (hA.key k).1 (by rw [(Mk.look_mem hA.nd).2 hk]; rfl)
  have hno : ¬ I64 (tot m qs q2.1) := fun h => by
    rw [(amt_yes h).2] at hb
    cases hb
  exact .inr (.inl ⟨(amt_no hno).2, rfl, hin, q2, hq2, hno⟩)
theorem LP2.next {m am nx : ML} {qs : List (Int × Int)} {left : ML} {A B : Bag} {q : (Int × Value) × ML} {x : Int × Int} (h : LP2 m am qs left (A ++ (q.1.2, iR (sel qs q.1.1)) :: B) nx) (hn : (am.map (·.1)).Nodup) (hp : left.Perm (q.1 :: q.2))
    (hx : x = (amt (tot m qs q.1.1), amtE (tot m qs q.1.1))) (hb : real.cmp .neq x.2 0 = false) (y : Value × List (List D)) : LP2 m am qs q.2 (y :: (A ++ B)) (real.mput nx q.1.1 (.int .i64 x.1)) := by
  subst hx
  have hi : I64 (tot m qs q.1.1) := Classical.byContradiction (fun h => by
    rw [(amt_no h).2] at hb
    cases hb)
  have := h.go hn hp hi y
  rw [(amt_yes hi).1]
  exact this
theorem K_Apply0 (m : ML) (hm : gB m) (r : List (List D)) (qs : List (Int × Int)) (hr : r = lnR qs) (hl : qs.length ≤ 1000) (hq : ∀ q ∈ qs, I64 q.2) : CallE Try.prog 16 [.ptr 1 0, .d (.imm r)] 2 [(0, .mp .i64 m), (1, .cells [.map 0])]
    (fun v n h => Nd (fun _ => Fin 2 (KApp m qs) v n h)) := by
  refine call_fn tysOK orders (C := B1) B1_ok ⟨[((10, 2), [3]), ((17, 1), [2])], [], 0⟩ Try.func16 (by kernel_rfl) (by kernel_rfl) ?_
  intro oBin oCmp oWrap oNeg oCom oBnot oBeq oPickB oPickI oPickS oInb oSub2 oMinI oMaxI oSlen oSidx oScat oSsub oScmp oScok oLen oCI oCB oCS oCL oOkR oApp oApok oSub oSetc oRep oMkok oNthI oNthB oNthS oIteI oIteB oIteS oB2s oS2b oAllB oWf oDeq oMlen oMhas oMI oMB oMS oMok oMput oMdel oSgo oSru oSnx ho; cbv
  (repeat (any_goals (first
    | with_reducible refine And.intro ?_ ?_
    | exact True.intro
    | with_reducible exact rfl
    | (with_reducible refine Nd.mk ?_; try dsimp only)
    | (with_reducible refine Nd0.mk ?_; try dsimp only)
    | (with_reducible refine Pz.mk ?_; cbv)
    | (with_reducible refine RgOK.mk ?_; kernel_rfl)
    | (with_reducible refine OrOK.mk ?_; kernel_rfl)
    | (with_reducible refine Al.mk (fun x hx => ?_); cbv)
    | (with_reducible refine hK' _ ?_; clear hK' K'; cbv)
    | (with_reducible refine brA.yes (by first | assumption | exact rfl | (simp only [show oCmp = real.cmp from congrArg Ar.cmp ho, show oBin = real.bin from congrArg Ar.bin ho, show oScmp = real.scmp from congrArg Ar.scmp ho, show oPickB = real.pickB from congrArg Ar.pickB ho]; decide)) ?_; cbv)
    | (with_reducible refine brA.no (by first | assumption | exact rfl | (simp only [show oCmp = real.cmp from congrArg Ar.cmp ho, show oBin = real.bin from congrArg Ar.bin ho, show oScmp = real.scmp from congrArg Ar.scmp ho, show oPickB = real.pickB from congrArg Ar.pickB ho]; decide)) ?_; cbv)
    | (with_reducible refine bcase (fun hb => ?_) (fun hb => ?_) <;> cbv)
    | (intro K' hK'; cbv))))
  refine ⟨fun st => ∃ (i : Nat) (j : Int), j = i ∧ i ≤ qs.length ∧ inR (qs.take i) ∧ st = ⟨mkF 67 0 [(0, .ptr 1 0), (1, .d (.imm r)), (16, .d (.imm r)), (17, .d (.int .i64 (oLen r))), (18, .d (.int .i64 j))], 2, [(0, .mp .i64 m), (1, .cells [.map 0])]⟩, fun st => ((qs.length : Int) - ctr 18 st).toNat, ⟨[], [], [0, 1, 16, 17, 18], [0, 1], 2⟩, ?_, ?_, ?_⟩
  · cbv
  · exact ⟨0, 0, rfl, Nat.zero_le _, (fun q hq => by cases hq), rfl⟩
  rintro st1 ⟨i, j, hj, hi, hA, rfl⟩
  cbv
  (repeat (any_goals (first
    | with_reducible refine And.intro ?_ ?_
    | exact True.intro
    | with_reducible exact rfl
    | (with_reducible refine Nd.mk ?_; try dsimp only)
    | (with_reducible refine Nd0.mk ?_; try dsimp only)
    | (with_reducible refine Pz.mk ?_; cbv)
    | (with_reducible refine RgOK.mk ?_; kernel_rfl)
    | (with_reducible refine OrOK.mk ?_; kernel_rfl)
    | (with_reducible refine Al.mk (fun x hx => ?_); cbv)
    | (with_reducible refine hK' _ ?_; clear hK' K'; cbv)
    | (with_reducible refine brA.yes (by first | assumption | exact rfl | (simp only [show oCmp = real.cmp from congrArg Ar.cmp ho, show oBin = real.bin from congrArg Ar.bin ho, show oScmp = real.scmp from congrArg Ar.scmp ho, show oPickB = real.pickB from congrArg Ar.pickB ho]; decide)) ?_; cbv)
    | (with_reducible refine brA.no (by first | assumption | exact rfl | (simp only [show oCmp = real.cmp from congrArg Ar.cmp ho, show oBin = real.bin from congrArg Ar.bin ho, show oScmp = real.scmp from congrArg Ar.scmp ho, show oPickB = real.pickB from congrArg Ar.pickB ho]; decide)) ?_; cbv)
    | (with_reducible refine bcase (fun hb => ?_) (fun hb => ?_) <;> cbv)
    | (intro K' hK'; cbv))))
  all_goals first
    | (((try clear hK' K'); cases ho; (try simp only [nc1] at *); (try simp only [Int.ofNat_eq_natCast] at *))
       first
       | with_reducible exact inb_lt hj (by assumption)
       | with_reducible exact ln_wf hr
       | with_reducible exact ln_ok hr hj (by assumption)
       | exact ⟨qs, hr, hl⟩
       | exact fin_app (.inl ⟨rfl, rfl, acc_lo hr hj (by assumption) (by assumption)⟩)
       | exact fin_app (.inl ⟨rfl, rfl, acc_hi hr hj (by assumption) (by assumption)⟩)
       | (have hi' := ln_lt hr hj (by assumption)
          have hok := acc_ok hr hj (by assumption) (by assumption) (by assumption) hA
          refine ⟨⟨[], [], [0, 1, 16, 17, 18], [0, 1], 2⟩, rfl, ⟨i + 1, real.bin .add .i64 j 1, addL hj (by omega), by omega, hok, rfl⟩, ?_⟩
          show ((qs.length : Int) - real.bin .add .i64 j 1).toNat < ((qs.length : Int) - j).toNat
          rw [addL hj (by omega)]; omega))
    | skip
  · obtain ⟨am, L0⟩ := x
    have hAm : AMP am L0 qs := by
      obtain ⟨qs', h1, h2⟩ := hx
      rw [lnR_inj (hr.symm.trans h1)]
      exact h2
    have hin : inR qs := in_end ho hr hj hi hA hb
    clear hx
    refine ⟨fun st => ∃ (left : ML) (cur : Option (Int × Value)) (L : Bag) (nx : ML), LP2 m am qs left L nx ∧ st = ⟨mkF 67 0 [(0, .ptr 1 0), (7, .map 2), (34, .iter 5)], 6, [(0, .mp .i64 m), (1, .cells [.map 0]), (2, .mp .i64 nx), (4, .bag 1 L), (5, .it .i64 114 left cur)]⟩, fun st => itl 5 st, ⟨[], [], [0, 7, 34], [0, 1, 2, 4, 5], 6⟩, ?_, ?_, ?_⟩
    · cbv
    · exact ⟨am, none, L0, [], LP2.start hAm, rfl⟩
    rintro st1 ⟨left, cur, L, nx, hP, rfl⟩
    cbv
    (repeat (any_goals (first
    | with_reducible refine And.intro ?_ ?_
    | exact True.intro
    | with_reducible exact rfl
    | (with_reducible refine Nd.mk ?_; try dsimp only)
    | (with_reducible refine Nd0.mk ?_; try dsimp only)
    | (with_reducible refine Pz.mk ?_; cbv)
    | (with_reducible refine RgOK.mk ?_; kernel_rfl)
    | (with_reducible refine OrOK.mk ?_; kernel_rfl)
    | (with_reducible refine Al.mk (fun x hx => ?_); cbv)
    | (with_reducible refine hK' _ ?_; clear hK' K'; cbv)
    | (with_reducible refine brA.yes (by first | assumption | exact rfl | (simp only [show oCmp = real.cmp from congrArg Ar.cmp ho, show oBin = real.bin from congrArg Ar.bin ho, show oScmp = real.scmp from congrArg Ar.scmp ho, show oPickB = real.pickB from congrArg Ar.pickB ho]; decide)) ?_; cbv)
    | (with_reducible refine brA.no (by first | assumption | exact rfl | (simp only [show oCmp = real.cmp from congrArg Ar.cmp ho, show oBin = real.bin from congrArg Ar.bin ho, show oScmp = real.scmp from congrArg Ar.scmp ho, show oPickB = real.pickB from congrArg Ar.pickB ho]; decide)) ?_; cbv)
    | (with_reducible refine bcase (fun hb => ?_) (fun hb => ?_) <;> cbv)
    | (intro K' hK'; cbv))))
    any_goals first
      | omega
      | exact hm
      | exact hAm.sl _ (hP.sub (by assumption))
      | exact hAm.sl _ (hP.sub (perm_one (by assumption) (by assumption)))
    · subst hx
      refine ⟨fun st => ∃ (left : ML) (cur : Option (Int × Value)) (m' : ML), LP3 m qs left m' ∧ st = ⟨mkF 67 0 [(0, .ptr 1 0), (57, .iter 6)], 7, [(0, .mp .i64 m'), (1, .cells [.map 0]), (6, .it .i64 42 left cur)]⟩, fun st => itl 6 st, ⟨[], [], [0, 57], [0, 1, 6], 7⟩, ?_, ?_, ?_⟩
      · cbv
      · exact ⟨nx, none, m, LP3.start hm hAm hin hP, rfl⟩
      rintro st1 ⟨left, cur, m', hP3, rfl⟩
      cbv
      (repeat (any_goals (first
    | with_reducible refine And.intro ?_ ?_
    | exact True.intro
    | with_reducible exact rfl
    | (with_reducible refine Nd.mk ?_; try dsimp only)
    | (with_reducible refine Nd0.mk ?_; try dsimp only)
    | (with_reducible refine Pz.mk ?_; cbv)
    | (with_reducible refine RgOK.mk ?_; kernel_rfl)
    | (with_reducible refine OrOK.mk ?_; kernel_rfl)
    | (with_reducible refine Al.mk (fun x hx => ?_); cbv)
    | (with_reducible refine hK' _ ?_; clear hK' K'; cbv)
    | (with_reducible refine brA.yes (by first | assumption | exact rfl | (simp only [show oCmp = real.cmp from congrArg Ar.cmp ho, show oBin = real.bin from congrArg Ar.bin ho, show oScmp = real.scmp from congrArg Ar.scmp ho, show oPickB = real.pickB from congrArg Ar.pickB ho]; decide)) ?_; cbv)
    | (with_reducible refine brA.no (by first | assumption | exact rfl | (simp only [show oCmp = real.cmp from congrArg Ar.cmp ho, show oBin = real.bin from congrArg Ar.bin ho, show oScmp = real.scmp from congrArg Ar.scmp ho, show oPickB = real.pickB from congrArg Ar.pickB ho]; decide)) ?_; cbv)
    | (with_reducible refine bcase (fun hb => ?_) (fun hb => ?_) <;> cbv)
    | (intro K' hK'; cbv))))
      all_goals (cases ho)
      all_goals first
        | omega
        | exact hP3.g
        | exact hP3.mok
        | exact hP3.mok1 (by assumption)
        | (subst hx; exact fin_app (.inr (.inr ⟨rfl, hin, hP.fit hAm, hP3.fin⟩)))
        | (rename_i q hp
           refine ⟨⟨[], [], [0, 57], [0, 1, 6], 7⟩, rfl, ⟨q.2, some q.1, x, hP3.step hp hx, rfl⟩, ?_⟩
           show q.2.length < left.length
           rw [hp.length_eq]
           exact Nat.lt_succ_self _)
        | trace_state
    · rename_i q hp
      revert x
      intro z hz
      obtain ⟨A, B, hL, hpa⟩ := hP.bag hp
      subst hL
      obtain ⟨ys, hys⟩ : ∃ ys, ys = iR (sel qs q.1.1) := ⟨_, rfl⟩
      have hok : oApok ys [[.int .i64 z]] 1 8 = true := bag_ok ho hys (Nat.le_trans (sel_len qs q.1.1) hl)
      obtain ⟨L2, hL2⟩ : ∃ L2, L2 = A ++ B := ⟨_, rfl⟩
      refine ⟨ys, L2, .inr ⟨A, B, by rw [hys], hL2⟩, hok, fun v' hs => ?_⟩
      cbv
      (repeat (any_goals (first
    | with_reducible refine And.intro ?_ ?_
    | exact True.intro
    | with_reducible exact rfl
    | (with_reducible refine Nd.mk ?_; try dsimp only)
    | (with_reducible refine Nd0.mk ?_; try dsimp only)
    | (with_reducible refine Pz.mk ?_; cbv)
    | (with_reducible refine RgOK.mk ?_; kernel_rfl)
    | (with_reducible refine OrOK.mk ?_; kernel_rfl)
    | (with_reducible refine Al.mk (fun x hx => ?_); cbv)
    | (with_reducible refine hK' _ ?_; clear hK' K'; cbv)
    | (with_reducible refine brA.yes (by first | assumption | exact rfl | (simp only [show oCmp = real.cmp from congrArg Ar.cmp ho, show oBin = real.bin from congrArg Ar.bin ho, show oScmp = real.scmp from congrArg Ar.scmp ho, show oPickB = real.pickB from congrArg Ar.pickB ho]; decide)) ?_; cbv)
    | (with_reducible refine brA.no (by first | assumption | exact rfl | (simp only [show oCmp = real.cmp from congrArg Ar.cmp ho, show oBin = real.bin from congrArg Ar.bin ho, show oScmp = real.scmp from congrArg Ar.scmp ho, show oPickB = real.pickB from congrArg Ar.pickB ho]; decide)) ?_; cbv)
    | (with_reducible refine bcase (fun hb => ?_) (fun hb => ?_) <;> cbv)
    | (intro K' hK'; cbv))))
      all_goals (cases ho)
      all_goals first
        | (have := rows_ok hm hq hl hys hz
           cases ys <;> exact this)
        | (have h5 := tot_of hys hz (q := x) (by cases ys <;> exact hx)
           exact fin_app (LP2.bad hAm hin hpa h5 (by assumption)))
        | (have h5 := tot_of hys hz (q := x) (by cases ys <;> exact hx)
           refine ⟨⟨[], [(6, 4)], [0, 7, 34], [0, 1, 2, 6, 5], 6⟩, rfl, ⟨q.2, some q.1, _, _, (by rw [hL2]; exact hP.next hAm.nd hp h5 (by assumption) _), rfl⟩, ?_⟩
           show q.2.length < left.length
           rw [hp.length_eq]
           exact Nat.lt_succ_self _)
        | trace_state
end Go.Proofs.Yteakfibolfapiaa.Ab
end
section
namespace Go.Proofs.Yteakfibolfapiaa.Bl
open Go Go.RowKit Go.Maps Go.Sort Go.Shelf
set_option linter.unusedVariables false
set_option linter.unusedSimpArgs false
abbrev ML := List (Int × Value)
def encE (p : Int × Int) : List Value := [.int .i64 p.1, .int .i64 p.2]
def cellsE (xs : List (Int × Int)) : List Value := xs.flatMap encE
def prE (p : Int × Int) : Int × Value := (p.1, .int .i64 p.2)
set_option maxHeartbeats 1000000 in
/-- The comparison: by the accounts; two blocks are laid. -/
theorem closure (x y : Int × Int) (W : World) : Calls Try.prog 68 #[.agg #[.int .i64 x.1, .int .i64 x.2], .agg #[.int .i64 y.1, .int .i64 y.2]] W fun e w' => e = .returned (.int .i64 (Lib.compareInt x.1 y.1)) ∧ ∃ q os', w' = grow (W.drewN q) os' := by
  have hcon := fun W' => Try.cmp_Compare_int x.1 y.1 W'
  generalize Lib.compareInt x.1 y.1 = r at hcon ⊢
  go_enter Try.func68, Try.ntmps68
  go_wp2_with (go_at_call 45; refine (hcon _).mono ?_; rintro e w' ⟨rfl, rfl⟩)
  go_ret
  exact ⟨rfl, 0, _, by rw [alloc_eq_grow, alloc_eq_grow, grow_grow]; rfl⟩
theorem cmpLays (blk off size : Nat) (w : World) : CmpLays Try.prog 68 #[] encE 2 (fun x y => Lib.compareInt x.1 y.1) blk off size w :=
  fun _ _ _ _ x y => closure x y _
theorem ltC (x y : Int × Int) : ltOf (fun x y : Int × Int => Lib.compareInt x.1 y.1) x y = decide (x.1 < y.1) := by
  unfold ltOf Lib.compareInt
  by_cases h1 : x.1 < y.1
  · simp [h1]
  · by_cases h2 : y.1 < x.1 <;> simp [h1, h2]
theorem swoC : SWO (ltOf fun x y : Int × Int => Lib.compareInt x.1 y.1) where
  irrefl x := by rw [ltC]; simp
  trans x y z h1 h2 := by rw [ltC] at *; simp at *; omega
  ntrans x y z h1 h2 := by rw [ltC] at *; simp at *; omega
/-! rows of accounts -/
theorem cellsE_len (l : List (Int × Int)) : (cellsE l).length = l.length * 2 := by
  induction l with
  | nil => rfl
  | cons a l ih => simp [cellsE, encE] at ih ⊢; omega
theorem cellsE_get : ∀ (l : List (Int × Int)) (t : Nat), t < l.length * 2 → (cellsE l)[t]? = some ((encE (l.getD (t / 2) default))[t % 2]!)
  | [], t, h => by simp at h
  | a :: l, t, h => by
    have e : cellsE (a :: l) = encE a ++ cellsE l := rfl
    rw [e]
    by_cases ht : t < 2
    · have h1 : t = 0 ∨ t = 1 := by omega
      rcases h1 with rfl | rfl <;> rfl
    · rw [List.getElem?_append_right (by simp [encE]; omega)]
      have h2 : (encE a).length = 2 := rfl
      rw [h2, cellsE_get l (t - 2) (by simp at h; omega)]
      have h3 : t / 2 = (t - 2) / 2 + 1 := by omega
      have h4 : (t - 2) % 2 = t % 2 := by omega
      rw [h3, h4]
      rfl
theorem flat_cells (d : Array (Int × Int)) : (flatK encE 2 d).toList = cellsE d.toList := by
  apply List.ext_getElem?
  intro t
  by_cases ht : t < d.size * 2
  · rw [cellsE_get d.toList t (by simpa using ht)]
    have h3 : t / 2 < d.size := by omega
    rw [Array.getElem?_toList]
    simp only [flatK, Array.getElem?_map, Array.getElem?_range, ht, if_true, Option.map_some]
    congr 2
    rw [List.getD_eq_getElem?_getD, Array.getElem?_toList]
    simp [h3]
  · rw [List.getElem?_eq_none (by simp; omega), List.getElem?_eq_none (by rw [cellsE_len]; simp; omega)]
theorem holdsK_of_block {w : World} {g : Nat} {cur : Array Value} {e : TypeId} {d : Array (Int × Int)} (hb : w.heap[g]? = some (.cells cur e (0, 0))) (ht : cur.toList.take (d.size * 2) = cellsE d.toList) : HoldsK encE 2 w g 0 d := by
  intro j hj
  have hj' : j < d.size * 2 := by simpa using hj
  refine ⟨?_, by simp [World.frozen?, hb]⟩
  have h1 : (cur.toList.take (d.size * 2))[j]? = (flatK encE 2 d).toList[j]? := by rw [ht, flat_cells]
  rw [List.getElem?_take_of_lt hj', Array.getElem?_toList, Array.getElem?_toList] at h1
  have h2 : (flatK encE 2 d)[j]? = some (flatK encE 2 d)[j]! := by
    rw [Array.getElem?_eq_getElem hj, getElem!_pos (flatK encE 2 d) j hj]
  rw [h2] at h1
  simp only [World.cell?, hb, Nat.zero_add, Option.isSome_none, Bool.false_eq_true, if_false, h1]
  rfl
theorem heap_sortedK {w : World} {g n : Nat} {os : Array Obj} {cur : Array Value} {e : TypeId} {fr : Nat × Nat} (d : Array (Int × Int)) (hb : w.heap[g]? = some (.cells cur e fr)) :
    (sortWorldK encE 2 w g 0 n d os).heap[g]? = some (.cells (putCells id 0 (flatK encE 2 d) cur) e fr) := by
  have hg : g < w.heap.size := (Array.getElem?_eq_some_iff.1 hb).1
  unfold sortWorldK putRowK
  rw [heap_grow_old _ _ (by simpa using hg)]
  simp [putRow, mapBlock, Sort.ahead, Array.getElem?_modify, hb, onCells]
theorem grownBy_sortedK {w : World} {g n : Nat} {os : Array Obj} (d : Array (Int × Int)) : w.grownBy (sortWorldK encE 2 w g 0 n d os) (some g) := by
  unfold sortWorldK putRowK
  refine ⟨rfl, rfl, rfl, by simp, fun k hk hne => ?_⟩
  rw [heap_grow_old _ _ (by simpa using hk)]
  have : g ≠ k := fun e => hne (by rw [e])
  simp [putRow, mapBlock, Sort.ahead, Array.getElem?_modify, this]
theorem take_putCellsK (cur : Array Value) (F : Array Value) (h : F.size ≤ cur.size) : (putCells id 0 F cur).toList.take F.size = F.toList := by
  apply List.ext_getElem?
  intro j
  by_cases hj : j < F.size
  · rw [List.getElem?_take_of_lt hj, Array.getElem?_toList]
    simp [putCells, hj, show j < cur.size by omega]
  · rw [List.getElem?_take_eq_none (by omega), List.getElem?_eq_none (by simp; omega)]
theorem ownsRow_sortedK {w : World} {base g cap n len : Nat} {e : TypeId} {os : Array Obj} {cur : Array Value} {d : Array (Int × Int)} (hl : d.size = len) (hbase : base ≤ g) (hb : w.heap[g]? = some (.cells cur e (0, 0)))
    (h1 : len ≤ cap) (h2 : cap ≤ maxLen) (h3 : cur.size = cap * 2) :
    (sortWorldK encE 2 w g 0 n d os).ownsRow base e 2 (.slice (some ⟨g, 0, none⟩) len cap) len (cellsE d.toList) := by
  subst hl
  have hle : d.size * 2 ≤ cap * 2 := Nat.mul_le_mul_right 2 h1
  refine ⟨by rw [cellsE_len]; simp, .inr ⟨g, cap, _, rfl, hbase, heap_sortedK _ hb, h1, h2, by simp [putCells, h3], ?_⟩⟩
  have := take_putCellsK cur (flatK encE 2 d) (by simp; omega)
  rw [size_flatK] at this
  rw [this, flat_cells]
theorem sorted_pairs {d : Array (Int × Int)} (h : SortedIn (ltOf fun x y : (Int × Int) => Lib.compareInt x.1 y.1) 0 d.size d) : d.toList.Pairwise fun x y => x.1 ≤ y.1 := by
  rw [List.pairwise_iff_getElem]
  intro i j hi hj hij
  have hi' : i < d.size := by simpa using hi
  have hj' : j < d.size := by simpa using hj
  have h1 := h i j (Nat.zero_le _) hij hj'
  rw [ltC, decide_eq_false_iff_not, getElem!_pos d i hi', getElem!_pos d j hj'] at h1
  rw [Array.getElem_toList, Array.getElem_toList]
  omega
theorem perm_of {d d' : Array (Int × Int)} (h : PermIn 0 d.size d d') : d'.toList.Perm d.toList ∧ d'.size = d.size := by
  obtain ⟨h1, -, h2⟩ := h
  refine ⟨?_, h1⟩
  have e1 : d.extract 0 d.size = d := by simp
  have e2 : d'.extract 0 d.size = d' := by rw [← h1]; simp
  rw [e1, e2] at h2
  exact h2

theorem sortAt (blk off cap : Nat) (d : Array (Int × Int)) (w : World) (hH : HoldsK encE 2 w blk off d) (hblk : blk < w.heap.size) (hsz : d.size < 4611686018427387904) :
    Calls Try.prog 67 #[.slice (some ⟨blk, off, none⟩) d.size cap, .func (.func 68) #[] #[]] w fun e w' => e = .returned (.tuple #[]) ∧ ∃ d' n os, PermIn 0 d.size d d' ∧ SortedIn (ltOf fun x y : Int × Int => Lib.compareInt x.1 y.1) 0 d.size d' ∧ w' = sortWorldK encE 2 w blk off n d' os :=
  AnyQ.slices_SortFunc Try.sortEnt 2 Try.isAgg118 Try.sizeOf118 encE (fun _ => rfl) (fun x v hv => by simp [encE] at hv; rcases hv with rfl | rfl <;> rfl) (fun x y => Lib.compareInt x.1 y.1) swoC 68 #[] blk off cap d w
    (enters_of Try.func68 (by kernel_rfl) rfl) (cmpLays blk off d.size w) hH hblk hsz
theorem noneAt (p : Option Addr) (cap : Nat) (w : World) : Calls Try.prog 67 #[.slice p 0 cap, .func (.func 68) #[] #[]] w fun e w' => e = .returned (.tuple #[]) ∧ w' = w :=
  AnyF.slices_SortFunc_none Try.sortEnt p cap _ w
end Go.Proofs.Yteakfibolfapiaa.Bl
end
