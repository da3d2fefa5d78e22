/- GeoWins: some block has so few live pages that clearing it wins a page: the sum of all is less than as many would be. -/
import Derived.Test.YtjkfkgpdlflbhaaTrGeoC
import Derived.Test.YtjkfkgpdlflbhaaTrSayGeoWins
import Derived.OwnWalk
import Derived.Laws.OwnMore
import Derived.LoopTactic

namespace Go.Proofs.Ytjkfkgpdlflbhaa
open Go.RowKit Go.Sort
open PGeoChecks Tr
set_option linter.unusedVariables false
attribute [local go_sem] Tr.go_max2 Tr.go_min2 Tr.go_max_two Tr.go_min_two
set_option maxHeartbeats 1000000 in
theorem wins_no (a b c k l t v : Int) (A1 : Option Addr) (n1 c1 : Nat) (hm : ¬ May a b c k l t v) (hk : -9223372036854775808 ≤ k ∧ k ≤ 9223372036854775807) (w : World) :
    Calls Try.prog 5 #[.agg #[.int .i64 a, .int .i64 b, .int .i64 c, .int .i64 k, .int .i64 l, .int .i64 t, .int .i64 v], .slice A1 n1 c1] w fun e w' => e = .returned (.bool true) ∧ Below w.heap.size w w' := by
  have HM := Lib.hid hm; clear hm
  go_enter Try.func5, Try.ntmps5
  go_wp2_with (first
    | (go_at_call 11; refine (C_of _ _ _ _ _ _ _ _).mono ?_; rintro e w1 ⟨rfl, hb1⟩)
    | (go_at_call 12; refine (C_wakes _).mono ?_; rintro e w2 ⟨rfl, hb2⟩; have b2 := blk_keep hb2 (blk_new _ _); have c2 := fun o => cell_blk (o := o) b2; clear b2)
    | (go_at_call 12; refine (C_wakes _).mono ?_; rintro e w4 ⟨rfl, hb4⟩)
    | (go_at_call 13; refine (C_check_no _ _ _ _ _ _ _ HM.out hk _).mono ?_; rintro e w3 ⟨rfl, hb3⟩))
  go_ret
  exact ⟨rfl, by (repeat (first | assumption | exact Below.refl _ _ | (refine Tr.below_alloc ?_ ?_; rotate_left; (first | omega | exact Nat.le_refl _)) | refine Tr.below_drew ?_ | refine Tr.below_drewN ?_ | (refine Tr.below_set ?_ ?_; rotate_left; (first | omega | (simp; omega))) | (refine Tr.below_trans ?_ (by assumption) ?_; rotate_left; (first | exact Nat.le_refl _ | omega))))⟩

theorem info3 : (Try.prog.info? 3).map (fun i => (i.zero, i.size, i.bytes)) = some (some (.int .i64 0), 1, 8) := by kernel_rfl
theorem sum_set (xs : List Int) (i : Nat) (h : i < xs.length) (v : Int) : (xs.set i v).sum = xs.sum - xs.getD i 0 + v := by
  induction xs generalizing i with
  | nil => simp at h
  | cons x xs ih =>
    cases i with
    | zero => simp; omega
    | succ i =>
      have := ih i (by simpa using h)
      simp only [List.set_cons_succ, List.sum_cons, List.getD_cons_succ]
      omega
theorem sum_replicate (n : Nat) : (List.replicate n (0 : Int)).sum = 0 := by
  induction n with
  | zero => rfl
  | succ n ih => rw [List.replicate_succ, List.sum_cons, ih]; rfl
/-- A list of whose numbers all are more than a bound has more than so often the bound. -/
theorem sum_low (xs : List Int) (B : Int) (h : ∀ x ∈ xs, B + 1 ≤ x) : (xs.length : Int) * (B + 1) ≤ xs.sum := by
  induction xs with
  | nil => simp
  | cons x xs ih =>
    have h1 := h x List.mem_cons_self
    have h2 := ih (fun y hy => h y (List.mem_cons_of_mem _ hy))
    simp only [List.length_cons, List.sum_cons]
    have e : (((xs.length + 1 : Nat) : Int)) * (B + 1) = (xs.length : Int) * (B + 1) + (B + 1) := by
      rw [show ((xs.length + 1 : Nat) : Int) = (xs.length : Int) + 1 by omega, Int.add_mul, Int.one_mul]
    omega
/-- Some number is small. -/
theorem some_low (xs : List Int) (n : Nat) (T B : Int) (hx : xs.length = n) (hs : xs.sum = T) (h0 : 1 ≤ n) (hT : T ≤ n * B) : ∃ q, q < xs.length ∧ xs.getD q 0 ≤ B := by
  apply Classical.byContradiction
  intro h
  have h2 := sum_low xs B (fun x hx => by
    obtain ⟨q, hq, rfl⟩ := List.getElem_of_mem hx
    have : ¬ xs.getD q 0 ≤ B := fun z => h ⟨q, hq, z⟩
    have e : xs.getD q 0 = xs[q] := by simp [List.getD, hq]
    omega)
  rw [hx, hs] at h2
  have e : (n : Int) * (B + 1) = n * B + n := by rw [Int.mul_add, Int.mul_one]
  omega

def Inv1 (cfg : Array Value) (gx g n T : Nat) (w : World) (s8 s45 : Value) (wr : World) : Prop :=
  ∃ (i at_ : Nat) (xs : List Int), s45 = .int .i64 i ∧ s8 = .int .i64 at_ ∧ i ≤ T ∧ at_ ≤ 255 * i ∧ xs.length = n ∧ xs.sum = i ∧ (∀ x ∈ xs, 0 ≤ x ∧ x ≤ i) ∧
    wr.heap[g]? = some (.cells (xs.map (Value.int .i64)).toArray 3 (0, 0)) ∧ wr.heap[gx]? = some (.cells cfg 27 (0, 0)) ∧ Below w.heap.size w wr

def Inv2 (b : Int) (n : Nat) (xs : List Int) (s10 s75 : Value) : Prop :=
  ∃ (j : Nat) (m : Int), s75 = .int .i64 j ∧ s10 = .int .i64 m ∧ j ≤ n ∧ (m ≤ b - 2 ∨ ∃ q, j ≤ q ∧ q < n ∧ xs.getD q 0 ≤ b - 2)
theorem C_each_yes (a b c : Int) (h : Rt a b c) (w : World) : Calls Try.prog 20 #[.agg #[.int .i64 a, .int .i64 b, .int .i64 c]] w fun e w' => e = .returned (.int .i64 (b - 1)) ∧ Below w.heap.size w w' := by
  have := geo_Each.calls a b c _ w (each_eq a b c); unfold each at this; rwa [if_pos h] at this

set_option maxRecDepth 100000 in
set_option maxHeartbeats 2000000 in
theorem wins_yes (a b c k l t v : Int) (A1 : Option Addr) (c1 : Nat) (ys : List Int) (hys : ∀ x ∈ ys, 0 ≤ x ∧ x ≤ 255) (hyl : ys.length ≤ 9223372036854775807)
    (w : World) (hcell : 0 < ys.length → ∃ b off, A1 = some ⟨b, off, none⟩ ∧ b < w.heap.size ∧ ∀ j, j < ys.length → w.cell? ⟨b, off + j, none⟩ = some (.int .u8 (ys.getD j 0)))
    (hm : May a b c k l t v) (hk : -9223372036854775808 ≤ k ∧ k ≤ 9223372036854775807) :
    Calls Try.prog 5 #[.agg #[.int .i64 a, .int .i64 b, .int .i64 c, .int .i64 k, .int .i64 l, .int .i64 t, .int .i64 v], .slice A1 ys.length c1] w fun e w' => e = .returned (.bool true) ∧ Below w.heap.size w w' := by
  have HM := Lib.hid hm
  obtain ⟨hr, hk0, hl1, ht, hv, hroom, hs⟩ := hm
  have h' := hr
  unfold Rt at h'
  obtain ⟨ha0, ha1, hb0, hb1', -, -⟩ := h'
  have hka : k ≤ a := by
    by_cases g : a < k
    · exfalso
      have : room a b c k = 0 := by unfold room; rw [if_neg (by omega)]
      omega
    · omega
  have er : room a b c k = blks a k * (b - 2) := by unfold room; rw [if_pos ⟨hr, hk0, hka⟩]
  have hbp : 1 ≤ a - 6 - k := by
    by_cases g : a - 6 - k < 1
    · exfalso
      have : blks a k = 0 := by unfold blks; split <;> omega
      rw [this, Int.zero_mul] at er
      omega
    · omega
  have eb : blks a k = a - 6 - k := by unfold blks; rw [if_neg (by omega)]
  obtain ⟨n, hn⟩ : ∃ n : Nat, (n : Int) = a - 6 - k := ⟨(a - 6 - k).toNat, by omega⟩
  obtain ⟨T, hT⟩ : ∃ T : Nat, (T : Int) = l + t := ⟨(l + t).toNat, by omega⟩
  have hsum : (T : Int) ≤ n * (b - 2) := by rw [er, eb, ← hn] at hroom; omega
  have hn1 : 1 ≤ n := by omega
  have hn2 : n ≤ 250 := by omega
  have hT2 : T ≤ 4160 := by omega
  obtain ⟨hl0, hl2⟩ := hl1
  obtain ⟨ht0, ht2⟩ := ht
  have HN := Lib.hid hn; have HT := Lib.hid hT; have HS := Lib.hid hsum; have HR := Lib.hid hr; have HC := Lib.hid hcell; have HY := Lib.hid hys
  clear hn hT hsum er eb hroom hr hv hs hcell hys
  obtain ⟨i0, hi, hz0, hz1, hz2⟩ := info_parts info3
  go_enter Try.func5, Try.ntmps5
  go_upto_region 5 with (first
    | (go_at_call 11; refine (C_of _ _ _ _ _ _ _ _).mono ?_; rintro e w1 ⟨rfl, hb1⟩; have hB1 := Tr.below_trans (Tr.below_alloc (Below.refl w.heap.size w) (Nat.le_refl _)) hb1; clear hb1)
    | (go_at_call 12; refine (C_wakes _).mono ?_; rintro e w2 ⟨rfl, hb2⟩; have b2 := Tr.blk_keep hb2 (Tr.blk_new _ _); have hB2 := Tr.below_trans (Tr.below_alloc hB1 (Nat.le_refl _)) hb2; have c2 := fun o => Tr.cell_blk (o := o) b2; have B2 := Lib.hid b2; clear b2 hb2)
    | (go_at_call 13; refine (C_check_yes _ _ _ _ _ _ _ HM.out hk _).mono ?_; rintro e w3 ⟨rfl, hb3⟩; have b3 := Tr.blk_keep hb3 B2.out; have hB3 := Tr.below_trans hB2 hb3; have c3 := fun o => Tr.cell_blk (o := o) b3; have B3 := Lib.hid b3; clear b3 c2 B2 hb3 hB2))
  rw [show a - 2 - k - 3 - 1 = (n : Int) by have := HN.out; omega]
  have hz1' := hB1.size
  have hz3 := hB3.size
  have hx3 := Tr.blk_lt B3.out
  go_wp2_with (at_make; refine wpList_make_full _ rfl _ _ 37 rfl w.heap.size 3 i0 (.int .i64 0) 1 Try.underlying37 hi hz0 hz1 .i64 .i64 _ _ n rfl rfl rfl rfl ?b2 ?b3 ?b4 ?_)
  case b2 => rw [hz2]; omega
  case b3 => unfold maxLen; omega
  case b4 => exact hz3
  intro w4 hown hgrow
  have hb4 := Tr.below_of_grown hgrow
  have hB4 := Tr.below_trans hB3 hb4
  rw [toList_madeCells_one] at hown
  have b4 := Tr.blk_of_row hown rfl
  have bx4 := Tr.blk_keep hb4 B3.out
  clear hown hgrow hb4 c3 B3
  have B4 := Lib.hid b4; have BX4 := Lib.hid bx4
  have cx4 := fun o => Tr.cell_blk (o := o) bx4
  clear b4 bx4
  have hg4 : w3.heap.size ≠ w1.heap.size := by omega
  generalize hg : w3.heap.size = g at *
  clear hg
  go_wp2_with fail
  rw [show l + t = (T : Int) by have := HT.out; omega]
  clear cx4
  go_loopw [8, 45] (fun s8 s45 wr => Inv1 #[.int .i64 a, .int .i64 b, .int .i64 c, .int .i64 k, .int .i64 l, .int .i64 t, .int .i64 v] w1.heap.size g n T w s8 s45 wr) (fun _ s45 _ => T - (intOf s45).toNat)
  case atStart =>
    exact ⟨0, 0, List.replicate n 0, rfl, rfl, by omega, by omega, by simp, by rw [sum_replicate]; rfl, (fun x hx => by have := List.eq_of_mem_replicate hx; omega), by simpa using B4.out, BX4.out, hB4⟩
  case round =>
    obtain ⟨i, at_, xs, rfl, rfl, hi', hat, hxl, hxs, hxb, bg, bx, hB⟩ := hrel
    by_cases hlt : i < T
    · have key : ∀ s : Nat, s ≤ 255 → ∃ M : Nat, M = (at_ + s) % n ∧ M < n ∧ M < xs.length := fun s hs => ⟨_, rfl, Nat.mod_lt _ (by omega), by rw [hxl]; exact Nat.mod_lt _ (by omega)⟩
      by_cases hin : i < ys.length
      · obtain ⟨yb, yo, rfl, hyb, hyc⟩ := HC.out (by omega)
        have hy := HY.out _ (List.getElem_mem hin)
        obtain ⟨y, hyn⟩ : ∃ y : Nat, (y : Int) = ys[i] := ⟨ys[i].toNat, by omega⟩
        have hyle : y ≤ 255 := by omega
        have hcy : wr.cell? ⟨yb, yo + i, none⟩ = some (.int .u8 (y : Int)) := by
          rw [hB.cell (p := ⟨yb, yo + i, none⟩) hyb, hyc i hin, hyn]; simp [List.getD, hin]
        obtain ⟨M, hM, hMn, hMl⟩ := key y hyle
        clear hyn hy hyc key
        obtain ⟨x, hx⟩ : ∃ x, x = xs.getD M 0 := ⟨_, rfl⟩
        have hxm : 0 ≤ x ∧ x ≤ i := by rw [hx]; simp only [List.getD, List.getElem?_eq_getElem hMl, Option.getD_some]; exact hxb _ (List.getElem_mem _)
        obtain ⟨hx0, hx1⟩ := hxm
        have cg : wr.cell? ⟨g, (at_ + y) % n, none⟩ = some (.int .i64 x) := by rw [Tr.cell_blk bg, ← hM, hx]; simp [List.getD, hMl]
        have fg : wr.frozen? ⟨g, (at_ + y) % n, none⟩ = false := Tr.frozen_blk bg
        have hmod : (at_ + y) % n < n := Nat.mod_lt _ (by omega)
        have hmod2 : ((at_ : Int) + y) % n < n := Int.emod_lt_of_pos _ (by omega)
        have hmod3 : 0 ≤ ((at_ : Int) + y) % n := Int.emod_nonneg _ (by omega)
        have HX := Lib.hid hx; have HMM := Lib.hid hM; have HXL := Lib.hid hxl; have HXS := Lib.hid hxs; have BG := Lib.hid bg; have BX := Lib.hid bx; have HXB := Lib.hid hxb
        clear hx hM hxl hxs bg bx hxb
        go_wp2
        go_roundw
        case rel =>
          have e1 := HXL.out; have e2 := HXS.out
          refine ⟨i + 1, at_ + y, xs.set M (x + 1), by go_num, by go_num, by omega, by omega, by simp [e1], ?_, ?_, ?_, ?_, ?_⟩
          · rw [sum_set _ _ hMl, e2, ← HX.out]; omega
          · intro z hz
            rcases List.mem_or_eq_of_mem_set hz with h | h
            · have := HXB.out z h; omega
            · omega
          · have := Tr.blk_set (o := (at_ + y) % n) BG.out (.int .i64 (x + 1))
            rw [this, ← HMM.out]; simp
          · exact Tr.blk_set_ne BX.out _ hg4
          · exact Tr.below_set hB hz3
        case measure => simp [intOf]; omega
      · obtain ⟨M, hM, hMn, hMl⟩ := key 1 (by omega)
        clear key
        obtain ⟨x, hx⟩ : ∃ x, x = xs.getD M 0 := ⟨_, rfl⟩
        have hxm : 0 ≤ x ∧ x ≤ i := by rw [hx]; simp only [List.getD, List.getElem?_eq_getElem hMl, Option.getD_some]; exact hxb _ (List.getElem_mem _)
        obtain ⟨hx0, hx1⟩ := hxm
        have cg : wr.cell? ⟨g, (at_ + 1) % n, none⟩ = some (.int .i64 x) := by rw [Tr.cell_blk bg, ← hM, hx]; simp [List.getD, hMl]
        have fg : wr.frozen? ⟨g, (at_ + 1) % n, none⟩ = false := Tr.frozen_blk bg
        have hmod : (at_ + 1) % n < n := Nat.mod_lt _ (by omega)
        have hmod2 : ((at_ : Int) + 1) % n < n := Int.emod_lt_of_pos _ (by omega)
        have hmod3 : 0 ≤ ((at_ : Int) + 1) % n := Int.emod_nonneg _ (by omega)
        have HX := Lib.hid hx; have HMM := Lib.hid hM; have HXL := Lib.hid hxl; have HXS := Lib.hid hxs; have BG := Lib.hid bg; have BX := Lib.hid bx; have HXB := Lib.hid hxb
        clear hx hM hxl hxs bg bx hxb
        go_wp2
        go_roundw
        case rel =>
          have e1 := HXL.out; have e2 := HXS.out
          refine ⟨i + 1, at_ + 1, xs.set M (x + 1), by go_num, by go_num, by omega, by omega, by simp [e1], ?_, ?_, ?_, ?_, ?_⟩
          · rw [sum_set _ _ hMl, e2, ← HX.out]; omega
          · intro z hz
            rcases List.mem_or_eq_of_mem_set hz with h | h
            · have := HXB.out z h; omega
            · omega
          · have := Tr.blk_set (o := (at_ + 1) % n) BG.out (.int .i64 (x + 1))
            rw [this, ← HMM.out]; simp
          · exact Tr.blk_set_ne BX.out _ hg4
          · exact Tr.below_set hB hz3
        case measure => simp [intOf]; omega
    · have hiT : i = T := by omega
      subst hiT
      obtain ⟨q, hq, hqb⟩ := some_low xs n i (b - 2) hxl hxs hn1 HS.out
      rw [hxl] at hq
      obtain ⟨x0, hx0⟩ : ∃ x, x = xs.getD 0 0 := ⟨_, rfl⟩
      have cg0 : wr.cell? ⟨g, 0, none⟩ = some (.int .i64 x0) := by rw [Tr.cell_blk bg, hx0]; simp [List.getD, show 0 < xs.length by omega]
      have HX0 := Lib.hid hx0; have HXL := Lib.hid hxl; have BG := Lib.hid bg; have BX := Lib.hid bx; have HXB := Lib.hid hxb; have HQ := Lib.hid hqb
      clear hx0 hxl hxs bg bx hxb hqb hi'
      go_wp2
      clear cg0
      go_loop [10, 75] (fun s10 s75 => Inv2 b n xs s10 s75) (fun _ s75 => n - (intOf s75).toNat)
      case atStart => exact ⟨0, x0, rfl, rfl, Nat.zero_le _, .inr ⟨q, Nat.zero_le _, hq, HQ.out⟩⟩
      case round =>
        obtain ⟨j, m, rfl, rfl, hj, hor⟩ := hrel
        by_cases hjn : j < n
        · obtain ⟨x, hx⟩ : ∃ x, x = xs.getD j 0 := ⟨_, rfl⟩
          have hjl : j < xs.length := by have := HXL.out; omega
          have cg : wr.cell? ⟨g, j, none⟩ = some (.int .i64 x) := by rw [Tr.cell_blk BG.out, hx]; simp [List.getD, hjl]
          have HX := Lib.hid hx; have HO := Lib.hid hor; clear hx hor
          go_wp2
          go_round
          case rel =>
            refine ⟨j + 1, min m x, by go_num, rfl, by omega, ?_⟩
            rcases HO.out with h | ⟨q, h1, h2, h3⟩
            · left; omega
            · by_cases hqj : q = j
              · left; have := HX.out; subst hqj; omega
              · right; exact ⟨q, by omega, h2, h3⟩
          case measure => simp [intOf]; omega
        · have hmb : m ≤ b - 2 := by rcases hor with h | ⟨q, h1, h2, h3⟩ <;> omega
          have cx := fun o => Tr.cell_blk (o := o) BX.out
          have hmb' : decide (m ≤ b - 1 - 1) = true := by simp; omega
          clear hor
          go_wp2_with (go_at_call 20; refine (C_each_yes _ _ _ HR.out _).mono ?_; rintro e w9 ⟨rfl, hb9⟩)
          go_ret
          exact ⟨rfl, Tr.below_trans hB hb9⟩
theorem walk_GeoWins : SayGeoWins := by
  rintro c0 a1 r1 cap1 w ⟨_, _, rfl, ⟨a, rfl, _⟩, _, _, rfl, ⟨b, rfl, _⟩, _, _, rfl, ⟨c, rfl, _⟩, _, _, rfl, ⟨k, rfl, hk⟩, _, _, rfl, ⟨l, rfl, _⟩, _, _, rfl, ⟨t, rfl, _⟩, _, _, rfl, ⟨v, rfl, _⟩, rfl⟩ hrows
  obtain ⟨xs, rfl, hwf, hcell⟩ := Tr.Rows.ints hrows
  have hc : xs.length ≤ cap1 := by have := hrows.1; rwa [List.length_map] at this
  have hm : cap1 ≤ maxLen := hrows.2.1
  unfold maxLen at hm
  rw [List.length_map]
  by_cases h : May a b c k l t v
  · refine wins_yes a b c k l t v a1 cap1 xs (fun x hx => bounds_u8 (hwf x hx)) (by omega) w (fun h0 => ?_) h (bounds_i64 hk)
    obtain ⟨bb, off, rfl, hcc⟩ := hcell h0
    exact ⟨bb, off, rfl, block_lt_of_cell (hcc 0 h0), hcc⟩
  · exact wins_no a b c k l t v a1 xs.length cap1 h (bounds_i64 hk) w
end Go.Proofs.Ytjkfkgpdlflbhaa
