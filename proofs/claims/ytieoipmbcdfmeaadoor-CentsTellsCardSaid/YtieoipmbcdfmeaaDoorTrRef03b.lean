/- The reference's total and sum. -/
import Derived.Test.YtieoipmbcdfmeaaDoorTrRef03
namespace Go.Proofs.YtieoipmbcdfmeaaDoor
open Go.RowKit Go.Sort
set_option linter.unusedVariables false
set_option linter.unusedSimpArgs false

def QU (x : Int) : Int := x.tdiv 1000000000
def RU (x : Int) : Int := x.tmod 1000000000
theorem qru_facts (x : Int) (hx : I64 x) : x = 1000000000 * QU x + RU x ∧ (-9223372037 ≤ QU x ∧ QU x ≤ 9223372037) ∧ (-1000000000 < RU x ∧ RU x < 1000000000) := by
  obtain ⟨e, h1, h2⟩ := half_facts x
  unfold I64 at hx
  unfold QU RU
  omega
theorem C_HalfU (a : Int) (ha : I64 a) (w : World) :
    Calls Tryd.prog 33 #[.int .i64 a] w fun e w' => e = .returned (.agg #[.int .i64 (QU a), .int .i64 (RU a)]) ∧ Below w.heap.size w w' := C_Half a ha w
def qs (xs : List Int) : Int := (xs.map QU).sum
def rs (xs : List Int) : Int := (xs.map RU).sum
theorem qs_bd (xs : List Int) (hx : ∀ x ∈ xs, I64 x) : (-(9223372037 * (xs.length : Int)) ≤ qs xs ∧ qs xs ≤ 9223372037 * (xs.length : Int)) ∧ (-(1000000000 * (xs.length : Int)) ≤ rs xs ∧ rs xs ≤ 1000000000 * (xs.length : Int)) ∧ xs.sum = 1000000000 * qs xs + rs xs := by
  induction xs with
  | nil => simp [qs, rs]
  | cons x xs ih =>
    obtain ⟨h1, h2, h3⟩ := ih fun y hy => hx y (List.mem_cons_of_mem _ hy)
    have := qru_facts x (hx x List.mem_cons_self)
    have e1 : qs (x :: xs) = QU x + qs xs := by simp [qs]
    have e2 : rs (x :: xs) = RU x + rs xs := by simp [rs]
    rw [e1, e2, List.sum_cons, List.length_cons]
    omega
theorem qs_take (xs : List Int) (i : Nat) (h : i < xs.length) : qs (xs.take (i + 1)) = qs (xs.take i) + QU (xs.getD i 0) ∧ rs (xs.take (i + 1)) = rs (xs.take i) + RU (xs.getD i 0) := by
  rw [List.take_succ_eq_append_getElem h]
  simp only [qs, rs, List.map_append, List.map_cons, List.map_nil, List.sum_append, List.sum_cons, List.sum_nil, Int.add_zero, List.getD, List.getElem?_eq_getElem h, Option.getD_some]
  exact ⟨trivial, trivial⟩

def RTotInv (xs : List Int) (g : Nat) (B : World) (s5 : Value) (wr : World) : Prop :=
  ∃ i : Nat, i ≤ xs.length ∧ s5 = .int .i64 i ∧ wr.heap[g]? = some (.cells #[.int .i64 (qs (xs.take i)), .int .i64 (rs (xs.take i))] 76 (0, 0)) ∧ Below B.heap.size B wr

set_option maxRecDepth 100000 in
set_option maxHeartbeats 4000000 in
theorem C_RTotal (v : Value) (xs : List Int) (w : World) (hv : Ints .i64 w v xs) (hx : ∀ x ∈ xs, I64 x) (hn : xs.length ≤ 10000000) :
    Calls Tryd.prog 11 #[v] w fun e w' => e = .returned (.tuple #[.int .i64 (amt xs.sum), .int .i64 (amtE xs.sum)]) ∧ Below w.heap.size w w' := by
  obtain ⟨a, cap, rfl, hc⟩ := hv
  obtain ⟨V, hV⟩ : ∃ V, V = xs.sum := ⟨_, rfl⟩
  rw [← hV]
  have HC := Lib.hid hc; have HX := Lib.hid hx; have HV := Lib.hid hV
  clear hc hx hV
  go_enter Tryd.func11, Tryd.ntmps11
  go_wp2_with fail
  go_loopw [5] (fun s5 wr => RTotInv xs w.heap.size w s5 wr) (fun s5 _ => xs.length - (intOf s5).toNat)
  case atStart =>
    exact ⟨0, Nat.zero_le _, rfl, by rw [List.take_zero]; (repeat (first | with_reducible assumption | with_reducible refine Tr.blk_drew ?_ | with_reducible refine Tr.blk_drewN ?_ | (refine Tr.blk_at ?_; focus (first | (simp; done) | (simp; omega))) | with_reducible refine Tr.blk_old ?_ | ((with_reducible refine Tr.blk_set_ne ?_ _ ?_); rotate_left; focus (first | (simp; done) | (simp; omega) | (simp; assumption))))), by (repeat (first | with_reducible assumption | (with_reducible exact Below.refl _ _) | ((with_reducible refine Tr.below_alloc ?_ ?_); rotate_left; focus (first | omega | exact Nat.le_refl _)) | (with_reducible refine Tr.below_drew ?_) | (with_reducible refine Tr.below_drewN ?_) | ((with_reducible refine Tr.below_set ?_ ?_); rotate_left; focus (first | omega | (simp; done) | (simp; omega))) | ((with_reducible refine Tr.below_trans ?_ (by assumption) ?_); rotate_left; focus (first | exact Nat.le_refl _ | omega))))⟩
  case round =>
    obtain ⟨i, hi, rfl, hg, hB⟩ := hrel
    have BG := Lib.hid hg
    have cg := fun o => Tr.cell_blk (o := o) hg
    clear hg
    by_cases hlt : i < xs.length
    · obtain ⟨b, off, rfl, hbl, hcell⟩ := HC.out (by omega)
      obtain ⟨x, hxe⟩ : ∃ x, x = xs.getD i 0 := ⟨_, rfl⟩
      have hci : wr.cell? ⟨b, off + i, none⟩ = some (.int .i64 x) := by rw [hB.cell (p := ⟨b, off + i, none⟩) hbl, hcell i hlt, hxe]
      have hxI : I64 x := by rw [hxe]; simp only [List.getD, List.getElem?_eq_getElem hlt, Option.getD_some]; exact HX.out _ (List.getElem_mem _)
      have hs := qs_take xs i hlt
      rw [← hxe] at hs
      have hb1 := qs_bd (xs.take i) fun y hy => HX.out y (List.mem_of_mem_take hy)
      rw [List.length_take] at hb1
      have hq1 : -92233720370000000 ≤ qs (xs.take i) := by omega
      have hq2 : qs (xs.take i) ≤ 92233720370000000 := by omega
      have hq3 : -10000000000000000 ≤ rs (xs.take i) := by omega
      have hq4 : rs (xs.take i) ≤ 10000000000000000 := by omega
      obtain ⟨-, ⟨hx1, hx2⟩, hx3, hx4⟩ := qru_facts x hxI
      generalize hQ : qs (xs.take i) = Q at *
      generalize hR : rs (xs.take i) = R at *
      have HQ := Lib.hid hQ; have HR := Lib.hid hR
      have HS := Lib.hid hs; have HXI := Lib.hid hxI
      clear hcell hxe hxI hs hb1 hQ hR
      have hgB : w.heap.size < wr.heap.size := Tr.blk_lt BG.out
      go_wp2_with (go_at_call 33; refine (C_HalfU x HXI.out _).mono ?_; rintro e w2 ⟨rfl, hb2⟩; have b2 := Tr.blk_keep hb2 BG.out; have c2 := fun o => Tr.cell_blk (o := o) b2; have f2 := fun o => Tr.frozen_blk (o := o) b2; have hz2 := hb2.size; have l2 := Tr.blk_lt b2; have hne2 : w2.heap.size ≠ w.heap.size := (by omega); have B2 := Lib.hid b2; have hB2 := Tr.below_trans hB hb2; clear b2 cg hci hb2)
      go_roundw
      case rel =>
        refine ⟨i + 1, by omega, by go_num, ?_, ?_⟩
        · rw [HS.out.1, HS.out.2]
          have b2 := B2.out
          exact Tr.blk_old (Tr.blk_set (o := 1) (Tr.blk_set (o := 0) b2 _) _)
        · (repeat (first | with_reducible assumption | (with_reducible exact Below.refl _ _) | ((with_reducible refine Tr.below_alloc ?_ ?_); rotate_left; focus (first | omega | exact Nat.le_refl _)) | (with_reducible refine Tr.below_drew ?_) | (with_reducible refine Tr.below_drewN ?_) | ((with_reducible refine Tr.below_set ?_ ?_); rotate_left; focus (first | omega | (simp; done) | (simp; omega))) | ((with_reducible refine Tr.below_trans ?_ (by assumption) ?_); rotate_left; focus (first | exact Nat.le_refl _ | omega))))
      case measure => simp [intOf]; omega
    · have hie : i = xs.length := by omega
      subst hie
      rw [List.take_length] at cg
      obtain ⟨⟨h1, h2⟩, ⟨h3, h4⟩, hsum⟩ := qs_bd xs HX.out
      have e : xs.sum = qs xs * 1000000000 + rs xs := by omega
      have E := Lib.hid e
      have g1 : -1152921504606846976 ≤ qs xs := by omega
      have g2 : qs xs ≤ 1152921504606846976 := by omega
      have g3 : -1152921504606846976 ≤ rs xs := by omega
      have g4 : rs xs ≤ 1152921504606846976 := by omega
      clear hsum e h1 h2 h3 h4
      go_wp2_with (go_at_call 34; refine (C_Back _ _ g1 g2 g3 g4 _).mono ?_; rintro e w3 ⟨rfl, hb3⟩)
      go_ret2
      exact ⟨(congrArg (fun V => Ending.returned (.tuple #[.int .i64 (amt V), .int .i64 (amtE V)])) (HV.out.trans E.out)).symm, Tr.below_trans hB hb3⟩

set_option maxRecDepth 100000 in
set_option maxHeartbeats 2000000 in
theorem C_R03Add (a b : Int) (ha : I64 a) (hb : I64 b) (w : World) :
    Calls Tryd.prog 19 #[.int .i64 a, .int .i64 b] w fun e w' => e = .returned (.tuple #[.int .i64 (amt (a + b)), .int .i64 (amtE (a + b))]) ∧ Below w.heap.size w w' := by
  have key : ∀ W : World, W.heap[w.heap.size]? = some (.cells #[.int .i64 a, .int .i64 b] 2 (0, 0)) → Calls Tryd.prog 11 #[.slice (some ⟨w.heap.size, 0, none⟩) 2 2] W fun e w' => e = .returned (.tuple #[.int .i64 (amt (a + b)), .int .i64 (amtE (a + b))]) ∧ Below W.heap.size W w' := by
    intro W hW
    have := C_RTotal (.slice (some ⟨w.heap.size, 0, none⟩) 2 2) [a, b] W ⟨_, 2, rfl, fun _ => ⟨_, 0, rfl, Tr.blk_lt hW, fun j hj => ?_⟩⟩ (by simp; exact ⟨ha, hb⟩) (by simp)
    · simpa using this
    · rw [Tr.cell_blk hW]
      have : j = 0 ∨ j = 1 := by simp at hj; omega
      rcases this with rfl | rfl <;> rfl
  have KEY := Lib.hid key
  clear key ha hb
  go_enter Tryd.func19, Tryd.ntmps19
  go_wp2_with (go_at_call 11; refine (KEY.out _ ?_).mono ?_; (focus ((repeat (first | with_reducible assumption | with_reducible refine Tr.blk_drew ?_ | with_reducible refine Tr.blk_drewN ?_ | (refine Tr.blk_at ?_; focus (first | (simp; done) | (simp; omega))) | with_reducible refine Tr.blk_old ?_ | ((with_reducible refine Tr.blk_set_ne ?_ _ ?_); rotate_left; focus (first | (simp; done) | (simp; omega) | (simp; assumption))))))); rintro e w3 ⟨rfl, hb3⟩)
  go_ret2
  refine ⟨rfl, ?_⟩
  (repeat (first | with_reducible assumption | (with_reducible exact Below.refl _ _) | ((with_reducible refine Tr.below_alloc ?_ ?_); rotate_left; focus (first | omega | exact Nat.le_refl _)) | (with_reducible refine Tr.below_drew ?_) | (with_reducible refine Tr.below_drewN ?_) | ((with_reducible refine Tr.below_set ?_ ?_); rotate_left; focus (first | omega | (simp; done) | (simp; omega))) | ((with_reducible refine Tr.below_trans ?_ (by assumption) ?_); rotate_left; focus (first | exact Nat.le_refl _ | omega))))
end Go.Proofs.YtieoipmbcdfmeaaDoor
