/- What should be in a till, by contract: the sum of what came, less what went. -/
import Derived.Test.YtjkfkgpdlflbhaaDoorTrCents
namespace Go.Proofs.YtjkfkgpdlflbhaaDoor
open Go.RowKit Go.Sort
set_option linter.unusedVariables false
set_option linter.unusedSimpArgs false
theorem Ints.of_row {w : World} {base n : Nat} {e : TypeId} {v : Value} {xs : List Int} (h : w.ownsRow base e 1 v n (xs.map (Value.int .i64))) : Ints .i64 w v xs := by
  have hl : xs.length = n := by have := h.1; simpa using this
  subst hl
  obtain ⟨a, cap, rfl, hc⟩ := Tr.ownsRow_cells h
  refine ⟨a, cap, rfl, fun h0 => ?_⟩
  obtain ⟨b, rfl, hb, _, hcell⟩ := hc h0
  refine ⟨b, 0, rfl, hb, fun j hj => ?_⟩
  rw [Nat.zero_add, hcell j (by omega)]
  simp [List.getD, hj]

def TillL (s v r i o : Int) (j : Nat) : List Int := [s, i] ++ [-1 - v, 1, -1 - r, 1, -1 - o, 1].take (2 * j)
def TillInv (s v r i o : Int) (g3 : Nat) (B : World) (s4 s20 : Value) (wr : World) : Prop :=
  ∃ j : Nat, j ≤ 3 ∧ s20 = .int .i64 j ∧ wr.ownsRow B.heap.size 32 1 s4 (2 + 2 * j) ((TillL s v r i o j).map (Value.int .i64)) ∧
    s4.ownBlock ≠ some g3 ∧ wr.heap[g3]? = some (.cells #[.int .i64 v, .int .i64 r, .int .i64 o] 32 (0, 0)) ∧ B.heap.size ≤ g3 ∧ Below B.heap.size B wr
theorem infoC : (Tryd.prog.info? 32).map (fun i => (i.zero, i.size, i.bytes)) = some (some (.int .i64 0), 1, 8) := by kernel_rfl

set_option maxRecDepth 100000 in
set_option maxHeartbeats 4000000 in
theorem C_Till (n s v r i o : Int) (hs : I64 s) (hv : I64 v) (hr : I64 r) (hi : I64 i) (ho : I64 o) (w : World) :
    Calls Tryd.prog 20 #[.agg #[.int .i64 n, .int .i64 s, .int .i64 v, .int .i64 r, .int .i64 i, .int .i64 o]] w fun e w' =>
      e = .returned (.tuple #[.int .i64 (amt (s - v - r + i - o)), .int .i64 (amtE (s - v - r + i - o))]) ∧ Below w.heap.size w w' := by
  have HS := Lib.hid hs; have HV := Lib.hid hv; have HR := Lib.hid hr; have HI := Lib.hid hi; have HO := Lib.hid ho
  clear hs hv hr hi ho
  obtain ⟨i0, hi, hz0, hz1, hz2⟩ := info_parts infoC
  go_enter Tryd.func20, Tryd.ntmps20
  go_wp2_with fail
  go_loopw [4, 20] (fun s4 s20 wr => TillInv s v r i o (w.heap.size + 1 + 1) w s4 s20 wr) (fun _ s20 _ => 3 - (intOf s20).toNat)
  case atStart =>
    refine ⟨0, by omega, rfl, Tr.ownsRow_of_blk (cs := #[.int .i64 s, .int .i64 i]) ?_ (by omega) rfl rfl (by decide), by simp [Value.ownBlock], ?_, by omega, by (repeat (first | with_reducible assumption | (with_reducible exact Below.refl _ _) | ((with_reducible refine Tr.below_alloc ?_ ?_); rotate_left; focus (first | omega | exact Nat.le_refl _)) | (with_reducible refine Tr.below_drew ?_) | (with_reducible refine Tr.below_drewN ?_) | ((with_reducible refine Tr.below_set ?_ ?_); rotate_left; focus (first | omega | (simp; done) | (simp; omega))) | ((with_reducible refine Tr.below_trans ?_ (by assumption) ?_); rotate_left; focus (first | exact Nat.le_refl _ | omega))))⟩
    · (repeat (first | with_reducible assumption | with_reducible refine Tr.blk_drew ?_ | with_reducible refine Tr.blk_drewN ?_ | (refine Tr.blk_at ?_; focus (first | (simp; done) | (simp; omega))) | with_reducible refine Tr.blk_old ?_ | ((with_reducible refine Tr.blk_set_ne ?_ _ ?_); rotate_left; focus (first | (simp; done) | (simp; omega) | (simp; assumption)))))
    · (repeat (first | with_reducible assumption | with_reducible refine Tr.blk_drew ?_ | with_reducible refine Tr.blk_drewN ?_ | (refine Tr.blk_at ?_; focus (first | (simp; done) | (simp; omega))) | with_reducible refine Tr.blk_old ?_ | ((with_reducible refine Tr.blk_set_ne ?_ _ ?_); rotate_left; focus (first | (simp; done) | (simp; omega) | (simp; assumption)))))
  case round =>
    obtain ⟨j, hj, rfl, hown, hne, hg3, hg3B, hB⟩ := hrel
    have hBs := hB.size
    have hg3l := Tr.blk_lt hg3
    by_cases hlt : j < 3
    · obtain ⟨x, hx, hxI, hL⟩ : ∃ x, (#[.int .i64 v, .int .i64 r, .int .i64 o] : Array Value)[j]? = some (.int .i64 x) ∧ I64 x ∧ TillL s v r i o (j + 1) = TillL s v r i o j ++ [-1 - x, 1] := by
        have : j = 0 ∨ j = 1 ∨ j = 2 := by omega
        rcases this with rfl | rfl | rfl
        · exact ⟨v, rfl, HV.out, rfl⟩
        · exact ⟨r, rfl, HR.out, rfl⟩
        · exact ⟨o, rfl, HO.out, rfl⟩
      have hc : wr.cell? ⟨w.heap.size + 1 + 1, j, none⟩ = some (.int .i64 x) := by rw [Tr.cell_blk hg3, hx]
      unfold I64 at hxI
      have HL := Lib.hid hL; have HG := Lib.hid hg3; have HOWN := Lib.hid hown; have HNE := Lib.hid hne
      clear hL hx hg3 hown hne
      go_wp2_with (at_builtin; refine wpList_append_own _ rfl _ _ 77 rfl w.heap.size 32 i0 (.int .i64 0) 1 8 Tryd.underlying77 hi hz0 hz1 hz2 rfl (by decide) _ (2 + 2 * j) _ rfl (HOWN.out.alloc _) ⟨wr.heap.size, 0, none⟩ 2 2 [.int .i64 (-1 - x), .int .i64 1] rfl rfl (Tr.news_blk (Tr.blk_new _ _) rfl) (by intro u hu; simp at hu; rcases hu with rfl | rfl <;> rfl) (by unfold maxLen; omega) (by omega) (by simp; omega) ?_)
      intro v' w1 hown1 hgrow hiff
      have hB1 : Below w.heap.size w w1 := (Tr.below_alloc hB (Nat.le_refl _)).grown hgrow (by simp; omega) (fun k hk => by
        obtain ⟨a, cap, hv, hc⟩ := Tr.ownsRow_cells HOWN.out
        obtain ⟨b, rfl, _, hb, _⟩ := hc (by omega)
        rw [hv] at hk; simp [Value.ownBlock] at hk; omega)
      have hg1 : w1.heap[w.heap.size + 1 + 1]? = some (.cells #[.int .i64 v, .int .i64 r, .int .i64 o] 32 (0, 0)) := by
        rw [hgrow.block _ (by simp; omega) (fun e => HNE.out e.symm)]
        exact Tr.blk_old HG.out
      have hne1 : v'.ownBlock ≠ some (w.heap.size + 1 + 1) := by
        intro hk
        rcases hown1.2 with ⟨_, h0⟩ | ⟨g', cap', cur, hv', _, hg', hcap', _, hsz', _⟩
        · omega
        · rw [hv'] at hk
          simp [Value.ownBlock] at hk
          rw [hk, hg1] at hg'
          simp at hg'
          rw [← hg'] at hsz'
          simp at hsz'
          omega
      have HOWN1 := Lib.hid hown1; have HG1 := Lib.hid hg1; have HNE1 := Lib.hid hne1
      clear hown1 hgrow hg1 hne1 hiff hc
      go_wp2
      go_roundw
      case rel => exact ⟨j + 1, by omega, by go_num, by rw [HL.out, List.map_append]; exact HOWN1.out, HNE1.out, HG1.out, hg3B, hB1⟩
      case measure => simp [intOf]; omega
    · have : j = 3 := by omega
      subst this
      have hi3 : Ints .i64 wr _ (TillL s v r i o 3) := Ints.of_row hown
      have HI3 := Lib.hid hi3
      obtain ⟨a, cap, rfl, _⟩ := hi3
      have hsum : (TillL s v r i o 3).sum = s - v - r + i - o := by simp [TillL]; omega
      have hall : ∀ x ∈ TillL s v r i o 3, I64 x := by
        have a1 := HS.out; have a2 := HV.out; have a3 := HR.out; have a4 := HI.out; have a5 := HO.out
        intro x hx
        simp [TillL] at hx
        unfold I64 at *
        omega
      have HALL := Lib.hid hall; have HSUM := Lib.hid hsum
      clear hown hne hg3 hsum hall
      go_wp2_with (go_at_call 30; refine (C_Total _ _ _ HI3.out HALL.out (by simp [TillL])).mono ?_; rintro e w3 ⟨rfl, hb3⟩)
      go_ret2
      rw [HSUM.out]
      exact ⟨rfl, Tr.below_trans hB hb3⟩
end Go.Proofs.YtjkfkgpdlflbhaaDoor
