/- The reference's Read. -/
import Derived.Test.YtjkfkgpdlflbhaaTrR26d
import Derived.Test.YtjkfkgpdlflbhaaTrR26b
import Derived.Deep.CutRange
namespace Go.Proofs.Ytjkfkgpdlflbhaa
open Go.RowKit Go.Sort
open Tr (Sl Chg)
set_option linter.unusedVariables false
set_option linter.unusedSimpArgs false

def pieceL (l : List UInt8) (i : Nat) : List UInt8 := (l.drop (7 + 44 * i)).take 44
def R26Inv (l : List UInt8) (keep : Int) (x o n q : Nat) (op : Bool) (B : World) (s12 : Value) (wr : World) : Prop :=
  ∃ (i k : Nat) (t : Tot) (a : Option Addr) (cap : Nat), i ≤ n + o ∧ k = min i n ∧ t = (if i ≤ n then .zero else totL (pieceL l n)) ∧ s12 = .int .i64 i ∧ (∀ j, j < i → okL (pieceL l j)) ∧
    wr.heap[q]? = some (.cells #[.int .i64 keep, .int .i64 x, .bool op, .int .i64 t.n, .int .i64 t.s, .int .i64 t.v, .int .i64 t.r, .int .i64 t.i, .int .i64 t.o, .slice a k cap] 74 (0, 0)) ∧
    wr.ownsRow (q + 1) 69 6 (.slice a k cap) k (tots ((List.range k).map fun j => totL (pieceL l j))) ∧
    wr.heap[B.heap.size]? = some (.cells #[.int .i64 0, .int .i64 0, .bool false, .int .i64 0, .int .i64 0, .int .i64 0, .int .i64 0, .int .i64 0, .int .i64 0, .slice none 0 0] 74 (0, 0)) ∧ wr.heap[B.heap.size + 1]? = some (.cells #[.int .i64 0, .int .i64 0, .bool false, .int .i64 0, .int .i64 0, .int .i64 0, .int .i64 0, .int .i64 0, .int .i64 0, .slice none 0 0] 74 (0, 0)) ∧ Below B.heap.size B wr

set_option maxRecDepth 100000 in
set_option maxHeartbeats 2000000 in
theorem C_R26Read_keep (l : List UInt8) (keep : Int) (hk : keep < 1 ∨ 64 < keep) (w : World) : Calls Try.prog 41 #[.string ⟨l.toArray⟩, .int .i64 keep] w fun e w' =>
    e = .returned (.tuple #[.agg #[.int .i64 0, .int .i64 0, .bool false, .int .i64 0, .int .i64 0, .int .i64 0, .int .i64 0, .int .i64 0, .int .i64 0, .slice none 0 0], .int .i64 0, .int .i64 2]) ∧ Below w.heap.size w w' := by
  have hk2 : keep < 1 ∨ (¬ keep < 1 ∧ 64 < keep) := by omega
  clear hk
  rcases hk2 with h | ⟨h1, h2⟩
  all_goals
    go_enter Try.func41, Try.ntmps41
    go_wp2_with fail
    refine bodyPost_ret (Tr.results_run [.cell 4 74, .tmp 5, .tmp 6] [_, _, _] rfl ⟨_, _, rfl, ⟨_, rfl, Tr.load_blk (t := 74) (fr := (0, 0)) (cs := #[.int .i64 0, .int .i64 0, .bool false, .int .i64 0, .int .i64 0, .int .i64 0, .int .i64 0, .int .i64 0, .int .i64 0, .slice none 0 0]) ?_ Try.underlying74 rfl (by kernel_rfl)⟩, _, _, rfl, rfl, _, _, rfl, rfl, rfl⟩ _ rfl) rfl ⟨rfl, ?_⟩
    · (repeat (first | with_reducible assumption | with_reducible refine Tr.blk_drew ?_ | with_reducible refine Tr.blk_drewN ?_ | (refine Tr.blk_at ?_; focus (first | (simp; done) | (simp; omega))) | with_reducible refine Tr.blk_old ?_ | ((with_reducible refine Tr.blk_set_ne ?_ _ ?_); rotate_left; focus (first | (simp; done) | (simp; omega) | (simp; assumption)))))
    · (repeat (first | with_reducible assumption | (with_reducible exact Below.refl _ _) | ((with_reducible refine Tr.below_alloc ?_ ?_); rotate_left; focus (first | omega | exact Nat.le_refl _)) | (with_reducible refine Tr.below_drew ?_) | (with_reducible refine Tr.below_drewN ?_) | ((with_reducible refine Tr.below_set ?_ ?_); rotate_left; focus (first | omega | (simp; done) | (simp; omega))) | ((with_reducible refine Tr.below_trans ?_ (by assumption) ?_); rotate_left; focus (first | exact Nat.le_refl _ | omega))))

set_option maxRecDepth 100000 in
set_option maxHeartbeats 4000000 in
theorem C_R26Read_no (l : List UInt8) (keep : Int) (k0 : 1 ≤ keep) (k1 : keep ≤ 64) (w : World) (hbad : l.length < 7 ∨ 1 < bL l 5) : Calls Try.prog 41 #[.string ⟨l.toArray⟩, .int .i64 keep] w fun e w' =>
    e = .returned (.tuple #[.agg #[.int .i64 0, .int .i64 0, .bool false, .int .i64 0, .int .i64 0, .int .i64 0, .int .i64 0, .int .i64 0, .int .i64 0, .slice none 0 0], .int .i64 0, .int .i64 4]) ∧ Below w.heap.size w w' := by
  have hsz : (ByteArray.mk l.toArray).size = l.length := by simp [ByteArray.size]
  by_cases h7 : l.length < 7
  · clear hbad
    go_enter Try.func41, Try.ntmps41
    go_wp2_with fail
    refine bodyPost_ret (Tr.results_run [.cell 4 74, .tmp 5, .tmp 6] [_, _, _] rfl ⟨_, _, rfl, ⟨_, rfl, Tr.load_blk (t := 74) (fr := (0, 0)) (cs := #[.int .i64 0, .int .i64 0, .bool false, .int .i64 0, .int .i64 0, .int .i64 0, .int .i64 0, .int .i64 0, .int .i64 0, .slice none 0 0]) ?_ Try.underlying74 rfl (by kernel_rfl)⟩, _, _, rfl, rfl, _, _, rfl, rfl, rfl⟩ _ rfl) rfl ⟨rfl, ?_⟩
    · (repeat (first | with_reducible assumption | with_reducible refine Tr.blk_drew ?_ | with_reducible refine Tr.blk_drewN ?_ | (refine Tr.blk_at ?_; focus (first | (simp; done) | (simp; omega))) | with_reducible refine Tr.blk_old ?_ | ((with_reducible refine Tr.blk_set_ne ?_ _ ?_); rotate_left; focus (first | (simp; done) | (simp; omega) | (simp; assumption)))))
    · (repeat (first | with_reducible assumption | (with_reducible exact Below.refl _ _) | ((with_reducible refine Tr.below_alloc ?_ ?_); rotate_left; focus (first | omega | exact Nat.le_refl _)) | (with_reducible refine Tr.below_drew ?_) | (with_reducible refine Tr.below_drewN ?_) | ((with_reducible refine Tr.below_set ?_ ?_); rotate_left; focus (first | omega | (simp; done) | (simp; omega))) | ((with_reducible refine Tr.below_trans ?_ (by assumption) ?_); rotate_left; focus (first | exact Nat.le_refl _ | omega))))
  · obtain ⟨o, ho⟩ : ∃ o, o = bL l 5 := ⟨_, rfl⟩
    have ho1 : 1 < o := by omega
    have h5 : ∀ W, (Instr.index 9 (.string ⟨l.toArray⟩) (.int .i64 5)).run Try.prog W = .ok (.int .u8 (o : Nat)) W := fun W => by
      rw [run_index_string W 9 _ _ _ Try.underlying9, dif_pos (by rw [hsz]; omega), ho]
      simp [bL, List.getD, show 5 < l.length by omega]
      rfl
    have h5' : ((ByteArray.mk l.toArray)[5]'(by rw [hsz]; omega)).toNat = o := by
      rw [ho]
      simp [bL, List.getD, show 5 < l.length by omega]
      rfl
    clear hbad ho
    go_enter Try.func41, Try.ntmps41
    go_wp2_with fail
    refine bodyPost_ret (Tr.results_run [.cell 4 74, .tmp 5, .tmp 6] [_, _, _] rfl ⟨_, _, rfl, ⟨_, rfl, Tr.load_blk (t := 74) (fr := (0, 0)) (cs := #[.int .i64 0, .int .i64 0, .bool false, .int .i64 0, .int .i64 0, .int .i64 0, .int .i64 0, .int .i64 0, .int .i64 0, .slice none 0 0]) ?_ Try.underlying74 rfl (by kernel_rfl)⟩, _, _, rfl, rfl, _, _, rfl, rfl, rfl⟩ _ rfl) rfl ⟨rfl, ?_⟩
    · (repeat (first | with_reducible assumption | with_reducible refine Tr.blk_drew ?_ | with_reducible refine Tr.blk_drewN ?_ | (refine Tr.blk_at ?_; focus (first | (simp; done) | (simp; omega))) | with_reducible refine Tr.blk_old ?_ | ((with_reducible refine Tr.blk_set_ne ?_ _ ?_); rotate_left; focus (first | (simp; done) | (simp; omega) | (simp; assumption)))))
    · (repeat (first | with_reducible assumption | (with_reducible exact Below.refl _ _) | ((with_reducible refine Tr.below_alloc ?_ ?_); rotate_left; focus (first | omega | exact Nat.le_refl _)) | (with_reducible refine Tr.below_drew ?_) | (with_reducible refine Tr.below_drewN ?_) | ((with_reducible refine Tr.below_set ?_ ?_); rotate_left; focus (first | omega | (simp; done) | (simp; omega))) | ((with_reducible refine Tr.below_trans ?_ (by assumption) ?_); rotate_left; focus (first | exact Nat.le_refl _ | omega))))
end Go.Proofs.Ytjkfkgpdlflbhaa
