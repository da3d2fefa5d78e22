/- A writer of bytes. -/
import Derived.Test.YteakfibolfapiaaTrRef01
import Derived.Lib.AppendStr
namespace Go.Proofs.Yteakfibolfapiaa
open Go.RowKit Go.Sort
set_option linter.unusedVariables false
set_option linter.unusedSimpArgs false

def bcells (bs : List UInt8) : List Value := bs.map fun b => .int .u8 b.toNat
/-- What was written so far. -/
def Wr (w : World) (g : Nat) (bs : List UInt8) : Prop :=
  ∃ sv, w.heap[g]? = some (.cells #[sv, .bool false] 76 (0, 0)) ∧ w.ownsRow (g + 1) 5 1 sv bs.length (bcells bs)
/-- Only the writer and its bytes have changed, and what is new. -/
def ChgW (g : Nat) (w w' : World) : Prop := Below g w w' ∧ ∀ k cs t f, w.heap[k]? = some (.cells cs t f) → k ≠ g → t ≠ 5 → w'.heap[k]? = some (.cells cs t f)
theorem ChgW.trans {g : Nat} {w w1 w2 : World} (h : ChgW g w w1) (k : ChgW g w1 w2) : ChgW g w w2 :=
  ⟨⟨k.1.os.trans h.1.os, k.1.tape.trans h.1.tape, k.1.output.trans h.1.output, Nat.le_trans h.1.size k.1.size, fun j hj => by rw [k.1.block j hj, h.1.block j hj]⟩, fun j cs t f hj hne ht => k.2 j cs t f (h.2 j cs t f hj hne ht) hne ht⟩
theorem ChgW.of_below {g : Nat} {w w' : World} (h : Below w.heap.size w w') (hg : g ≤ w.heap.size) : ChgW g w w' :=
  ⟨⟨h.os, h.tape, h.output, h.size, fun j hj => h.block j (by omega)⟩, fun j cs t f hj hne ht => Tr.blk_keep h hj⟩
theorem Wr.lt {w : World} {g : Nat} {bs : List UInt8} (h : Wr w g bs) : g < w.heap.size := by
  obtain ⟨_, h, _⟩ := h
  exact Tr.blk_lt h
theorem Wr.keep {w w' : World} {g : Nat} {bs : List UInt8} (h : Wr w g bs) (hb : Below w.heap.size w w') : Wr w' g bs := by
  obtain ⟨sv, h1, h2⟩ := h
  exact ⟨sv, Tr.blk_keep hb h1, Tr.ownsRow_keep hb h2⟩
theorem Wr.new (w : World) : Wr (w.alloc (.cells #[.slice none 0 0, .bool false] 76)) w.heap.size [] :=
  ⟨_, Tr.blk_new _ _, by simp [bcells], .inl ⟨by simp, by simp⟩⟩

set_option maxRecDepth 100000 in
set_option maxHeartbeats 4000000 in
theorem C_put (g : Nat) (bs l : List UInt8) (w : World) (h : Wr w g bs) (hlen : bs.length + l.length ≤ 100000000000) :
    Calls Try.prog 77 #[.pointer (some ⟨g, 0, none⟩), .string ⟨l.toArray⟩, .bool true] w fun e w' => e = .returned (.pointer (some ⟨g, 0, none⟩)) ∧ Wr w' g (bs ++ l) ∧ ChgW g w w' := by
  obtain ⟨sv, hb, hown⟩ := h
  have hgl := Tr.blk_lt hb
  have hc := fun o => Tr.cell_blk (o := o) hb
  have hf := fun o => Tr.frozen_blk (o := o) hb
  have HB := Lib.hid hb; have HOWN := Lib.hid hown
  clear hb hown
  have hi0 : (Try.prog.info? 5).map (fun i => (i.zero, i.size, i.bytes)) = some (some (.int .u8 0), 1, 1) := by kernel_rfl
  obtain ⟨i0, hi, hz0, hz1, hz2⟩ := info_parts hi0
  have hown1 : (w.setCell ⟨g, 1, none⟩ (.bool false)).ownsRow (g + 1) 5 1 sv bs.length (bcells bs) := by
    have h := HOWN.out
    refine ⟨h.1, ?_⟩
    rcases h.2 with h0 | ⟨g', cap', cur', hv, hb0, hg, r⟩
    · exact .inl h0
    · exact .inr ⟨g', cap', cur', hv, hb0, by rw [Tr.heap_set_other _ ⟨g, 1, none⟩ _ _ (show g ≠ g' by omega)]; exact hg, r⟩
  have HOWN1 := Lib.hid hown1
  clear hown1
  go_enter Try.func77, Try.ntmps77
  go_wp2_with (at_builtin; refine Go.Lib.wpList_append_own_string _ rfl _ _ 74 9 rfl (g + 1) 5 i0 Try.underlying74 Try.underlying9 hi hz0 hz1 hz2 _ bs.length (bcells bs) rfl HOWN1.out ⟨l.toArray⟩ rfl ?_ ?_ ?_ ?_)
  · unfold maxLen; simp only [ByteArray.size, List.size_toArray]; omega
  · simp only [ByteArray.size, List.size_toArray]; omega
  · simp; omega
  intro v' w1 hown9 hgrow9 hiff9
  have hnb : ∀ k, sv.ownBlock = some k → g < k := fun k hk => by have := Tr.ownsRow_base HOWN.out hk; omega
  have hb1 : w1.heap[g]? = some (.cells #[sv, .bool false] 76 (0, 0)) := by
    rw [hgrow9.block g (by simp; omega) (fun e => by have := hnb g e.symm; omega)]
    rw [Tr.heap_set_same, HB.out]; rfl
  have hty : ∀ k cs t f, w.heap[k]? = some (.cells cs t f) → k ≠ g → t ≠ 5 → w1.heap[k]? = some (.cells cs t f) := by
    intro k cs t f hk hne ht
    have hkl := Tr.blk_lt hk
    rw [hgrow9.block k (by simp; omega) (fun e => ?_), Tr.heap_set_other _ ⟨g, 1, none⟩ _ _ (show g ≠ k from fun e => hne e.symm)]
    · exact hk
    · rcases HOWN.out.2 with ⟨h0, _⟩ | ⟨g', cap', cur', hv, hb0, hg, r⟩
      · rw [h0] at e; cases e
      · rw [hv] at e
        simp only [Value.ownBlock, Option.some.injEq] at e
        subst e
        rw [hg] at hk
        simp only [Option.some.injEq, Obj.cells.injEq] at hk
        exact ht hk.2.1.symm
  have hB1 : Below g w w1 := Below.grown (by (repeat (first | with_reducible assumption | (with_reducible exact Below.refl _ _) | ((with_reducible refine Tr.below_alloc ?_ ?_); rotate_left; focus (first | omega | exact Nat.le_refl _)) | (with_reducible refine Tr.below_drew ?_) | (with_reducible refine Tr.below_drewN ?_) | ((with_reducible refine Tr.below_set ?_ ?_); rotate_left; focus (first | omega | (simp; done) | (simp; omega))) | ((with_reducible refine Tr.below_trans ?_ (by assumption) ?_); rotate_left; focus (first | exact Nat.le_refl _ | omega))))) hgrow9 (by simp; omega) (fun k hk => by have := hnb k hk; omega)
  have hcells : Lib.strCells ⟨l.toArray⟩ = bcells l := by simp [Lib.strCells, bcells]
  rw [hcells] at hown9
  obtain ⟨a', cap', rfl, -⟩ := Tr.ownsRow_cells hown9
  have c1 := fun o => Tr.cell_blk (o := o) hb1
  have f1 := fun o => Tr.frozen_blk (o := o) hb1
  have HB1 := Lib.hid hb1; have HOWN9 := Lib.hid hown9; have HTY := Lib.hid hty; have HNB := Lib.hid hnb
  clear hb1 hown9 hty hgrow9 hiff9 hcells hc hf hnb
  go_wp2_with fail
  go_ret
  refine ⟨rfl, ⟨.slice a' (bs.length + l.length) cap', ?_, ?_⟩, ?_, ?_⟩
  · rw [Tr.heap_set_same, HB1.out]; rfl
  · have h := HOWN9.out
    have e : (bs ++ l).length = bs.length + l.length := by simp
    have e2 : bcells (bs ++ l) = bcells bs ++ bcells l := by simp [bcells]
    rw [e, e2]
    refine ⟨h.1, ?_⟩
    rcases h.2 with h0 | ⟨g', cap2, cur', hv, hb0, hg, r⟩
    · exact .inl h0
    · exact .inr ⟨g', cap2, cur', hv, hb0, by rw [Tr.heap_set_other _ ⟨g, 0, none⟩ _ _ (show g ≠ g' by omega)]; exact hg, r⟩
  · exact Tr.below_set hB1 (Nat.le_refl _)
  · intro k cs t f hk hne ht
    rw [Tr.heap_set_other _ ⟨g, 0, none⟩ _ _ (show g ≠ k from fun e => hne e.symm)]
    exact HTY.out k cs t f hk hne ht

set_option maxHeartbeats 1000000 in
theorem C_put_nil (s : ByteArray) (m : Bool) (w : World) : Calls Try.prog 77 #[.pointer none, .string s, .bool m] w fun e w' => e = .returned (.pointer none) ∧ Below w.heap.size w w' := by
  go_enter Try.func77, Try.ntmps77
  go_wp2_with fail
  go_ret
  exact ⟨rfl, by (repeat (first | with_reducible assumption | (with_reducible exact Below.refl _ _) | ((with_reducible refine Tr.below_alloc ?_ ?_); rotate_left; focus (first | omega | exact Nat.le_refl _)) | (with_reducible refine Tr.below_drew ?_) | (with_reducible refine Tr.below_drewN ?_) | ((with_reducible refine Tr.below_set ?_ ?_); rotate_left; focus (first | omega | (simp; done) | (simp; omega))) | ((with_reducible refine Tr.below_trans ?_ (by assumption) ?_); rotate_left; focus (first | exact Nat.le_refl _ | omega))))⟩
theorem lt64 {n k : Nat} (hn : n < 256 ^ k) (h2 : k ≤ 8) : n < 18446744073709551616 := Nat.lt_of_lt_of_le hn (show 256 ^ k ≤ 256 ^ 8 from Nat.pow_le_pow_right (by omega) h2)
set_option maxRecDepth 100000 in
set_option maxHeartbeats 4000000 in
theorem C_Number (g : Nat) (bs : List UInt8) (n k : Nat) (w : World) (h : Wr w g bs) (hn : n < 256 ^ k) (h1 : 1 ≤ k) (h2 : k ≤ 8) (hlen : bs.length ≤ 1000000000) :
    Calls Try.prog 56 #[.pointer (some ⟨g, 0, none⟩), .int .u64 n, .int .i64 k] w fun e w' => e = .returned (.pointer (some ⟨g, 0, none⟩)) ∧ Wr w' g (bs ++ BE n k) ∧ ChgW g w w' := by
  have hgl := h.lt
  have H := Lib.hid h; have HN := Lib.hid hn
  clear h hn
  go_enter Try.func56, Try.ntmps56
  go_wp2_with (first
    | (go_at_call 78; refine (C_BePut n k (lt64 HN.out h2) h1 h2 _).mono ?_; rintro e w1 ⟨rfl, hb1⟩)
    | (go_at_call 74; refine (C_BeFits_yes n k HN.out h1 h2 _).mono ?_; rintro e w2 ⟨rfl, hb2⟩)
    | (go_at_call 77; refine (C_put g bs (BE n k) _ (Wr.keep H.out (Tr.below_trans hb1 hb2)) (by rw [BE_len n k h2]; omega)).mono ?_; rintro e w3 ⟨rfl, hw3, hc3⟩))
  go_ret
  exact ⟨rfl, hw3, (ChgW.of_below (Tr.below_trans hb1 hb2) (by omega)).trans hc3⟩
set_option maxRecDepth 100000 in
set_option maxHeartbeats 4000000 in
theorem C_Number_nil (n k : Nat) (w : World) (hn : n < 256 ^ k) (h1 : 1 ≤ k) (h2 : k ≤ 8) :
    Calls Try.prog 56 #[.pointer none, .int .u64 n, .int .i64 k] w fun e w' => e = .returned (.pointer none) ∧ Below w.heap.size w w' := by
  have HN := Lib.hid hn
  clear hn
  go_enter Try.func56, Try.ntmps56
  go_wp2_with (first
    | (go_at_call 78; refine (C_BePut n k (lt64 HN.out h2) h1 h2 _).mono ?_; rintro e w1 ⟨rfl, hb1⟩)
    | (go_at_call 74; refine (C_BeFits_yes n k HN.out h1 h2 _).mono ?_; rintro e w2 ⟨rfl, hb2⟩)
    | (go_at_call 77; refine (C_put_nil _ _ _).mono ?_; rintro e w3 ⟨rfl, hb3⟩))
  go_ret
  exact ⟨rfl, Tr.below_trans (Tr.below_trans hb1 hb2) hb3⟩
set_option maxRecDepth 100000 in
set_option maxHeartbeats 4000000 in
theorem C_Signed (g : Nat) (bs : List UInt8) (n : Nat) (w : World) (h : Wr w g bs) (hn : n ≤ 9223372036854775807) (hlen : bs.length ≤ 1000000000) :
    Calls Try.prog 61 #[.pointer (some ⟨g, 0, none⟩), .int .i64 n] w fun e w' => e = .returned (.pointer (some ⟨g, 0, none⟩)) ∧ Wr w' g (bs ++ BE n 8) ∧ ChgW g w w' := by
  have hC := fun W (hW : Wr W g bs) => C_Number g bs n 8 W hW (by omega) (by omega) (by omega) hlen
  have HC := Lib.hid hC; have H := Lib.hid h
  clear hC h
  go_enter Try.func61, Try.ntmps61
  go_wp2_with (go_at_call 56; refine (HC.out _ H.out).mono ?_; rintro e w1 ⟨rfl, hw1, hc1⟩)
  go_ret
  exact ⟨rfl, hw1, hc1⟩
set_option maxRecDepth 100000 in
set_option maxHeartbeats 4000000 in
theorem C_Signed_nil (n : Nat) (w : World) (hn : n ≤ 9223372036854775807) :
    Calls Try.prog 61 #[.pointer none, .int .i64 n] w fun e w' => e = .returned (.pointer none) ∧ Below w.heap.size w w' := by
  have hC := fun W => C_Number_nil n 8 W (by omega) (by omega) (by omega)
  have HC := Lib.hid hC
  clear hC
  go_enter Try.func61, Try.ntmps61
  go_wp2_with (go_at_call 56; refine (HC.out _).mono ?_; rintro e w1 ⟨rfl, hb1⟩)
  go_ret
  exact ⟨rfl, hb1⟩
end Go.Proofs.Yteakfibolfapiaa
