/- The reference's fields' bytes. -/
import Derived.Test.YtjkfkgpdlflbhaaTrCur
namespace Go.Proofs.Ytjkfkgpdlflbhaa
open Go.RowKit Go.Sort
open Tr (Sl Chg)
set_option linter.unusedVariables false
set_option linter.unusedSimpArgs false

/-- A field without a text. -/
structure Fld where
  k : Nat
  w : Nat
  n : Nat
def Fld.cells (f : Fld) : List Value := [.int .i64 (f.k : Nat), .int .i64 (f.w : Nat), .int .u64 (f.n : Nat), .string ⟨#[]⟩]
def Fld.width (f : Fld) : Nat := if f.k = 1 then 8 else f.w
def Fld.bytes (f : Fld) : List UInt8 := BE f.n f.width
def Fld.ok (f : Fld) : Prop := f.k ≤ 1 ∧ 1 ≤ f.width ∧ f.width ≤ 8 ∧ f.n < 256 ^ f.width
def fcs (l : List Fld) : List Value := l.flatMap Fld.cells
theorem fcs_len (l : List Fld) : (fcs l).length = l.length * 4 := by
  induction l with
  | nil => rfl
  | cons t l ih => unfold fcs at *; rw [List.flatMap_cons, List.length_append, ih, List.length_cons]; simp [Fld.cells]; omega
theorem fcs_app (l m : List Fld) : fcs (l ++ m) = fcs l ++ fcs m := by simp [fcs]
theorem fcs_one (l : List Fld) : ∀ u ∈ fcs l, u.oneCell' = true := by
  intro u hu
  unfold fcs at hu
  rw [List.mem_flatMap] at hu
  obtain ⟨f, -, h⟩ := hu
  simp [Fld.cells] at h
  rcases h with rfl | rfl | rfl | rfl <;> rfl
theorem fcs_at (l : List Fld) : ∀ (i : Nat) (hi : i < l.length) (j : Nat), j < 4 → (fcs l)[i * 4 + j]? = (Fld.cells l[i])[j]? := by
  induction l with
  | nil => intro i hi; simp at hi
  | cons t l ih =>
    intro i hi j hj
    unfold fcs at *
    rw [List.flatMap_cons]
    cases i with
    | zero =>
      rw [List.getElem?_append_left (by simp [Fld.cells]; omega)]
      simp
    | succ i =>
      rw [List.getElem?_append_right (by simp [Fld.cells]; omega)]
      have : (i + 1) * 4 + j - (Fld.cells t).length = i * 4 + j := by simp [Fld.cells]; omega
      rw [this, ih i (by simpa using hi) j hj]
      simp
theorem fb_len (l : List Fld) (h : ∀ f ∈ l, f.ok) : (l.flatMap Fld.bytes).length ≤ 8 * l.length := by
  induction l with
  | nil => simp
  | cons t l ih =>
    have ht := h t (by simp)
    have := ih (fun f hf => h f (by simp [hf]))
    rw [List.flatMap_cons, List.length_append, List.length_cons]
    unfold Fld.bytes
    rw [BE_len _ _ ht.2.2.1]
    have := ht.2.2.1
    unfold Fld.bytes at *
    omega

set_option maxRecDepth 100000 in
set_option maxHeartbeats 8000000 in
theorem C_R04Write (l : List Fld) (a : Option Addr) (cap : Nat) (w : World) (hl : Sl 118 4 w (.slice a l.length cap) l.length (fcs l)) (hok : ∀ f ∈ l, f.ok) (hlen : l.length ≤ 1000000) :
    Calls Try.prog 58 #[.slice a l.length cap] w fun e w' => e = .returned (.tuple #[.string ⟨(l.flatMap Fld.bytes).toArray⟩, .bool true]) ∧ Below w.heap.size w w' := by
  have hbl : ∀ i, ((l.take i).flatMap Fld.bytes).length ≤ 8000000 := fun i => by
    have := fb_len (l.take i) (fun f hf => hok f (List.mem_of_mem_take hf))
    rw [List.length_take] at this
    omega
  obtain ⟨T, hT⟩ : ∃ T, T = (l.flatMap Fld.bytes).toArray := ⟨_, rfl⟩
  rw [← hT]
  have HT := Lib.hid hT
  obtain ⟨a', cap', hv, hcap, hll, h1, hcell⟩ := hl
  simp only [Value.slice.injEq] at hv
  obtain ⟨rfl, -, rfl⟩ := hv
  have HOK := Lib.hid hok; have HBL := Lib.hid hbl; have HC := Lib.hid hcell
  clear hT hok hbl hcell hll h1
  go_enter Try.func58, Try.ntmps58
  go_wp2_with fail
  go_loopw [4, 5] (fun s4 s5 wr => ∃ i : Nat, i ≤ l.length ∧ s4 = .string ⟨((l.take i).flatMap Fld.bytes).toArray⟩ ∧ s5 = .int .i64 i ∧ Below w.heap.size w wr) (fun _ s5 _ => l.length - (intOf s5).toNat)
  case atStart => exact ⟨0, Nat.zero_le _, by simp, rfl, Below.refl _ _⟩
  case round =>
    obtain ⟨i, hi, rfl, rfl, hB⟩ := hrel
    by_cases hlt : i < l.length
    · obtain ⟨g, off, cs, fz, rfl, hg, hcs⟩ := HC.out (by omega)
      obtain ⟨t, ht⟩ : ∃ t, t = l[i] := ⟨_, rfl⟩
      have hgr := Tr.blk_keep hB hg
      have hcw : ∀ j, j < 4 → wr.cell? ⟨g, off + i * 4 + j, none⟩ = (Fld.cells t)[j]? := fun j hj => by
        rw [Tr.cell_blk hgr, Nat.add_assoc, hcs _ (by omega), fcs_at _ _ hlt _ hj, ht]
      have htok := HOK.out t (by rw [ht]; exact List.getElem_mem _)
      have htk : (l.take (i + 1)).flatMap Fld.bytes = (l.take i).flatMap Fld.bytes ++ Fld.bytes t := by
        rw [List.take_succ_eq_append_getElem hlt, List.flatMap_append, ht]; simp
      have hS := HBL.out i
      generalize hSS : (l.take i).flatMap Fld.bytes = S at *
      obtain ⟨k, fw, n⟩ := t
      obtain ⟨hk, hw1, hw8, hn⟩ := htok
      simp only [Fld.cells] at hcw
      have q0 := hcw 0 (by omega)
      have q1 := hcw 1 (by omega)
      have q2 := hcw 2 (by omega)
      have q3 := hcw 3 (by omega)
      simp only [Nat.add_zero] at q0 q1 q2 q3
      have HTK := Lib.hid htk; have HSS := Lib.hid hSS; have HHT := Lib.hid ht; have HCS := Lib.hid hcs; have HG := Lib.hid hg; have HB := Lib.hid hB
      clear htk hSS ht hcw hcs hg hgr hB
      have hk' : k = 0 ∨ k = 1 := by dsimp only at hk; omega
      rcases hk' with rfl | rfl
      · have ew : Fld.width ⟨0, fw, n⟩ = fw := by simp [Fld.width]
        have eb : Fld.bytes ⟨0, fw, n⟩ = BE n fw := by simp [Fld.bytes, Fld.width]
        rw [ew] at hw1 hw8 hn
        rw [eb] at HTK
        dsimp only at hw1 hw8 hn q0 q1 q2 q3
        have hsz1 : ¬ 9223372036854775807 < (ByteArray.mk S.toArray).size + (ByteArray.mk (BE n fw).toArray).size := by simp only [ByteArray.size, List.size_toArray]; rw [BE_len n fw hw8]; omega
        have hadd : ∀ W, (Op.stringOp .add ⟨S.toArray⟩ ⟨(BE n fw).toArray⟩).run Try.prog W = .ok (.string (⟨S.toArray⟩ ++ ⟨(BE n fw).toArray⟩)) W := fun W => by rw [run_string_add_if, if_neg hsz1]
        have hF := fun W => C_R01Fits_yes n fw hn hw1 hw8 W
        have hP := fun W => C_R01Put n fw (lt64 hn hw8) hw1 hw8 W
        have HF := Lib.hid hF; have HP := Lib.hid hP
        clear hF hP ew eb hn
        go_wp2_with (first
          | (go_at_call 71; refine (HF.out _).mono ?_; rintro e w1 ⟨rfl, hb1⟩; have b1 := Tr.blk_keep hb1 (Tr.blk_new _ _); have c1 := fun o => Tr.cell_blk (o := o) b1; have B1 := Lib.hid b1; clear b1)
          | (go_at_call 72; refine (HP.out _).mono ?_; rintro e w2 ⟨rfl, hb2⟩)
          | fail)
        go_roundw
        case rel =>
          refine ⟨i + 1, by omega, ?_, by go_num, Tr.below_trans (Tr.below_trans (Tr.below_alloc HB.out (Nat.le_refl _)) hb1) hb2⟩
          rw [HTK.out]
          congr 1
        case measure => simp [intOf]; omega
      · have ew : Fld.width ⟨1, fw, n⟩ = 8 := by simp [Fld.width]
        have eb : Fld.bytes ⟨1, fw, n⟩ = BE n 8 := by simp [Fld.bytes, Fld.width]
        rw [ew] at hw1 hw8 hn
        rw [eb] at HTK
        dsimp only at hw1 hw8 hn q0 q1 q2 q3
        have hsz1 : ¬ 9223372036854775807 < (ByteArray.mk S.toArray).size + (ByteArray.mk (BE n 8).toArray).size := by simp only [ByteArray.size, List.size_toArray]; rw [BE_len n 8 hw8]; omega
        have hadd : ∀ W, (Op.stringOp .add ⟨S.toArray⟩ ⟨(BE n 8).toArray⟩).run Try.prog W = .ok (.string (⟨S.toArray⟩ ++ ⟨(BE n 8).toArray⟩)) W := fun W => by rw [run_string_add_if, if_neg hsz1]
        have hF := fun W => C_R01Fits_yes n 8 hn hw1 hw8 W
        have hP := fun W => C_R01Put n 8 (lt64 hn hw8) hw1 hw8 W
        have HF := Lib.hid hF; have HP := Lib.hid hP
        clear hF hP ew eb hn
        go_wp2_with (first
          | (go_at_call 71; refine (HF.out _).mono ?_; rintro e w1 ⟨rfl, hb1⟩; have b1 := Tr.blk_keep hb1 (Tr.blk_new _ _); have c1 := fun o => Tr.cell_blk (o := o) b1; have B1 := Lib.hid b1; clear b1)
          | (go_at_call 72; refine (HP.out _).mono ?_; rintro e w2 ⟨rfl, hb2⟩)
          | fail)
        go_roundw
        case rel =>
          refine ⟨i + 1, by omega, ?_, by go_num, Tr.below_trans (Tr.below_trans (Tr.below_alloc HB.out (Nat.le_refl _)) hb1) hb2⟩
          rw [HTK.out]
          congr 1
        case measure => simp [intOf]; omega
    · have hie : i = l.length := by omega
      subst hie
      go_wp2_with fail
      go_ret2
      refine ⟨?_, hB⟩
      rw [HT.out, List.take_length]
      rfl
end Go.Proofs.Ytjkfkgpdlflbhaa
