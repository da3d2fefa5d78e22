/- Totals of a reader. -/
import Derived.Test.YtjkfkgpdlflbhaaTrRd2
import Derived.Test.YtjkfkgpdlflbhaaTrShift1
namespace Go.Proofs.Ytjkfkgpdlflbhaa
open Go.RowKit Go.Sort
open Tr (Sl Chg)
set_option linter.unusedVariables false
set_option linter.unusedSimpArgs false

/-- The reader behind the number and so many sums. -/
def rdSt (s : List UInt8 × Bool) : Nat → List UInt8 × Bool
  | 0 => (rdNum 4 s).2
  | i + 1 => (rdNum 8 (rdSt s i)).2
def rdV (s : List UInt8 × Bool) (i : Nat) : Int := sg64 (rdNum 8 (rdSt s i)).1
def rdTot (s : List UInt8 × Bool) : Tot := ⟨(rdNum 4 s).1, rdV s 0, rdV s 1, rdV s 2, rdV s 3, rdV s 4⟩
def rdOk (s : List UInt8 × Bool) : Prop := 0 ≤ rdV s 0 ∧ 0 ≤ rdV s 1 ∧ 0 ≤ rdV s 2 ∧ 0 ≤ rdV s 3 ∧ 0 ≤ rdV s 4
def rdCells (s : List UInt8 × Bool) (i : Nat) : Array Value := #[.int .i64 (rdNum 4 s).1, .int .i64 (if 0 < i then rdV s 0 else 0), .int .i64 (if 1 < i then rdV s 1 else 0), .int .i64 (if 2 < i then rdV s 2 else 0), .int .i64 (if 3 < i then rdV s 3 else 0), .int .i64 (if 4 < i then rdV s 4 else 0)]
def RdInv (s : List UInt8 × Bool) (g b4 : Nat) (B : World) (s17 : Value) (wr : World) : Prop :=
  ∃ i : Nat, i ≤ 5 ∧ s17 = .int .i64 i ∧ (∀ j, j < i → 0 ≤ rdV s j) ∧ Rd wr g (rdSt s i) ∧ wr.heap[b4]? = some (.cells (rdCells s i) 55 (0, 0)) ∧
    wr.heap[B.heap.size]? = some (.cells #[.int .i64 0, .int .i64 0, .int .i64 0, .int .i64 0, .int .i64 0, .int .i64 0] 55 (0, 0)) ∧ Chg g B wr

set_option maxRecDepth 100000 in
set_option maxHeartbeats 8000000 in
theorem C_read (g : Nat) (s : List UInt8 × Bool) (w : World) (h : Rd w g s) : Calls Try.prog 60 #[.pointer (some ⟨g, 0, none⟩)] w fun e w' =>
    ((rdOk s ∧ e = .returned (.tuple #[(rdTot s).val, .bool true]) ∧ Rd w' g (rdSt s 5)) ∨ (¬ rdOk s ∧ e = .returned (.tuple #[Tot.zero.val, .bool false]))) ∧ Chg g w w' := by
  have hgl := Tr.blk_lt h
  have hn := NUM_lt (rdTake 4 s).1 4 (rdTake_len 4 s)
  have hN : ∀ W, Rd W g s → Calls Try.prog 59 #[.pointer (some ⟨g, 0, none⟩), .int .i64 4] W _ := fun W hW => C_RdNumber g 4 s W hW (by omega) (by omega)
  have hn' : (rdNum 4 s).1 < 4294967296 := hn
  obtain ⟨m, hm⟩ : ∃ m, m = (rdNum 4 s).1 := ⟨_, rfl⟩
  rw [← hm] at hN hn'
  have HN := Lib.hid hN; have H := Lib.hid h; have HM := Lib.hid hm
  clear hN h hm hn
  go_enter Try.func60, Try.ntmps60
  go_wp2_with (go_at_call 59; have hk := HN.out (w.alloc (.cells #[.int .i64 0, .int .i64 0, .int .i64 0, .int .i64 0, .int .i64 0, .int .i64 0] 55)) (Rd.keep H.out (Tr.below_alloc (Below.refl _ _) (Nat.le_refl _))); refine Calls.mono hk ?_; rintro e w1 ⟨rfl, hr1, hc1⟩; have t1 := hc1.keep (Tr.blk_new _ _) (show w.heap.size ≠ g by omega); have T1 := Lib.hid t1; have HR1 := Lib.hid hr1; have HC1 := Lib.hid hc1; have lt1 := Tr.blk_lt t1; clear t1 hr1 hc1 hk)
  have hr4 : Rd (w1.alloc (.cells #[.int .i64 m, .int .i64 0, .int .i64 0, .int .i64 0, .int .i64 0, .int .i64 0] 55)) g (rdSt s 0) := Rd.keep HR1.out (Tr.below_alloc (Below.refl _ _) (Nat.le_refl _))
  have t4 := Tr.blk_old (x := .cells #[.int .i64 m, .int .i64 0, .int .i64 0, .int .i64 0, .int .i64 0, .int .i64 0] 55) T1.out
  have n4 := Tr.blk_new w1 (.cells #[.int .i64 m, .int .i64 0, .int .i64 0, .int .i64 0, .int .i64 0, .int .i64 0] 55)
  have hc4 : Chg g w (w1.alloc (.cells #[.int .i64 m, .int .i64 0, .int .i64 0, .int .i64 0, .int .i64 0, .int .i64 0] 55)) := (((Chg.refl g w).alloc _).trans HC1.out).alloc _
  have HR4 := Lib.hid hr4; have T4 := Lib.hid t4; have N4 := Lib.hid n4; have HC4 := Lib.hid hc4
  clear hr4 t4 n4 hc4
  have hg4 : g ≠ w1.heap.size := by omega
  have h24 : w.heap.size ≠ w1.heap.size := by omega
  have hle4 : w.heap.size ≤ w1.heap.size := by omega
  generalize w1.alloc (.cells #[.int .i64 m, .int .i64 0, .int .i64 0, .int .i64 0, .int .i64 0, .int .i64 0] 55) = W4 at *
  generalize w1.heap.size = b4 at *
  go_loopw [17] (fun s17 wr => RdInv s g b4 w s17 wr) (fun s17 _ => 5 - (intOf s17).toNat)
  case atStart => exact ⟨0, by omega, rfl, fun j hj => by omega, HR4.out, by rw [N4.out]; unfold rdCells; rw [← HM.out]; rfl, T4.out, HC4.out⟩
  case round =>
    clear HR4 T4 N4 HC4 HR1 T1 HC1
    obtain ⟨j, hj, rfl, hpos, hr, b, t, hc⟩ := hrel
    have lb := Tr.blk_lt b
    have lt := Tr.blk_lt t
    have HPOS := Lib.hid hpos; have HR := Lib.hid hr; have B4 := Lib.hid b; have T2 := Lib.hid t; have HC := Lib.hid hc
    clear hpos hr b t hc
    by_cases hlt : j < 5
    · have : j = 0 ∨ j = 1 ∨ j = 2 ∨ j = 3 ∨ j = 4 := by omega
      have hx0 : ∀ W, (Instr.index 141 (.agg #[.pointer (some ⟨b4, 1, none⟩), .pointer (some ⟨b4, 2, none⟩), .pointer (some ⟨b4, 3, none⟩), .pointer (some ⟨b4, 4, none⟩), .pointer (some ⟨b4, 5, none⟩)]) (.int .i64 0)).run Try.prog W = .ok (.pointer (some ⟨b4, 1, none⟩)) W := fun W => by kernel_rfl
      have hx1 : ∀ W, (Instr.index 141 (.agg #[.pointer (some ⟨b4, 1, none⟩), .pointer (some ⟨b4, 2, none⟩), .pointer (some ⟨b4, 3, none⟩), .pointer (some ⟨b4, 4, none⟩), .pointer (some ⟨b4, 5, none⟩)]) (.int .i64 1)).run Try.prog W = .ok (.pointer (some ⟨b4, 2, none⟩)) W := fun W => by kernel_rfl
      have hx2 : ∀ W, (Instr.index 141 (.agg #[.pointer (some ⟨b4, 1, none⟩), .pointer (some ⟨b4, 2, none⟩), .pointer (some ⟨b4, 3, none⟩), .pointer (some ⟨b4, 4, none⟩), .pointer (some ⟨b4, 5, none⟩)]) (.int .i64 2)).run Try.prog W = .ok (.pointer (some ⟨b4, 3, none⟩)) W := fun W => by kernel_rfl
      have hx3 : ∀ W, (Instr.index 141 (.agg #[.pointer (some ⟨b4, 1, none⟩), .pointer (some ⟨b4, 2, none⟩), .pointer (some ⟨b4, 3, none⟩), .pointer (some ⟨b4, 4, none⟩), .pointer (some ⟨b4, 5, none⟩)]) (.int .i64 3)).run Try.prog W = .ok (.pointer (some ⟨b4, 4, none⟩)) W := fun W => by kernel_rfl
      have hx4 : ∀ W, (Instr.index 141 (.agg #[.pointer (some ⟨b4, 1, none⟩), .pointer (some ⟨b4, 2, none⟩), .pointer (some ⟨b4, 3, none⟩), .pointer (some ⟨b4, 4, none⟩), .pointer (some ⟨b4, 5, none⟩)]) (.int .i64 4)).run Try.prog W = .ok (.pointer (some ⟨b4, 5, none⟩)) W := fun W => by kernel_rfl
      have hS := C_RdSigned g (rdSt s j) wr HR.out
      change Calls _ _ _ _ (fun e w' => e = .returned (.int .i64 (rdV s j)) ∧ Rd w' g (rdSt s (j + 1)) ∧ Chg g wr w') at hS
      obtain ⟨V, hV⟩ : ∃ V, V = rdV s j := ⟨_, rfl⟩
      rw [← hV] at hS
      have HS := Lib.hid hS; have HV := Lib.hid hV
      clear hS hV
      rcases this with rfl | rfl | rfl | rfl | rfl
      · have hcells : rdCells s 0 = #[.int .i64 (rdNum 4 s).1, .int .i64 0, .int .i64 0, .int .i64 0, .int .i64 0, .int .i64 0] := by simp [rdCells]
        rw [hcells] at B4
        clear hcells
        by_cases hneg : V < 0
        · have hno : ¬ rdOk s := by
            have hv := HV.out
            rintro ⟨g0, g1, g2, g3, g4⟩
            omega
          have hneg' : decide (V < 0) = true := by simpa using hneg
          go_wp2_with (go_at_call 75; have hk := HS.out; refine Calls.mono hk ?_; rintro e w2 ⟨rfl, hr2, hc2⟩; have b2 := hc2.keep B4.out (Ne.symm hg4); have lb2 := Tr.blk_lt b2; have cb2 := fun o => Tr.cell_blk (o := o) b2; have fb2 := fun o => Tr.frozen_blk (o := o) b2; have t2 := hc2.keep T2.out (show w.heap.size ≠ g by omega); have ct2 := fun o => Tr.cell_blk (o := o) t2; have ft2 := fun o => Tr.frozen_blk (o := o) t2; have lt2 := Tr.blk_lt t2; have B2 := Lib.hid b2; have T22 := Lib.hid t2; have HC2 := Lib.hid hc2; have HR2 := Lib.hid hr2; clear hr2 hc2 b2 t2 hk)
          refine bodyPost_ret (Tr.results_run [.cell 2 55, .tmp 3] [_, _] rfl ⟨_, _, rfl, ⟨_, rfl, Tr.load_blk (t := 55) (fr := (0, 0)) (cs := #[.int .i64 0, .int .i64 0, .int .i64 0, .int .i64 0, .int .i64 0, .int .i64 0]) ?_ Try.underlying55 rfl (by kernel_rfl)⟩, _, _, rfl, rfl, rfl⟩ _ rfl) rfl ⟨.inr ⟨hno, rfl⟩, ?_⟩
          · have t2 := T22.out
            simp only [Tr.heap_set_same, Tr.heap_set_other _ ⟨b4, _, none⟩ _ _ (Ne.symm h24), t2, Option.map_some, Tr.setObj]
            try simp
          · have hcc := HC.out.trans HC2.out
            (repeat (first | with_reducible assumption | (with_reducible exact Tr.Chg.refl _ _) | (with_reducible refine Tr.Chg.set ?_ _ _) | (with_reducible refine Tr.Chg.alloc ?_ _) | (with_reducible refine Tr.Chg.drew ?_) | (with_reducible refine Tr.Chg.drewN ?_) | ((with_reducible refine Tr.Chg.set_new ?_ _ ?_); rotate_left; focus (first | omega | (simp; done) | (simp; omega))) | (with_reducible refine Tr.Chg.grown ?_ (by assumption)) | (with_reducible refine Tr.Chg.trans ?_ (by assumption))))
        · have hneg' : decide (V < 0) = false := by simpa using hneg
          go_wp2_with (go_at_call 75; have hk := HS.out; refine Calls.mono hk ?_; rintro e w2 ⟨rfl, hr2, hc2⟩; have b2 := hc2.keep B4.out (Ne.symm hg4); have lb2 := Tr.blk_lt b2; have cb2 := fun o => Tr.cell_blk (o := o) b2; have fb2 := fun o => Tr.frozen_blk (o := o) b2; have t2 := hc2.keep T2.out (show w.heap.size ≠ g by omega); have ct2 := fun o => Tr.cell_blk (o := o) t2; have ft2 := fun o => Tr.frozen_blk (o := o) t2; have lt2 := Tr.blk_lt t2; have B2 := Lib.hid b2; have T22 := Lib.hid t2; have HC2 := Lib.hid hc2; have HR2 := Lib.hid hr2; clear hr2 hc2 b2 t2 hk)
          go_roundw
          case rel =>
            have hV := HV.out
            have b2 := B2.out
            have t2 := T22.out
            have hr2 := HR2.out
            have hcc := HC.out.trans HC2.out
            refine ⟨1, by omega, rfl, ?_, ?_, ?_, ?_, ?_⟩
            · intro i hi
              rcases Nat.lt_or_ge i 0 with h | h
              · exact HPOS.out i h
              · rw [show i = 0 by omega]; omega
            · refine Tr.blk_set_ne hr2 _ ?_
              exact Ne.symm hg4
            · have hcells2 : rdCells s 1 = #[.int .i64 (rdNum 4 s).1, .int .i64 (rdV s 0), .int .i64 0, .int .i64 0, .int .i64 0, .int .i64 0] := by simp [rdCells]
              rw [hcells2, ← hV]
              (simp only [Tr.heap_set_same, b2, Option.map_some, Tr.setObj]; simp [])
            · refine Tr.blk_set_ne t2 _ ?_
              exact Ne.symm h24
            · (repeat (first | with_reducible assumption | (with_reducible exact Tr.Chg.refl _ _) | (with_reducible refine Tr.Chg.set ?_ _ _) | (with_reducible refine Tr.Chg.alloc ?_ _) | (with_reducible refine Tr.Chg.drew ?_) | (with_reducible refine Tr.Chg.drewN ?_) | ((with_reducible refine Tr.Chg.set_new ?_ _ ?_); rotate_left; focus (first | omega | (simp; done) | (simp; omega))) | (with_reducible refine Tr.Chg.grown ?_ (by assumption)) | (with_reducible refine Tr.Chg.trans ?_ (by assumption))))
          case measure => simp [intOf]
      · have hcells : rdCells s 1 = #[.int .i64 (rdNum 4 s).1, .int .i64 (rdV s 0), .int .i64 0, .int .i64 0, .int .i64 0, .int .i64 0] := by simp [rdCells]
        rw [hcells] at B4
        clear hcells
        by_cases hneg : V < 0
        · have hno : ¬ rdOk s := by
            have hv := HV.out
            rintro ⟨g0, g1, g2, g3, g4⟩
            omega
          have hneg' : decide (V < 0) = true := by simpa using hneg
          go_wp2_with (go_at_call 75; have hk := HS.out; refine Calls.mono hk ?_; rintro e w2 ⟨rfl, hr2, hc2⟩; have b2 := hc2.keep B4.out (Ne.symm hg4); have lb2 := Tr.blk_lt b2; have cb2 := fun o => Tr.cell_blk (o := o) b2; have fb2 := fun o => Tr.frozen_blk (o := o) b2; have t2 := hc2.keep T2.out (show w.heap.size ≠ g by omega); have ct2 := fun o => Tr.cell_blk (o := o) t2; have ft2 := fun o => Tr.frozen_blk (o := o) t2; have lt2 := Tr.blk_lt t2; have B2 := Lib.hid b2; have T22 := Lib.hid t2; have HC2 := Lib.hid hc2; have HR2 := Lib.hid hr2; clear hr2 hc2 b2 t2 hk)
          refine bodyPost_ret (Tr.results_run [.cell 2 55, .tmp 3] [_, _] rfl ⟨_, _, rfl, ⟨_, rfl, Tr.load_blk (t := 55) (fr := (0, 0)) (cs := #[.int .i64 0, .int .i64 0, .int .i64 0, .int .i64 0, .int .i64 0, .int .i64 0]) ?_ Try.underlying55 rfl (by kernel_rfl)⟩, _, _, rfl, rfl, rfl⟩ _ rfl) rfl ⟨.inr ⟨hno, rfl⟩, ?_⟩
          · have t2 := T22.out
            simp only [Tr.heap_set_same, Tr.heap_set_other _ ⟨b4, _, none⟩ _ _ (Ne.symm h24), t2, Option.map_some, Tr.setObj]
            try simp
          · have hcc := HC.out.trans HC2.out
            (repeat (first | with_reducible assumption | (with_reducible exact Tr.Chg.refl _ _) | (with_reducible refine Tr.Chg.set ?_ _ _) | (with_reducible refine Tr.Chg.alloc ?_ _) | (with_reducible refine Tr.Chg.drew ?_) | (with_reducible refine Tr.Chg.drewN ?_) | ((with_reducible refine Tr.Chg.set_new ?_ _ ?_); rotate_left; focus (first | omega | (simp; done) | (simp; omega))) | (with_reducible refine Tr.Chg.grown ?_ (by assumption)) | (with_reducible refine Tr.Chg.trans ?_ (by assumption))))
        · have hneg' : decide (V < 0) = false := by simpa using hneg
          go_wp2_with (go_at_call 75; have hk := HS.out; refine Calls.mono hk ?_; rintro e w2 ⟨rfl, hr2, hc2⟩; have b2 := hc2.keep B4.out (Ne.symm hg4); have lb2 := Tr.blk_lt b2; have cb2 := fun o => Tr.cell_blk (o := o) b2; have fb2 := fun o => Tr.frozen_blk (o := o) b2; have t2 := hc2.keep T2.out (show w.heap.size ≠ g by omega); have ct2 := fun o => Tr.cell_blk (o := o) t2; have ft2 := fun o => Tr.frozen_blk (o := o) t2; have lt2 := Tr.blk_lt t2; have B2 := Lib.hid b2; have T22 := Lib.hid t2; have HC2 := Lib.hid hc2; have HR2 := Lib.hid hr2; clear hr2 hc2 b2 t2 hk)
          go_roundw
          case rel =>
            have hV := HV.out
            have b2 := B2.out
            have t2 := T22.out
            have hr2 := HR2.out
            have hcc := HC.out.trans HC2.out
            refine ⟨2, by omega, rfl, ?_, ?_, ?_, ?_, ?_⟩
            · intro i hi
              rcases Nat.lt_or_ge i 1 with h | h
              · exact HPOS.out i h
              · rw [show i = 1 by omega]; omega
            · refine Tr.blk_set_ne hr2 _ ?_
              exact Ne.symm hg4
            · have hcells2 : rdCells s 2 = #[.int .i64 (rdNum 4 s).1, .int .i64 (rdV s 0), .int .i64 (rdV s 1), .int .i64 0, .int .i64 0, .int .i64 0] := by simp [rdCells]
              rw [hcells2, ← hV]
              (simp only [Tr.heap_set_same, b2, Option.map_some, Tr.setObj]; simp [])
            · refine Tr.blk_set_ne t2 _ ?_
              exact Ne.symm h24
            · (repeat (first | with_reducible assumption | (with_reducible exact Tr.Chg.refl _ _) | (with_reducible refine Tr.Chg.set ?_ _ _) | (with_reducible refine Tr.Chg.alloc ?_ _) | (with_reducible refine Tr.Chg.drew ?_) | (with_reducible refine Tr.Chg.drewN ?_) | ((with_reducible refine Tr.Chg.set_new ?_ _ ?_); rotate_left; focus (first | omega | (simp; done) | (simp; omega))) | (with_reducible refine Tr.Chg.grown ?_ (by assumption)) | (with_reducible refine Tr.Chg.trans ?_ (by assumption))))
          case measure => simp [intOf]
      · have hcells : rdCells s 2 = #[.int .i64 (rdNum 4 s).1, .int .i64 (rdV s 0), .int .i64 (rdV s 1), .int .i64 0, .int .i64 0, .int .i64 0] := by simp [rdCells]
        rw [hcells] at B4
        clear hcells
        by_cases hneg : V < 0
        · have hno : ¬ rdOk s := by
            have hv := HV.out
            rintro ⟨g0, g1, g2, g3, g4⟩
            omega
          have hneg' : decide (V < 0) = true := by simpa using hneg
          go_wp2_with (go_at_call 75; have hk := HS.out; refine Calls.mono hk ?_; rintro e w2 ⟨rfl, hr2, hc2⟩; have b2 := hc2.keep B4.out (Ne.symm hg4); have lb2 := Tr.blk_lt b2; have cb2 := fun o => Tr.cell_blk (o := o) b2; have fb2 := fun o => Tr.frozen_blk (o := o) b2; have t2 := hc2.keep T2.out (show w.heap.size ≠ g by omega); have ct2 := fun o => Tr.cell_blk (o := o) t2; have ft2 := fun o => Tr.frozen_blk (o := o) t2; have lt2 := Tr.blk_lt t2; have B2 := Lib.hid b2; have T22 := Lib.hid t2; have HC2 := Lib.hid hc2; have HR2 := Lib.hid hr2; clear hr2 hc2 b2 t2 hk)
          refine bodyPost_ret (Tr.results_run [.cell 2 55, .tmp 3] [_, _] rfl ⟨_, _, rfl, ⟨_, rfl, Tr.load_blk (t := 55) (fr := (0, 0)) (cs := #[.int .i64 0, .int .i64 0, .int .i64 0, .int .i64 0, .int .i64 0, .int .i64 0]) ?_ Try.underlying55 rfl (by kernel_rfl)⟩, _, _, rfl, rfl, rfl⟩ _ rfl) rfl ⟨.inr ⟨hno, rfl⟩, ?_⟩
          · have t2 := T22.out
            simp only [Tr.heap_set_same, Tr.heap_set_other _ ⟨b4, _, none⟩ _ _ (Ne.symm h24), t2, Option.map_some, Tr.setObj]
            try simp
          · have hcc := HC.out.trans HC2.out
            (repeat (first | with_reducible assumption | (with_reducible exact Tr.Chg.refl _ _) | (with_reducible refine Tr.Chg.set ?_ _ _) | (with_reducible refine Tr.Chg.alloc ?_ _) | (with_reducible refine Tr.Chg.drew ?_) | (with_reducible refine Tr.Chg.drewN ?_) | ((with_reducible refine Tr.Chg.set_new ?_ _ ?_); rotate_left; focus (first | omega | (simp; done) | (simp; omega))) | (with_reducible refine Tr.Chg.grown ?_ (by assumption)) | (with_reducible refine Tr.Chg.trans ?_ (by assumption))))
        · have hneg' : decide (V < 0) = false := by simpa using hneg
          go_wp2_with (go_at_call 75; have hk := HS.out; refine Calls.mono hk ?_; rintro e w2 ⟨rfl, hr2, hc2⟩; have b2 := hc2.keep B4.out (Ne.symm hg4); have lb2 := Tr.blk_lt b2; have cb2 := fun o => Tr.cell_blk (o := o) b2; have fb2 := fun o => Tr.frozen_blk (o := o) b2; have t2 := hc2.keep T2.out (show w.heap.size ≠ g by omega); have ct2 := fun o => Tr.cell_blk (o := o) t2; have ft2 := fun o => Tr.frozen_blk (o := o) t2; have lt2 := Tr.blk_lt t2; have B2 := Lib.hid b2; have T22 := Lib.hid t2; have HC2 := Lib.hid hc2; have HR2 := Lib.hid hr2; clear hr2 hc2 b2 t2 hk)
          go_roundw
          case rel =>
            have hV := HV.out
            have b2 := B2.out
            have t2 := T22.out
            have hr2 := HR2.out
            have hcc := HC.out.trans HC2.out
            refine ⟨3, by omega, rfl, ?_, ?_, ?_, ?_, ?_⟩
            · intro i hi
              rcases Nat.lt_or_ge i 2 with h | h
              · exact HPOS.out i h
              · rw [show i = 2 by omega]; omega
            · refine Tr.blk_set_ne hr2 _ ?_
              exact Ne.symm hg4
            · have hcells2 : rdCells s 3 = #[.int .i64 (rdNum 4 s).1, .int .i64 (rdV s 0), .int .i64 (rdV s 1), .int .i64 (rdV s 2), .int .i64 0, .int .i64 0] := by simp [rdCells]
              rw [hcells2, ← hV]
              (simp only [Tr.heap_set_same, b2, Option.map_some, Tr.setObj]; simp [])
            · refine Tr.blk_set_ne t2 _ ?_
              exact Ne.symm h24
            · (repeat (first | with_reducible assumption | (with_reducible exact Tr.Chg.refl _ _) | (with_reducible refine Tr.Chg.set ?_ _ _) | (with_reducible refine Tr.Chg.alloc ?_ _) | (with_reducible refine Tr.Chg.drew ?_) | (with_reducible refine Tr.Chg.drewN ?_) | ((with_reducible refine Tr.Chg.set_new ?_ _ ?_); rotate_left; focus (first | omega | (simp; done) | (simp; omega))) | (with_reducible refine Tr.Chg.grown ?_ (by assumption)) | (with_reducible refine Tr.Chg.trans ?_ (by assumption))))
          case measure => simp [intOf]
      · have hcells : rdCells s 3 = #[.int .i64 (rdNum 4 s).1, .int .i64 (rdV s 0), .int .i64 (rdV s 1), .int .i64 (rdV s 2), .int .i64 0, .int .i64 0] := by simp [rdCells]
        rw [hcells] at B4
        clear hcells
        by_cases hneg : V < 0
        · have hno : ¬ rdOk s := by
            have hv := HV.out
            rintro ⟨g0, g1, g2, g3, g4⟩
            omega
          have hneg' : decide (V < 0) = true := by simpa using hneg
          go_wp2_with (go_at_call 75; have hk := HS.out; refine Calls.mono hk ?_; rintro e w2 ⟨rfl, hr2, hc2⟩; have b2 := hc2.keep B4.out (Ne.symm hg4); have lb2 := Tr.blk_lt b2; have cb2 := fun o => Tr.cell_blk (o := o) b2; have fb2 := fun o => Tr.frozen_blk (o := o) b2; have t2 := hc2.keep T2.out (show w.heap.size ≠ g by omega); have ct2 := fun o => Tr.cell_blk (o := o) t2; have ft2 := fun o => Tr.frozen_blk (o := o) t2; have lt2 := Tr.blk_lt t2; have B2 := Lib.hid b2; have T22 := Lib.hid t2; have HC2 := Lib.hid hc2; have HR2 := Lib.hid hr2; clear hr2 hc2 b2 t2 hk)
          refine bodyPost_ret (Tr.results_run [.cell 2 55, .tmp 3] [_, _] rfl ⟨_, _, rfl, ⟨_, rfl, Tr.load_blk (t := 55) (fr := (0, 0)) (cs := #[.int .i64 0, .int .i64 0, .int .i64 0, .int .i64 0, .int .i64 0, .int .i64 0]) ?_ Try.underlying55 rfl (by kernel_rfl)⟩, _, _, rfl, rfl, rfl⟩ _ rfl) rfl ⟨.inr ⟨hno, rfl⟩, ?_⟩
          · have t2 := T22.out
            simp only [Tr.heap_set_same, Tr.heap_set_other _ ⟨b4, _, none⟩ _ _ (Ne.symm h24), t2, Option.map_some, Tr.setObj]
            try simp
          · have hcc := HC.out.trans HC2.out
            (repeat (first | with_reducible assumption | (with_reducible exact Tr.Chg.refl _ _) | (with_reducible refine Tr.Chg.set ?_ _ _) | (with_reducible refine Tr.Chg.alloc ?_ _) | (with_reducible refine Tr.Chg.drew ?_) | (with_reducible refine Tr.Chg.drewN ?_) | ((with_reducible refine Tr.Chg.set_new ?_ _ ?_); rotate_left; focus (first | omega | (simp; done) | (simp; omega))) | (with_reducible refine Tr.Chg.grown ?_ (by assumption)) | (with_reducible refine Tr.Chg.trans ?_ (by assumption))))
        · have hneg' : decide (V < 0) = false := by simpa using hneg
          go_wp2_with (go_at_call 75; have hk := HS.out; refine Calls.mono hk ?_; rintro e w2 ⟨rfl, hr2, hc2⟩; have b2 := hc2.keep B4.out (Ne.symm hg4); have lb2 := Tr.blk_lt b2; have cb2 := fun o => Tr.cell_blk (o := o) b2; have fb2 := fun o => Tr.frozen_blk (o := o) b2; have t2 := hc2.keep T2.out (show w.heap.size ≠ g by omega); have ct2 := fun o => Tr.cell_blk (o := o) t2; have ft2 := fun o => Tr.frozen_blk (o := o) t2; have lt2 := Tr.blk_lt t2; have B2 := Lib.hid b2; have T22 := Lib.hid t2; have HC2 := Lib.hid hc2; have HR2 := Lib.hid hr2; clear hr2 hc2 b2 t2 hk)
          go_roundw
          case rel =>
            have hV := HV.out
            have b2 := B2.out
            have t2 := T22.out
            have hr2 := HR2.out
            have hcc := HC.out.trans HC2.out
            refine ⟨4, by omega, rfl, ?_, ?_, ?_, ?_, ?_⟩
            · intro i hi
              rcases Nat.lt_or_ge i 3 with h | h
              · exact HPOS.out i h
              · rw [show i = 3 by omega]; omega
            · refine Tr.blk_set_ne hr2 _ ?_
              exact Ne.symm hg4
            · have hcells2 : rdCells s 4 = #[.int .i64 (rdNum 4 s).1, .int .i64 (rdV s 0), .int .i64 (rdV s 1), .int .i64 (rdV s 2), .int .i64 (rdV s 3), .int .i64 0] := by simp [rdCells]
              rw [hcells2, ← hV]
              (simp only [Tr.heap_set_same, b2, Option.map_some, Tr.setObj]; simp [])
            · refine Tr.blk_set_ne t2 _ ?_
              exact Ne.symm h24
            · (repeat (first | with_reducible assumption | (with_reducible exact Tr.Chg.refl _ _) | (with_reducible refine Tr.Chg.set ?_ _ _) | (with_reducible refine Tr.Chg.alloc ?_ _) | (with_reducible refine Tr.Chg.drew ?_) | (with_reducible refine Tr.Chg.drewN ?_) | ((with_reducible refine Tr.Chg.set_new ?_ _ ?_); rotate_left; focus (first | omega | (simp; done) | (simp; omega))) | (with_reducible refine Tr.Chg.grown ?_ (by assumption)) | (with_reducible refine Tr.Chg.trans ?_ (by assumption))))
          case measure => simp [intOf]
      · have hcells : rdCells s 4 = #[.int .i64 (rdNum 4 s).1, .int .i64 (rdV s 0), .int .i64 (rdV s 1), .int .i64 (rdV s 2), .int .i64 (rdV s 3), .int .i64 0] := by simp [rdCells]
        rw [hcells] at B4
        clear hcells
        by_cases hneg : V < 0
        · have hno : ¬ rdOk s := by
            have hv := HV.out
            rintro ⟨g0, g1, g2, g3, g4⟩
            omega
          have hneg' : decide (V < 0) = true := by simpa using hneg
          go_wp2_with (go_at_call 75; have hk := HS.out; refine Calls.mono hk ?_; rintro e w2 ⟨rfl, hr2, hc2⟩; have b2 := hc2.keep B4.out (Ne.symm hg4); have lb2 := Tr.blk_lt b2; have cb2 := fun o => Tr.cell_blk (o := o) b2; have fb2 := fun o => Tr.frozen_blk (o := o) b2; have t2 := hc2.keep T2.out (show w.heap.size ≠ g by omega); have ct2 := fun o => Tr.cell_blk (o := o) t2; have ft2 := fun o => Tr.frozen_blk (o := o) t2; have lt2 := Tr.blk_lt t2; have B2 := Lib.hid b2; have T22 := Lib.hid t2; have HC2 := Lib.hid hc2; have HR2 := Lib.hid hr2; clear hr2 hc2 b2 t2 hk)
          refine bodyPost_ret (Tr.results_run [.cell 2 55, .tmp 3] [_, _] rfl ⟨_, _, rfl, ⟨_, rfl, Tr.load_blk (t := 55) (fr := (0, 0)) (cs := #[.int .i64 0, .int .i64 0, .int .i64 0, .int .i64 0, .int .i64 0, .int .i64 0]) ?_ Try.underlying55 rfl (by kernel_rfl)⟩, _, _, rfl, rfl, rfl⟩ _ rfl) rfl ⟨.inr ⟨hno, rfl⟩, ?_⟩
          · have t2 := T22.out
            simp only [Tr.heap_set_same, Tr.heap_set_other _ ⟨b4, _, none⟩ _ _ (Ne.symm h24), t2, Option.map_some, Tr.setObj]
            try simp
          · have hcc := HC.out.trans HC2.out
            (repeat (first | with_reducible assumption | (with_reducible exact Tr.Chg.refl _ _) | (with_reducible refine Tr.Chg.set ?_ _ _) | (with_reducible refine Tr.Chg.alloc ?_ _) | (with_reducible refine Tr.Chg.drew ?_) | (with_reducible refine Tr.Chg.drewN ?_) | ((with_reducible refine Tr.Chg.set_new ?_ _ ?_); rotate_left; focus (first | omega | (simp; done) | (simp; omega))) | (with_reducible refine Tr.Chg.grown ?_ (by assumption)) | (with_reducible refine Tr.Chg.trans ?_ (by assumption))))
        · have hneg' : decide (V < 0) = false := by simpa using hneg
          go_wp2_with (go_at_call 75; have hk := HS.out; refine Calls.mono hk ?_; rintro e w2 ⟨rfl, hr2, hc2⟩; have b2 := hc2.keep B4.out (Ne.symm hg4); have lb2 := Tr.blk_lt b2; have cb2 := fun o => Tr.cell_blk (o := o) b2; have fb2 := fun o => Tr.frozen_blk (o := o) b2; have t2 := hc2.keep T2.out (show w.heap.size ≠ g by omega); have ct2 := fun o => Tr.cell_blk (o := o) t2; have ft2 := fun o => Tr.frozen_blk (o := o) t2; have lt2 := Tr.blk_lt t2; have B2 := Lib.hid b2; have T22 := Lib.hid t2; have HC2 := Lib.hid hc2; have HR2 := Lib.hid hr2; clear hr2 hc2 b2 t2 hk)
          go_roundw
          case rel =>
            have hV := HV.out
            have b2 := B2.out
            have t2 := T22.out
            have hr2 := HR2.out
            have hcc := HC.out.trans HC2.out
            refine ⟨5, by omega, rfl, ?_, ?_, ?_, ?_, ?_⟩
            · intro i hi
              rcases Nat.lt_or_ge i 4 with h | h
              · exact HPOS.out i h
              · rw [show i = 4 by omega]; omega
            · refine Tr.blk_set_ne hr2 _ ?_
              exact Ne.symm hg4
            · have hcells2 : rdCells s 5 = #[.int .i64 (rdNum 4 s).1, .int .i64 (rdV s 0), .int .i64 (rdV s 1), .int .i64 (rdV s 2), .int .i64 (rdV s 3), .int .i64 (rdV s 4)] := by simp [rdCells]
              rw [hcells2, ← hV]
              (simp only [Tr.heap_set_same, b2, Option.map_some, Tr.setObj]; simp [])
            · refine Tr.blk_set_ne t2 _ ?_
              exact Ne.symm h24
            · (repeat (first | with_reducible assumption | (with_reducible exact Tr.Chg.refl _ _) | (with_reducible refine Tr.Chg.set ?_ _ _) | (with_reducible refine Tr.Chg.alloc ?_ _) | (with_reducible refine Tr.Chg.drew ?_) | (with_reducible refine Tr.Chg.drewN ?_) | ((with_reducible refine Tr.Chg.set_new ?_ _ ?_); rotate_left; focus (first | omega | (simp; done) | (simp; omega))) | (with_reducible refine Tr.Chg.grown ?_ (by assumption)) | (with_reducible refine Tr.Chg.trans ?_ (by assumption))))
          case measure => simp [intOf]
    · have hje : j = 5 := by omega
      subst hje
      have hok : rdOk s := ⟨HPOS.out 0 (by omega), HPOS.out 1 (by omega), HPOS.out 2 (by omega), HPOS.out 3 (by omega), HPOS.out 4 (by omega)⟩
      have cb := fun o => Tr.cell_blk (o := o) B4.out
      have ct := fun o => Tr.cell_blk (o := o) T2.out
      have ft := fun o => Tr.frozen_blk (o := o) T2.out
      have hcells : rdCells s 5 = #[.int .i64 (rdNum 4 s).1, .int .i64 (rdV s 0), .int .i64 (rdV s 1), .int .i64 (rdV s 2), .int .i64 (rdV s 3), .int .i64 (rdV s 4)] := by simp [rdCells]
      rw [hcells] at cb
      have HH := HM.out
      go_wp2_with fail
      refine bodyPost_ret (Tr.results_run [.cell 2 55, .tmp 3] [_, _] rfl ⟨_, _, rfl, ⟨_, rfl, Tr.load_blk (t := 55) (fr := (0, 0)) (cs := #[.int .i64 (rdNum 4 s).1, .int .i64 (rdV s 0), .int .i64 (rdV s 1), .int .i64 (rdV s 2), .int .i64 (rdV s 3), .int .i64 (rdV s 4)]) ?_ Try.underlying55 rfl (by kernel_rfl)⟩, _, _, rfl, rfl, rfl⟩ _ rfl) rfl ⟨.inl ⟨hok, rfl, ?_⟩, ?_⟩
      · have t2 := T2.out
        (simp only [Tr.heap_set_same, t2, Option.map_some, Tr.setObj]; simp [])
      · have hr := HR.out
        unfold Rd at hr ⊢
        have hne : w.heap.size ≠ g := by omega
        (repeat (refine Tr.blk_set_ne ?_ _ hne))
        with_reducible exact hr
      · have hcc := HC.out
        (repeat (first | with_reducible assumption | (with_reducible exact Tr.Chg.refl _ _) | (with_reducible refine Tr.Chg.set ?_ _ _) | (with_reducible refine Tr.Chg.alloc ?_ _) | (with_reducible refine Tr.Chg.drew ?_) | (with_reducible refine Tr.Chg.drewN ?_) | ((with_reducible refine Tr.Chg.set_new ?_ _ ?_); rotate_left; focus (first | omega | (simp; done) | (simp; omega))) | (with_reducible refine Tr.Chg.grown ?_ (by assumption)) | (with_reducible refine Tr.Chg.trans ?_ (by assumption))))
end Go.Proofs.Ytjkfkgpdlflbhaa
