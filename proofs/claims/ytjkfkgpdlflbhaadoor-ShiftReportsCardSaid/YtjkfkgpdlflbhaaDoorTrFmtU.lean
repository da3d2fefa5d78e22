/- strconv.FormatUint at base 10, over the library's contracts of its inner functions. -/
import Derived.Test.YtjkfkgpdlflbhaaDoorTrHeap
import Derived.Test.YtjkfkgpdlflbhaaDoorShelf
import Derived.Lib.AppendIntMem
namespace Go.Proofs.YtjkfkgpdlflbhaaDoor
open Go.RowKit Go.Sort
open Tr (Sl Chg)
set_option linter.unusedVariables false
set_option linter.unusedSimpArgs false

def encB : UInt8 → Value := fun b => Value.int .u8 (b.toNat : Int)
theorem below_putRow (w : World) (o : Obj) (off : Nat) (dk : Array UInt8) (k : Nat) : Below w.heap.size w ((putRow encB (w.alloc o) w.heap.size off dk).drewN k) := by
  refine Tr.below_drewN ⟨rfl, rfl, rfl, by simp, fun j hj => ?_⟩
  have hne : w.heap.size ≠ j := by omega
  have h := Below.heap_alloc w o j hj
  rw [← h]
  simp [putRow, mapBlock, Array.getElem?_modify, hne]

set_option maxRecDepth 100000 in
set_option maxHeartbeats 4000000 in
theorem C_FmtU (u : Nat) (hu64 : u < 18446744073709551616) (w : World) (htab : Lib.TabIs Tryd.prog w "internal/strconv.uint64pow10" .u64 Lib.pow10Tab) :
    Calls Tryd.prog 33 #[.int .u64 u, .int .i64 10] w fun e w' => e = .returned (.string ⟨(Lib.decDigits u).toArray⟩) ∧ Below w.heap.size w w' := by
  by_cases hs : u < 100
  · have hs' : (u : Int) < 100 := by omega
    go_enter Tryd.func33, Tryd.ntmps33
    go_wp2_with (go_at_call 34; refine (Tryd.internal_strconv_small u hs _).mono ?_; rintro e w' ⟨rfl, rfl⟩)
    go_ret
    exact ⟨rfl, Below.refl _ _⟩
  · have hs' : ¬ (u : Int) < 100 := by omega
    have hu1 : 1 ≤ u := by omega
    have hnd20 : Lib.nDigits u ≤ 20 := by have := Lib.numDigits_eq u hu1 hu64; split at this <;> omega
    have hal : Tryd.prog.arrayLen 83 = 24 := by kernel_rfl
    have hsl2 : ∀ W, (Instr.sliceAt 83 (.pointer (some ⟨w.heap.size, 0, none⟩)) none (some (.int .i64 (Lib.nDigits u : Int))) none).run Tryd.prog W = .ok (.slice (some ⟨w.heap.size, 0, none⟩) (Lib.nDigits u) 24) W := fun W => by
      rw [run_sliceAt_array_h W 83 ⟨w.heap.size, 0, none⟩ (by kernel_rfl) .i64 (Lib.nDigits u : Int) (by omega) (by rw [hal]; omega)]
      go_simp
    have hH0 := Lib.holds_zero0 w 83 (Lib.nDigits u) (by omega)
    have hfmt := Tryd.internal_strconv_formatBase10 w.heap.size 0 24 u (Array.replicate (Lib.nDigits u) 0) (w.alloc (.cells Lib.zeros24 83)) hH0 (by rw [Array.size_replicate]; exact Lib.lt_pow_nDigits u) hu64 (by rw [Array.size_replicate]; omega)
    rw [Array.size_replicate] at hfmt
    have HH0 := Lib.hid hH0; have HFMT := Lib.hid hfmt; have HTAB := Lib.hid htab
    clear hH0 hal hfmt htab
    go_enter Tryd.func33, Tryd.ntmps33
    go_wp2_with (first
      | (go_at_call 35; refine Calls.mono (Tryd.internal_strconv_numDigits u hu1 hu64 _ (Lib.tabIs_alloc HTAB.out _)) ?_; rintro e w' ⟨rfl, rfl⟩)
      | fail)
    refine Calls.mono HFMT.out ?_
    rintro e w' ⟨rfl, k, v', dk, rfl, hF⟩
    have hcv : (convert 79 9 (.slice (some ⟨w.heap.size, 0, none⟩) (Lib.nDigits u) 24)).run Tryd.prog ((putRow encB (w.alloc (.cells Lib.zeros24 83)) w.heap.size 0 dk).drewN k) = .ok (.string ⟨(Lib.decDigits u).toArray⟩) ((putRow encB (w.alloc (.cells Lib.zeros24 83)) w.heap.size 0 dk).drewN k) := by
      have h := run_convert_bytes_back (P := Tryd.prog) ((putRow encB (w.alloc (.cells Lib.zeros24 83)) w.heap.size 0 dk).drewN k) 79 9 5 ⟨w.heap.size, 0, none⟩ 24 (Lib.decDigits u) Tryd.underlying79 Tryd.underlying5 Tryd.underlying9 (fun j hj => by
        rw [Lib.row_is_numeral hF j hj, Lib.add_plain, World.cell?_drewN]
        exact cell?_putRow encB _ w.heap.size 0 _ dk HH0.out (by rw [hF.size, Array.size_replicate]) j (by rw [hF.size]; rw [Lib.decDigits_length] at hj; exact hj))
      rw [Lib.decDigits_length] at h
      exact h
    have hbl := below_putRow w (.cells Lib.zeros24 83) 0 dk k
    change (convert 79 9 (.slice (some ⟨w.heap.size, 0, none⟩) (Lib.nDigits u) 24)).run Tryd.prog ((putRow (fun (b : UInt8) => Value.int .u8 (b.toNat : Int)) (w.alloc (.cells Lib.zeros24 83)) w.heap.size 0 dk).drewN k) = _ at hcv
    generalize hW : (putRow (fun (b : UInt8) => Value.int .u8 (b.toNat : Int)) (w.alloc (.cells Lib.zeros24 83)) w.heap.size 0 dk).drewN k = W at *
    have HBL : Below w.heap.size w W := by rw [← hW]; exact hbl
    rw [show (putRow encB (w.alloc (.cells Lib.zeros24 83)) w.heap.size 0 dk).drewN k = W from hW] at hcv
    clear hW hF hbl
    go_wp2
    go_ret
    exact ⟨rfl, HBL⟩
theorem C_FormatUint (u : Nat) (hu64 : u < 18446744073709551616) (w : World) (htab : Lib.TabIs Tryd.prog w "internal/strconv.uint64pow10" .u64 Lib.pow10Tab) :
    Calls Tryd.prog 29 #[.int .u64 u, .int .i64 10] w fun e w' => e = .returned (.string ⟨(Lib.decDigits u).toArray⟩) ∧ Below w.heap.size w w' := by
  have hC := C_FmtU u hu64 w htab
  have HC := Lib.hid hC
  clear hC htab
  go_enter Tryd.func29, Tryd.ntmps29
  go_wp2_with (go_at_call 33; refine Calls.mono HC.out ?_; rintro e w1 ⟨rfl, hb1⟩)
  go_ret
  exact ⟨rfl, hb1⟩
theorem C_Itoa (n : Int) (h : -9223372036854775808 ≤ n ∧ n ≤ 9223372036854775807) (w : World) (htab : Lib.TabIs Tryd.prog w "internal/strconv.uint64pow10" .u64 Lib.pow10Tab) :
    Calls Tryd.prog 15 #[.int .i64 n] w fun e w' => e = .returned (.string ⟨(Lib.itoa n).toArray⟩) ∧ Below w.heap.size w w' := by
  refine (Tryd.strconv_Itoa n h.1 h.2 w htab).mono ?_
  rintro e w' ⟨he, k, os, rfl⟩
  exact ⟨he, below_regrown w (w.drawn + k) os⟩
/-- The table of powers stays where only memory is made. -/
theorem tab_keep {w w' : World} (h : Lib.TabIs Tryd.prog w "internal/strconv.uint64pow10" .u64 Lib.pow10Tab) (hb : Below w.heap.size w w') : Lib.TabIs Tryd.prog w' "internal/strconv.uint64pow10" .u64 Lib.pow10Tab := by
  unfold Lib.TabIs World.var? at *
  cases hg : Tryd.prog.globalNamed "internal/strconv.uint64pow10" with
  | none => simp [hg] at h
  | some g =>
    simp only [hg, Option.bind_some] at h ⊢
    have hlt : g < w.heap.size := by
      rcases Nat.lt_or_ge g w.heap.size with h' | h'
      · exact h'
      · rw [Array.getElem?_eq_none h'] at h; simp at h
    rw [hb.block g hlt]
    exact h
end Go.Proofs.YtjkfkgpdlflbhaaDoor
