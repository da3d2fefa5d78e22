/- What the rows of chapter 03 list, and a start that fits; what a walk gets of it. -/
import Derived.Test.YtieoipmbcdfmeaaDoorTrEnt
import Derived.Test.YtieoipmbcdfmeaaDoorRows
import Derived.SizedLaws
import Derived.Lib.LaidTab
namespace Go.Proofs.YtieoipmbcdfmeaaDoor.Ab
open Go Go.RowKit
set_option maxRecDepth 100000
def laid5 : List (String × DataW Unit) := [("math/bits.deBruijn32tab", Rows.laid_math_bits_deBruijn32tab), ("math/bits.deBruijn64tab", Rows.laid_math_bits_deBruijn64tab), ("internal/strconv.uint64pow10", Rows.laid_internal_strconv_uint64pow10), ("strconv.ErrRange", Rows.laid_strconv_ErrRange), ("strconv.ErrSyntax", Rows.laid_strconv_ErrSyntax)]
theorem gESType : (Tryd.prog.globals[2]?).map (·.type) = some 85 := by kernel_rfl
theorem gERType : (Tryd.prog.globals[3]?).map (·.type) = some 85 := by kernel_rfl
theorem gPowType : (Tryd.prog.globals[0]?).map (·.type) = some 151 := by kernel_rfl
theorem starE : "*" ++ "errors.errorString" = "*errors.errorString" := by decide
theorem rowE (u : TypeId) (h : Tryd.prog.typeName? 3 u = some "*errors.errorString") : u = 171 :=
  typeName_ptr_named (nm := "errors.errorString") (by rw [starE]; kernel_rfl) (by kernel_rfl) (by decide) u (by rw [starE]; exact h)
theorem J_of_laid {W : World} (h : laidMet Tryd.prog laid5 W) : J W := by
  have h3 : laidMet Tryd.prog (("internal/strconv.uint64pow10", Lib.tabData .u64 Lib.pow10Tab) :: [("strconv.ErrRange", Rows.laid_strconv_ErrRange), ("strconv.ErrSyntax", Rows.laid_strconv_ErrSyntax)]) W := h.tail.tail
  obtain ⟨a0, s0, hv0, -, -, -⟩ := laid_sentinel h3.tail gER gERType Tryd.underlying85 rowE Tryd.underlying171 Tryd.underlying173 rfl rfl Tryd.underlying9 (by kernel_rfl) (by kernel_rfl)
  obtain ⟨a1, s1, hv1, -, -, -⟩ := laid_sentinel h3.tail.tail gES gESType Tryd.underlying85 rowE Tryd.underlying171 Tryd.underlying173 rfl rfl Tryd.underlying9 (by kernel_rfl) (by kernel_rfl)
  exact ⟨Lib.tabIs_of_head gPow gPowType Tryd.underlying151 Tryd.underlying71 (by kernel_rfl) (by kernel_rfl) h3, ⟨_, hv1, .inr ⟨_, _, rfl⟩⟩, _, hv0, .inr ⟨_, _, rfl⟩⟩
/-! a start that fits -/
def cellsL (d : DataW Unit) : Array Value := match d with
  | .agg l => (l.map fun x => match x with | .lit (.int k z) => Value.int k z | _ => .nilIface).toArray
  | _ => #[]
abbrev synS : ByteArray := { data := #[105, 110, 118, 97, 108, 105, 100, 32, 115, 121, 110, 116, 97, 120] }
abbrev rngS : ByteArray := { data := #[118, 97, 108, 117, 101, 32, 111, 117, 116, 32, 111, 102, 32, 114, 97, 110, 103, 101] }
noncomputable def low : Nat := (World.holding Tryd.prog default ⟨#[], #[], []⟩).heap.size
def putC (cs : Array Value) : Obj → Obj
  | .cells _ t frozen => .cells cs t frozen
  | o => o
noncomputable def laidWorld (os : Os) : World :=
  let w0 := World.holding Tryd.prog os ⟨#[.cells #[.string synS] 173, .cells #[.string rngS] 173], #[], []⟩
  { w0 with heap := ((((w0.heap.modify 0 (putC (cellsL Rows.laid_internal_strconv_uint64pow10))).modify 2 (putC #[.iface 171 (.pointer (some ⟨low, 0, none⟩))])).modify 3 (putC #[.iface 171 (.pointer (some ⟨low + 1, 0, none⟩))])).modify 4 (putC (cellsL Rows.laid_math_bits_deBruijn32tab))).modify 5 (putC (cellsL Rows.laid_math_bits_deBruijn64tab)) }
theorem laidWorld_met (os : Os) (args : Array Value) : laidMet Tryd.prog laid5 ((laidWorld os).forCall (fun _ _ => 0) ⟨#[], args, []⟩).memory :=
  laidMet_of_run' 8 (by kernel_rfl) (by kernel_rfl)
end Go.Proofs.YtieoipmbcdfmeaaDoor.Ab
