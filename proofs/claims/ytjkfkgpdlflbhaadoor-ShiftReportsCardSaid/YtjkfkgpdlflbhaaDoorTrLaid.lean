/- What the rows list where only the library's three tables are listed, and a start that fits; what a walk gets of it. -/
import Derived.Test.YtjkfkgpdlflbhaaDoorTrEnt2
import Derived.Test.YtjkfkgpdlflbhaaDoorRows
import Derived.SizedLaws
import Derived.Lib.LaidTab
import Derived.Stop.LaidErr
namespace Go.Proofs.YtjkfkgpdlflbhaaDoor.Ab
open Go Go.RowKit
set_option maxRecDepth 100000
def laid5 : List (String × DataW Unit) := [("math/bits.deBruijn32tab", Rows.laid_math_bits_deBruijn32tab), ("math/bits.deBruijn64tab", Rows.laid_math_bits_deBruijn64tab), ("internal/strconv.uint64pow10", Rows.laid_internal_strconv_uint64pow10)]
theorem gPowType : (Tryd.prog.globals[0]?).map (·.type) = some 90 := by kernel_rfl
theorem J_of_laid {W : World} (h : laidMet Tryd.prog laid5 W) : J W := by
  have h3 : laidMet Tryd.prog (("internal/strconv.uint64pow10", Lib.tabData .u64 Lib.pow10Tab) :: []) W := h.tail.tail
  exact Lib.tabIs_of_head gPow gPowType Tryd.underlying90 Tryd.underlying71 (by kernel_rfl) (by kernel_rfl) h3
/-! a start that fits -/
def cellsL (d : DataW Unit) : Array Value := match d with
  | .agg l => (l.map fun x => match x with | .lit (.int k z) => Value.int k z | _ => .nilIface).toArray
  | _ => #[]
def putC (cs : Array Value) : Obj → Obj
  | .cells _ t frozen => .cells cs t frozen
  | o => o
noncomputable def laidWorld (os : Os) : World :=
  let w0 := World.holding Tryd.prog os ⟨#[], #[], []⟩
  { w0 with heap := ((w0.heap.modify 0 (putC (cellsL Rows.laid_internal_strconv_uint64pow10))).modify 1 (putC (cellsL Rows.laid_math_bits_deBruijn32tab))).modify 2 (putC (cellsL Rows.laid_math_bits_deBruijn64tab)) }
theorem laidWorld_met (os : Os) (args : Array Value) : laidMet Tryd.prog laid5 ((laidWorld os).forCall (fun _ _ => 0) ⟨#[], args, []⟩).memory :=
  laidMet_of_run' 8 (by kernel_rfl) (by kernel_rfl)
end Go.Proofs.YtjkfkgpdlflbhaaDoor.Ab
