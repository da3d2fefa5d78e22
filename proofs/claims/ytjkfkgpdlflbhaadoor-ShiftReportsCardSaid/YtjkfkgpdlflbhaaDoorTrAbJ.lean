/- What is known of the world all along: the table of powers of ten. -/
import Derived.Test.YtjkfkgpdlflbhaaDoorTrHeap
import Derived.Test.YtjkfkgpdlflbhaaDoorProg
import Derived.Lib.LaidTab
import Derived.Lib.ItoaNum
import Derived.KernelRfl
namespace Go.Proofs.YtjkfkgpdlflbhaaDoor.Ab
open Go
/-- The variables of the program that may be read: type, number. -/
def globs (t _g : Nat) : Bool := t == 1 && t == 2
def J (w : World) : Prop := Lib.TabIs Tryd.prog w "internal/strconv.uint64pow10" .u64 Lib.pow10Tab
theorem gPow : Tryd.prog.globalNamed "internal/strconv.uint64pow10" = some 0 := by kernel_rfl
end Go.Proofs.YtjkfkgpdlflbhaaDoor.Ab
