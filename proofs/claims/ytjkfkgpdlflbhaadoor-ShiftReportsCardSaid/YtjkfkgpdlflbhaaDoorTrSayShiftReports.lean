import Derived.Test.YtjkfkgpdlflbhaaDoorProg
import Derived.Test.YtjkfkgpdlflbhaaDoorTrArgs
import Derived.Test.YtjkfkgpdlflbhaaDoorTrAbJ
namespace Go.Proofs.YtjkfkgpdlflbhaaDoor
open Go.RowKit
/-- What the walk of ShiftReports has to show. -/
def SayShiftReports : Prop := ∀ (a0 : Option Addr) (r0 : List (List Value)) (cap0 : Nat) (n1 : Int) (w : World), Ab.J w → Tr.Rows [(.int .i64), (.int .u8), (.int .i64)] w a0 r0 cap0 → (Lit.int .i64 n1).wf = true →
  Calls Tryd.prog 3 #[.slice a0 r0.length cap0, .int .i64 n1] w fun e w' => e = .returned (.bool true) ∧ Below w.heap.size w w'
end Go.Proofs.YtjkfkgpdlflbhaaDoor
