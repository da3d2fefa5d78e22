import Derived.Test.YtieoipmbcdfmeaaDoorProg
import Derived.Test.YtieoipmbcdfmeaaDoorTrArgs
import Derived.Test.YtieoipmbcdfmeaaDoorTrAbJ
namespace Go.Proofs.YtieoipmbcdfmeaaDoor
open Go.RowKit
/-- What the walk of CentsTotals has to show. -/
def SayCentsTotals : Prop := ∀ (a0 : Option Addr) (r0 : List (List Value)) (cap0 : Nat) (w : World), Ab.J w → Tr.Rows [(.int .i64)] w a0 r0 cap0 →
  Calls Tryd.prog 3 #[.slice a0 r0.length cap0] w fun e w' => e = .returned (.bool true) ∧ Below w.heap.size w w'
end Go.Proofs.YtieoipmbcdfmeaaDoor
