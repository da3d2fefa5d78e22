import Derived.Test.YtieoipmbcdfmeaaDoorProg
import Derived.Test.YtieoipmbcdfmeaaDoorTrArgs
import Derived.Test.YtieoipmbcdfmeaaDoorTrAbJ
namespace Go.Proofs.YtieoipmbcdfmeaaDoor
open Go.RowKit
/-- What the walk of CentsTimes has to show. -/
def SayCentsTimes : Prop := ∀ (n0 : Int) (n1 : Int) (w : World), Ab.J w → (Lit.int .i64 n0).wf = true → (Lit.int .u8 n1).wf = true →
  Calls Tryd.prog 6 #[.int .i64 n0, .int .u8 n1] w fun e w' => e = .returned (.bool true) ∧ Below w.heap.size w w'
end Go.Proofs.YtieoipmbcdfmeaaDoor
