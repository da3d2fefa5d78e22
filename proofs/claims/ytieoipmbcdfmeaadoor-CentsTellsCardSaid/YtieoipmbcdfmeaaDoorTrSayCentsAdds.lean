import Derived.Test.YtieoipmbcdfmeaaDoorProg
import Derived.Test.YtieoipmbcdfmeaaDoorTrArgs
import Derived.Test.YtieoipmbcdfmeaaDoorTrAbJ
namespace Go.Proofs.YtieoipmbcdfmeaaDoor
open Go.RowKit
/-- What the walk of CentsAdds has to show. -/
def SayCentsAdds : Prop := ∀ (n0 : Int) (n1 : Int) (n2 : Int) (w : World), Ab.J w → (Lit.int .i64 n0).wf = true → (Lit.int .i64 n1).wf = true → (Lit.int .i64 n2).wf = true →
  Calls Tryd.prog 7 #[.int .i64 n0, .int .i64 n1, .int .i64 n2] w fun e w' => e = .returned (.bool true) ∧ Below w.heap.size w w'
end Go.Proofs.YtieoipmbcdfmeaaDoor
