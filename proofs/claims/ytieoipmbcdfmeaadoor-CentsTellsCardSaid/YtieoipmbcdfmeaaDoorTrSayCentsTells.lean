import Derived.Test.YtieoipmbcdfmeaaDoorProg
import Derived.Test.YtieoipmbcdfmeaaDoorTrArgs
import Derived.Test.YtieoipmbcdfmeaaDoorTrAbJ
namespace Go.Proofs.YtieoipmbcdfmeaaDoor
open Go.RowKit
/-- What the walk of CentsTells has to show. -/
def SayCentsTells : Prop := ∀ (n0 : Int) (s1 : ByteArray) (w : World), Ab.J w → (Lit.int .i64 n0).wf = true → s1.size ≤ 140737488351232 →
  Calls Tryd.prog 4 #[.int .i64 n0, .string s1] w fun e w' => e = .returned (.bool true) ∧ Below w.heap.size w w'
end Go.Proofs.YtieoipmbcdfmeaaDoor
