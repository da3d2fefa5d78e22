import Derived.Test.YtieoipmbcdfmeaaDoorProg
import Derived.Test.YtieoipmbcdfmeaaDoorTrArgs
import Derived.Test.YtieoipmbcdfmeaaDoorTrAbJ
namespace Go.Proofs.YtieoipmbcdfmeaaDoor
open Go.RowKit
/-- What the walk of CentsOrder has to show. -/
def SayCentsOrder : Prop := ∀ (a0 : Option Addr) (r0 : List (List Value)) (cap0 : Nat) (n1 : Int) (n2 : Int) (w : World), Ab.J w → Tr.Rows [(.int .i64)] w a0 r0 cap0 → (Lit.int .u8 n1).wf = true → (Lit.int .u8 n2).wf = true →
  Calls Tryd.prog 5 #[.slice a0 r0.length cap0, .int .u8 n1, .int .u8 n2] w fun e w' => e = .returned (.bool true) ∧ Below w.heap.size w w'
end Go.Proofs.YtieoipmbcdfmeaaDoor
