import Derived.Test.YteakfibolfapiaaProg
import Derived.Test.YteakfibolfapiaaTrArgs
namespace Go.Proofs.Yteakfibolfapiaa
open Go.RowKit
/-- What the walk of ChartAdds has to show. -/
def SayChartAdds : Prop := ∀ (a0 : Option Addr) (r0 : List (List Value)) (cap0 : Nat) (n1 : Int) (w : World), Tr.Rows [(.int .i64), (.int .u8), .str] w a0 r0 cap0 → (Lit.int .i64 n1).wf = true →
  Calls Try.prog 6 #[.slice a0 r0.length cap0, .int .i64 n1] w fun e w' => e = .returned (.bool true) ∧ Below w.heap.size w w'
end Go.Proofs.Yteakfibolfapiaa
