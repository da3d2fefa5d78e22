import Derived.Test.YteakfibolfapiaaProg
import Derived.Test.YteakfibolfapiaaTrArgs
namespace Go.Proofs.Yteakfibolfapiaa
open Go.RowKit
/-- What the walk of ChartOrder has to show. -/
def SayChartOrder : Prop := ∀ (a0 : Option Addr) (r0 : List (List Value)) (cap0 : Nat) (n1 : Int) (w : World), Tr.Rows [(.int .u16)] w a0 r0 cap0 → (Lit.int .u8 n1).wf = true →
  Calls Try.prog 3 #[.slice a0 r0.length cap0, .int .u8 n1] w fun e w' => e = .returned (.bool true) ∧ Below w.heap.size w w'
end Go.Proofs.Yteakfibolfapiaa
