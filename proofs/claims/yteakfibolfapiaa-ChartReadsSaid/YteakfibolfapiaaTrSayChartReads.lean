import Derived.Test.YteakfibolfapiaaProg
import Derived.Test.YteakfibolfapiaaTrArgs
namespace Go.Proofs.Yteakfibolfapiaa
open Go.RowKit
/-- What the walk of ChartReads has to show. -/
def SayChartReads : Prop := ∀ (s0 : ByteArray) (a1 : Option Addr) (r1 : List (List Value)) (cap1 : Nat) (w : World), s0.size ≤ 140737488351232 → Tr.Rows [(.int .i64), (.int .u8), .str] w a1 r1 cap1 →
  Calls Try.prog 5 #[.string s0, .slice a1 r1.length cap1] w fun e w' => e = .returned (.bool true) ∧ Below w.heap.size w w'
end Go.Proofs.Yteakfibolfapiaa
