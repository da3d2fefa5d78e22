import Derived.Test.YteakfibolfapiaaProg
import Derived.Test.YteakfibolfapiaaTrArgs2
namespace Go.Proofs.Yteakfibolfapiaa
open Go.RowKit
/-- What the walk of BooksEven has to show. -/
def SayBooksEven : Prop := ∀ (a0 : Option Addr) (r0 : List (List (List Value))) (cap0 : Nat) (w : World), Tr.Rows2 [(.int .i64), (.int .i64)] w a0 r0 cap0 →
  Calls Try.prog 4 #[.slice a0 r0.length cap0] w fun e w' => e = .returned (.bool true) ∧ Below w.heap.size w w'
end Go.Proofs.Yteakfibolfapiaa
