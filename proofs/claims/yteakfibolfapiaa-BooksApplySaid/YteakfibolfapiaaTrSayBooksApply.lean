import Derived.Test.YteakfibolfapiaaProg
import Derived.Test.YteakfibolfapiaaTrArgs2
namespace Go.Proofs.Yteakfibolfapiaa
open Go.RowKit
/-- What the walk of BooksApply has to show. -/
def SayBooksApply : Prop := ∀ (a0 : Option Addr) (r0 : List (List (List Value))) (cap0 : Nat) (n1 : Int) (w : World), Tr.Rows2 [(.int .i64), (.int .i64)] w a0 r0 cap0 → (Lit.int .i64 n1).wf = true →
  Calls Try.prog 7 #[.slice a0 r0.length cap0, .int .i64 n1] w fun e w' => e = .returned (.bool true) ∧ Below w.heap.size w w'
end Go.Proofs.Yteakfibolfapiaa
