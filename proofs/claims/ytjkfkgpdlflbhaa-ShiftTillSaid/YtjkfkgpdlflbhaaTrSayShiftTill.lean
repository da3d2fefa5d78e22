import Derived.Test.YtjkfkgpdlflbhaaProg
import Derived.Test.YtjkfkgpdlflbhaaTrArgs
namespace Go.Proofs.Ytjkfkgpdlflbhaa
open Go.RowKit
/-- What the walk of ShiftTill has to show. -/
def SayShiftTill : Prop := ∀ (n0 : Int) (c1 : List Value) (w : World), (Lit.int .i64 n0).wf = true → Tr.Cells [(.int .i64), (.int .i64), (.int .i64), (.int .i64), (.int .i64)] c1 →
  Calls Try.prog 8 #[.int .i64 n0, .agg c1.toArray] w fun e w' => e = .returned (.bool true) ∧ Below w.heap.size w w'
end Go.Proofs.Ytjkfkgpdlflbhaa
