import Derived.Test.YtjkfkgpdlflbhaaProg
import Derived.Test.YtjkfkgpdlflbhaaTrArgs
namespace Go.Proofs.Ytjkfkgpdlflbhaa
open Go.RowKit
/-- What the walk of GeoChecks has to show. -/
def SayGeoChecks : Prop := ∀ (c0 : List Value) (w : World), Tr.Cells [(.int .i64), (.int .i64), (.int .i64), (.int .i64), (.int .i64), (.int .i64), (.int .i64)] c0 →
  Calls Try.prog 3 #[.agg c0.toArray] w fun e w' => e = .returned (.bool true) ∧ Below w.heap.size w w'
end Go.Proofs.Ytjkfkgpdlflbhaa
