import Derived.Test.YtjkfkgpdlflbhaaProg
import Derived.Test.YtjkfkgpdlflbhaaTrArgs
namespace Go.Proofs.Ytjkfkgpdlflbhaa
open Go.RowKit
/-- What the walk of GeoRoom has to show. -/
def SayGeoRoom : Prop := ∀ (c0 : List Value) (n1 : Int) (w : World), Tr.Cells [(.int .i64), (.int .i64), (.int .i64)] c0 → (Lit.int .i64 n1).wf = true →
  Calls Try.prog 4 #[.agg c0.toArray, .int .i64 n1] w fun e w' => e = .returned (.bool true) ∧ Below w.heap.size w w'
end Go.Proofs.Ytjkfkgpdlflbhaa
