import Derived.Test.YtjkfkgpdlflbhaaProg
import Derived.Test.YtjkfkgpdlflbhaaTrArgs
namespace Go.Proofs.Ytjkfkgpdlflbhaa
open Go.RowKit
/-- What the walk of GeoWins has to show. -/
def SayGeoWins : Prop := ∀ (c0 : List Value) (a1 : Option Addr) (r1 : List (List Value)) (cap1 : Nat) (w : World), Tr.Cells [(.int .i64), (.int .i64), (.int .i64), (.int .i64), (.int .i64), (.int .i64), (.int .i64)] c0 → Tr.Rows [(.int .u8)] w a1 r1 cap1 →
  Calls Try.prog 5 #[.agg c0.toArray, .slice a1 r1.length cap1] w fun e w' => e = .returned (.bool true) ∧ Below w.heap.size w w'
end Go.Proofs.Ytjkfkgpdlflbhaa
