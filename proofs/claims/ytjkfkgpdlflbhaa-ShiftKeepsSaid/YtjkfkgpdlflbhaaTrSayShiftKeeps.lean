import Derived.Test.YtjkfkgpdlflbhaaProg
import Derived.Test.YtjkfkgpdlflbhaaTrArgs
namespace Go.Proofs.Ytjkfkgpdlflbhaa
open Go.RowKit
/-- What the walk of ShiftKeeps has to show. -/
def SayShiftKeeps : Prop := ∀ (a0 : Option Addr) (r0 : List (List Value)) (cap0 : Nat) (w : World), Tr.Rows [(.int .i64), (.int .u8), (.int .i64)] w a0 r0 cap0 →
  Calls Try.prog 7 #[.slice a0 r0.length cap0] w fun e w' => e = .returned (.bool true) ∧ Below w.heap.size w w'
end Go.Proofs.Ytjkfkgpdlflbhaa
