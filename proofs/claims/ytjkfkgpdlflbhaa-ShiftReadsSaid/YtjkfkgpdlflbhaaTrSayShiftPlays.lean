import Derived.Test.YtjkfkgpdlflbhaaProg
import Derived.Test.YtjkfkgpdlflbhaaTrArgs
namespace Go.Proofs.Ytjkfkgpdlflbhaa
open Go.RowKit
/-- What the walk of ShiftPlays has to show. -/
def SayShiftPlays : Prop := ∀ (n0 : Int) (a1 : Option Addr) (r1 : List (List Value)) (cap1 : Nat) (n2 : Int) (w : World), (Lit.int .i64 n0).wf = true → Tr.Rows [(.int .i64), (.int .u8), (.int .i64)] w a1 r1 cap1 → (Lit.int .i64 n2).wf = true →
  Calls Try.prog 9 #[.int .i64 n0, .slice a1 r1.length cap1, .int .i64 n2] w fun e w' => e = .returned (.bool true) ∧ Below w.heap.size w w'
end Go.Proofs.Ytjkfkgpdlflbhaa
