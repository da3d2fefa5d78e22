import Derived.Test.YtjkfkgpdlflbhaaProg
import Derived.Test.YtjkfkgpdlflbhaaTrArgs
namespace Go.Proofs.Ytjkfkgpdlflbhaa
open Go.RowKit
/-- What the walk of ShiftReads has to show. -/
def SayShiftReads : Prop := ∀ (s0 : ByteArray) (a1 : Option Addr) (r1 : List (List Value)) (cap1 : Nat) (c2 : List Value) (w : World), s0.size ≤ 140737488351232 → Tr.Rows [(.int .i64), (.int .u8), (.int .i64)] w a1 r1 cap1 → Tr.Cells [(.int .u16), (.int .u16)] c2 →
  Calls Try.prog 10 #[.string s0, .slice a1 r1.length cap1, .agg c2.toArray] w fun e w' => e = .returned (.bool true) ∧ Below w.heap.size w w'
end Go.Proofs.Ytjkfkgpdlflbhaa
