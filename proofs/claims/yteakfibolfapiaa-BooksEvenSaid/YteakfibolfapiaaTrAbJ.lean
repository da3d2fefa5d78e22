/- What is known of the world all along: nothing. -/
import Derived.Test.YteakfibolfapiaaTrHeap
namespace Go.Proofs.Yteakfibolfapiaa.Ab
def J (_ : World) : Prop := True
/-- The structs that may be compared. -/
def eqT (t : Nat) : Bool := t == 31
/-- The variables of the program that may be read: type, number. -/
def globs (t _g : Nat) : Bool := t == 1 && t == 2
end Go.Proofs.Yteakfibolfapiaa.Ab
