/-
  No cell of these rows narrows 'for every input' (looked for: loops, veiled, ifaces, maps, wideKeys, modest, calm, conditions, laid).
  DERIVED. THE GIVEN ROWS OF THIS SEAT. 8 by the template 'for every input the law returns true; each argument reads behind the call as it read before'; 0 by the template 'total and deterministic' (their statements: YtjkfkgpdlflbhaaTotals.lean).
  GIVEN WITH THE SEED: the statements are not yours to turn. If you find one false, say at which input.
  Laid BY PROGRAM, IN A SANDBOX (cutbox-rows.mjs): the forced cells as the released guide's own fill.sh prints them over the translation f153ee9a013d6421… (all of the seat's roots in one cut). By AI agents, Wed Nov 11 2026. No macro, syntax, notation, axiom, sorry.
-/
import Derived.Test.YtjkfkgpdlflbhaaChecked
import GoSem.Claim
import GoSem.ClaimJoined
import GoSem.ClaimMapViews
import Derived.JoinedTies
import Derived.KernelRfl
namespace Go.Proofs.Ytjkfkgpdlflbhaa
/- THE CELL 'sum', in the pinned program and in every row, IS THE sha256 OF THE DUMP (.gsa) THAT YtjkfkgpdlflbhaaProg.lean LOADS. Nothing in Lean hashes anything: it is a label: what it is worth is what the hold of that sum in a sandbox is worth. -/
noncomputable def Try.pinned : Pinned := { name := "ytjkfkgpdlflbhaa", sum := "f153ee9a013d6421b8c54890c87a3d5230c41c2f3fd46e03ae930ce4d4935346", checked := Try.checked }
namespace Rows
def none {H : Type} : Left H := { results := [], args := [] }

/-- 'tillrolllaw07.GeoChecks': WHATEVER THE INPUT: true; the input reads as it did. -/
def geoChecksSpec : ChangeSpec := { name := "geoChecks", fn := fun _ => fun
  | [d] => { results := [.lit (.bool true)], args := [d] }
  | _ => none }
def geoChecksRow : OpenClaim := { program := "ytjkfkgpdlflbhaa", sum := "f153ee9a013d6421b8c54890c87a3d5230c41c2f3fd46e03ae930ce4d4935346", func := "tillroll/tillrolllaw07.GeoChecks", spec := "geoChecks", apart := false }
def GeoChecksSaid : Prop := geoChecksRow.holds Try.pinned (OpenSpec.ofChange geoChecksSpec)

/-- ITS FALSE NEIGHBOUR: 'it returns false'. Refute it at one input. -/
def geoChecksWrong : ChangeSpec := { name := "geoChecks", fn := fun _ => fun
  | [d] => { results := [.lit (.bool false)], args := [d] }
  | _ => none }
def GeoChecksWrongFalsely : Prop := geoChecksRow.holds Try.pinned (OpenSpec.ofChange geoChecksWrong)

/-- 'tillrolllaw07.GeoRoom': WHATEVER THE INPUT: true; the input reads as it did. -/
def geoRoomSpec : ChangeSpec := { name := "geoRoom", fn := fun _ => fun
  | [d1, d2] => { results := [.lit (.bool true)], args := [d1, d2] }
  | _ => none }
def geoRoomRow : OpenClaim := { program := "ytjkfkgpdlflbhaa", sum := "f153ee9a013d6421b8c54890c87a3d5230c41c2f3fd46e03ae930ce4d4935346", func := "tillroll/tillrolllaw07.GeoRoom", spec := "geoRoom", apart := false }
def GeoRoomSaid : Prop := geoRoomRow.holds Try.pinned (OpenSpec.ofChange geoRoomSpec)

/-- ITS FALSE NEIGHBOUR: 'it returns false'. Refute it at one input. -/
def geoRoomWrong : ChangeSpec := { name := "geoRoom", fn := fun _ => fun
  | [d1, d2] => { results := [.lit (.bool false)], args := [d1, d2] }
  | _ => none }
def GeoRoomWrongFalsely : Prop := geoRoomRow.holds Try.pinned (OpenSpec.ofChange geoRoomWrong)

/-- 'tillrolllaw07.GeoWins': WHATEVER THE INPUT: true; the input reads as it did. -/
def geoWinsSpec : ChangeSpec := { name := "geoWins", fn := fun _ => fun
  | [d1, d2] => { results := [.lit (.bool true)], args := [d1, d2] }
  | _ => none }
def geoWinsRow : OpenClaim := { program := "ytjkfkgpdlflbhaa", sum := "f153ee9a013d6421b8c54890c87a3d5230c41c2f3fd46e03ae930ce4d4935346", func := "tillroll/tillrolllaw07.GeoWins", spec := "geoWins", apart := false }
def GeoWinsSaid : Prop := geoWinsRow.holds Try.pinned (OpenSpec.ofChange geoWinsSpec)

/-- ITS FALSE NEIGHBOUR: 'it returns false'. Refute it at one input. -/
def geoWinsWrong : ChangeSpec := { name := "geoWins", fn := fun _ => fun
  | [d1, d2] => { results := [.lit (.bool false)], args := [d1, d2] }
  | _ => none }
def GeoWinsWrongFalsely : Prop := geoWinsRow.holds Try.pinned (OpenSpec.ofChange geoWinsWrong)

/-- 'tillrolllaw07.GeoGrows': WHATEVER THE INPUT: true; the input reads as it did. -/
def geoGrowsSpec : ChangeSpec := { name := "geoGrows", fn := fun _ => fun
  | [d] => { results := [.lit (.bool true)], args := [d] }
  | _ => none }
def geoGrowsRow : OpenClaim := { program := "ytjkfkgpdlflbhaa", sum := "f153ee9a013d6421b8c54890c87a3d5230c41c2f3fd46e03ae930ce4d4935346", func := "tillroll/tillrolllaw07.GeoGrows", spec := "geoGrows", apart := false }
def GeoGrowsSaid : Prop := geoGrowsRow.holds Try.pinned (OpenSpec.ofChange geoGrowsSpec)

/-- ITS FALSE NEIGHBOUR: 'it returns false'. Refute it at one input. -/
def geoGrowsWrong : ChangeSpec := { name := "geoGrows", fn := fun _ => fun
  | [d] => { results := [.lit (.bool false)], args := [d] }
  | _ => none }
def GeoGrowsWrongFalsely : Prop := geoGrowsRow.holds Try.pinned (OpenSpec.ofChange geoGrowsWrong)

/-- 'tillrolllaw26.ShiftKeeps': WHATEVER THE INPUT: true; the input reads as it did. -/
def shiftKeepsSpec : ChangeSpec := { name := "shiftKeeps", fn := fun _ => fun
  | [d] => { results := [.lit (.bool true)], args := [d] }
  | _ => none }
def shiftKeepsRow : OpenClaim := { program := "ytjkfkgpdlflbhaa", sum := "f153ee9a013d6421b8c54890c87a3d5230c41c2f3fd46e03ae930ce4d4935346", func := "tillroll/tillrolllaw26.ShiftKeeps", spec := "shiftKeeps", inPlace := ["math/bits.Add64"], apart := false }
def ShiftKeepsSaid : Prop := shiftKeepsRow.holds Try.pinned (OpenSpec.ofChange shiftKeepsSpec)

/-- ITS FALSE NEIGHBOUR: 'it returns false'. Refute it at one input. -/
def shiftKeepsWrong : ChangeSpec := { name := "shiftKeeps", fn := fun _ => fun
  | [d] => { results := [.lit (.bool false)], args := [d] }
  | _ => none }
def ShiftKeepsWrongFalsely : Prop := shiftKeepsRow.holds Try.pinned (OpenSpec.ofChange shiftKeepsWrong)

/-- 'tillrolllaw26.ShiftTill': WHATEVER THE INPUT: true; the input reads as it did. -/
def shiftTillSpec : ChangeSpec := { name := "shiftTill", fn := fun _ => fun
  | [d1, d2] => { results := [.lit (.bool true)], args := [d1, d2] }
  | _ => none }
def shiftTillRow : OpenClaim := { program := "ytjkfkgpdlflbhaa", sum := "f153ee9a013d6421b8c54890c87a3d5230c41c2f3fd46e03ae930ce4d4935346", func := "tillroll/tillrolllaw26.ShiftTill", spec := "shiftTill", inPlace := ["math/bits.Add64"], apart := false }
def ShiftTillSaid : Prop := shiftTillRow.holds Try.pinned (OpenSpec.ofChange shiftTillSpec)

/-- ITS FALSE NEIGHBOUR: 'it returns false'. Refute it at one input. -/
def shiftTillWrong : ChangeSpec := { name := "shiftTill", fn := fun _ => fun
  | [d1, d2] => { results := [.lit (.bool false)], args := [d1, d2] }
  | _ => none }
def ShiftTillWrongFalsely : Prop := shiftTillRow.holds Try.pinned (OpenSpec.ofChange shiftTillWrong)

/-- 'tillrolllaw26.ShiftPlays': WHATEVER THE INPUT: true; the input reads as it did. -/
def shiftPlaysSpec : ChangeSpec := { name := "shiftPlays", fn := fun _ => fun
  | [d1, d2, d3] => { results := [.lit (.bool true)], args := [d1, d2, d3] }
  | _ => none }
def shiftPlaysRow : OpenClaim := { program := "ytjkfkgpdlflbhaa", sum := "f153ee9a013d6421b8c54890c87a3d5230c41c2f3fd46e03ae930ce4d4935346", func := "tillroll/tillrolllaw26.ShiftPlays", spec := "shiftPlays", inPlace := ["math/bits.Add64"], apart := false }
def ShiftPlaysSaid : Prop := shiftPlaysRow.holds Try.pinned (OpenSpec.ofChange shiftPlaysSpec)

/-- ITS FALSE NEIGHBOUR: 'it returns false'. Refute it at one input. -/
def shiftPlaysWrong : ChangeSpec := { name := "shiftPlays", fn := fun _ => fun
  | [d1, d2, d3] => { results := [.lit (.bool false)], args := [d1, d2, d3] }
  | _ => none }
def ShiftPlaysWrongFalsely : Prop := shiftPlaysRow.holds Try.pinned (OpenSpec.ofChange shiftPlaysWrong)

/-- 'tillrolllaw26.ShiftReads': WHATEVER THE INPUT: true; the input reads as it did. -/
def shiftReadsSpec : ChangeSpec := { name := "shiftReads", fn := fun _ => fun
  | [d1, d2, d3] => { results := [.lit (.bool true)], args := [d1, d2, d3] }
  | _ => none }
def shiftReadsRow : OpenClaim := { program := "ytjkfkgpdlflbhaa", sum := "f153ee9a013d6421b8c54890c87a3d5230c41c2f3fd46e03ae930ce4d4935346", func := "tillroll/tillrolllaw26.ShiftReads", spec := "shiftReads", inPlace := ["math/bits.Add64"], apart := false }
def ShiftReadsSaid : Prop := shiftReadsRow.holds Try.pinned (OpenSpec.ofChange shiftReadsSpec)

/-- ITS FALSE NEIGHBOUR: 'it returns false'. Refute it at one input. -/
def shiftReadsWrong : ChangeSpec := { name := "shiftReads", fn := fun _ => fun
  | [d1, d2, d3] => { results := [.lit (.bool false)], args := [d1, d2, d3] }
  | _ => none }
def ShiftReadsWrongFalsely : Prop := shiftReadsRow.holds Try.pinned (OpenSpec.ofChange shiftReadsWrong)

/- THE SECOND FORM. 'bulk': how many values and letters a reading holds, each counted each time it is reached (what is shared counts as often as it is met; a slice's spare places count too). A statement '..UptoSaid' is the law's where the arguments, and the package variables that the reading takes, are together of bulk at most 1048576: NARROWER than '..Said'. Prove '..Said' where nothing that the law and all that it calls make is longer than what came in: it says more and counts as full. Else prove '..UptoSaid'. A law counts once. -/
mutual
def uptoBulk {H : Type} : DataW H → Nat
  | .lit (.string bytes) => bytes.length + 1
  | .lit _ => 1
  | .nil => 1
  | .ptr d => uptoBulk d + 1
  | .slice elems spare => uptoBulkAll elems + uptoBulkAll spare + 1
  | .agg parts => uptoBulkAll parts + 1
  | .iface _ d => uptoBulk d + 1
  | .map entries => uptoBulkEntries entries + 1
  | .held _ => 1
def uptoBulkAll {H : Type} : List (DataW H) → Nat
  | [] => 0
  | d :: r => uptoBulk d + uptoBulkAll r
def uptoBulkEntries {H : Type} : List (Lit × DataW H) → Nat
  | [] => 0
  | x :: r => uptoBulkEntry x + uptoBulkEntries r
def uptoBulkEntry {H : Type} : Lit × DataW H → Nat
  | (.string bytes, d) => bytes.length + uptoBulk d + 1
  | (_, d) => uptoBulk d + 1
 end
def uptoSmall : (H : Type) → List (DataW H) → Bool := fun _ ds => decide (uptoBulkAll ds ≤ 1048576)
def OpenSpec.upto (s : _root_.Go.ChangeSpec) : _root_.Go.OpenSpec := { _root_.Go.OpenSpec.ofChange s with cond := some uptoSmall }

/-- 'tillrolllaw07.GeoChecks', WHERE WHAT IT READS IS OF BULK AT MOST 1048576: true; the input reads as it did. -/
def geoChecksUptoRow : OpenClaim := { program := "ytjkfkgpdlflbhaa", sum := "f153ee9a013d6421b8c54890c87a3d5230c41c2f3fd46e03ae930ce4d4935346", func := "tillroll/tillrolllaw07.GeoChecks", spec := "geoChecks", apart := false, narrowed := true }
def GeoChecksUptoSaid : Prop := geoChecksUptoRow.holds Try.pinned (OpenSpec.upto geoChecksSpec)

/-- 'tillrolllaw07.GeoRoom', WHERE WHAT IT READS IS OF BULK AT MOST 1048576: true; the input reads as it did. -/
def geoRoomUptoRow : OpenClaim := { program := "ytjkfkgpdlflbhaa", sum := "f153ee9a013d6421b8c54890c87a3d5230c41c2f3fd46e03ae930ce4d4935346", func := "tillroll/tillrolllaw07.GeoRoom", spec := "geoRoom", apart := false, narrowed := true }
def GeoRoomUptoSaid : Prop := geoRoomUptoRow.holds Try.pinned (OpenSpec.upto geoRoomSpec)

/-- 'tillrolllaw07.GeoWins', WHERE WHAT IT READS IS OF BULK AT MOST 1048576: true; the input reads as it did. -/
def geoWinsUptoRow : OpenClaim := { program := "ytjkfkgpdlflbhaa", sum := "f153ee9a013d6421b8c54890c87a3d5230c41c2f3fd46e03ae930ce4d4935346", func := "tillroll/tillrolllaw07.GeoWins", spec := "geoWins", apart := false, narrowed := true }
def GeoWinsUptoSaid : Prop := geoWinsUptoRow.holds Try.pinned (OpenSpec.upto geoWinsSpec)

/-- 'tillrolllaw07.GeoGrows', WHERE WHAT IT READS IS OF BULK AT MOST 1048576: true; the input reads as it did. -/
def geoGrowsUptoRow : OpenClaim := { program := "ytjkfkgpdlflbhaa", sum := "f153ee9a013d6421b8c54890c87a3d5230c41c2f3fd46e03ae930ce4d4935346", func := "tillroll/tillrolllaw07.GeoGrows", spec := "geoGrows", apart := false, narrowed := true }
def GeoGrowsUptoSaid : Prop := geoGrowsUptoRow.holds Try.pinned (OpenSpec.upto geoGrowsSpec)

/-- 'tillrolllaw26.ShiftKeeps', WHERE WHAT IT READS IS OF BULK AT MOST 1048576: true; the input reads as it did. -/
def shiftKeepsUptoRow : OpenClaim := { program := "ytjkfkgpdlflbhaa", sum := "f153ee9a013d6421b8c54890c87a3d5230c41c2f3fd46e03ae930ce4d4935346", func := "tillroll/tillrolllaw26.ShiftKeeps", spec := "shiftKeeps", inPlace := ["math/bits.Add64"], apart := false, narrowed := true }
def ShiftKeepsUptoSaid : Prop := shiftKeepsUptoRow.holds Try.pinned (OpenSpec.upto shiftKeepsSpec)

/-- 'tillrolllaw26.ShiftTill', WHERE WHAT IT READS IS OF BULK AT MOST 1048576: true; the input reads as it did. -/
def shiftTillUptoRow : OpenClaim := { program := "ytjkfkgpdlflbhaa", sum := "f153ee9a013d6421b8c54890c87a3d5230c41c2f3fd46e03ae930ce4d4935346", func := "tillroll/tillrolllaw26.ShiftTill", spec := "shiftTill", inPlace := ["math/bits.Add64"], apart := false, narrowed := true }
def ShiftTillUptoSaid : Prop := shiftTillUptoRow.holds Try.pinned (OpenSpec.upto shiftTillSpec)

/-- 'tillrolllaw26.ShiftPlays', WHERE WHAT IT READS IS OF BULK AT MOST 1048576: true; the input reads as it did. -/
def shiftPlaysUptoRow : OpenClaim := { program := "ytjkfkgpdlflbhaa", sum := "f153ee9a013d6421b8c54890c87a3d5230c41c2f3fd46e03ae930ce4d4935346", func := "tillroll/tillrolllaw26.ShiftPlays", spec := "shiftPlays", inPlace := ["math/bits.Add64"], apart := false, narrowed := true }
def ShiftPlaysUptoSaid : Prop := shiftPlaysUptoRow.holds Try.pinned (OpenSpec.upto shiftPlaysSpec)

/-- 'tillrolllaw26.ShiftReads', WHERE WHAT IT READS IS OF BULK AT MOST 1048576: true; the input reads as it did. -/
def shiftReadsUptoRow : OpenClaim := { program := "ytjkfkgpdlflbhaa", sum := "f153ee9a013d6421b8c54890c87a3d5230c41c2f3fd46e03ae930ce4d4935346", func := "tillroll/tillrolllaw26.ShiftReads", spec := "shiftReads", inPlace := ["math/bits.Add64"], apart := false, narrowed := true }
def ShiftReadsUptoSaid : Prop := shiftReadsUptoRow.holds Try.pinned (OpenSpec.upto shiftReadsSpec)

end Rows
end Go.Proofs.Ytjkfkgpdlflbhaa
