/-
  No cell of these rows narrows 'for every input' (looked for: loops, veiled, ifaces, maps, wideKeys, modest, calm, conditions, laid).
  DERIVED. THE GIVEN ROWS OF THIS SEAT. 5 by the template 'for every input the law returns true; each argument reads behind the call as it read before'; 0 by the template 'total and deterministic' (their statements: YteakfibolfapiaaTotals.lean).
  GIVEN WITH THE SEED: the statements are not yours to turn. If you find one false, say at which input.
  Laid BY PROGRAM, IN A SANDBOX (cutbox-rows.mjs): the forced cells as the released guide's own fill.sh prints them over the translation 2aea9d6b891ba466… (all of the seat's roots in one cut). By AI agents, Wed Nov 11 2026. No macro, syntax, notation, axiom, sorry.
-/
import Derived.Test.YteakfibolfapiaaChecked
import GoSem.Claim
import GoSem.ClaimJoined
import GoSem.ClaimMapViews
import Derived.JoinedTies
import Derived.KernelRfl
namespace Go.Proofs.Yteakfibolfapiaa
/- THE CELL 'sum', in the pinned program and in every row, IS THE sha256 OF THE DUMP (.gsa) THAT YteakfibolfapiaaProg.lean LOADS. Nothing in Lean hashes anything: it is a label: what it is worth is what the hold of that sum in a sandbox is worth. -/
noncomputable def Try.pinned : Pinned := { name := "yteakfibolfapiaa", sum := "2aea9d6b891ba4660026c57a9ef769947b89f45d9e038159deb3e3c62806d53f", checked := Try.checked }
namespace Rows
def none {H : Type} : Left H := { results := [], args := [] }

/-- 'tillrolllaw21.ChartOrder': WHATEVER THE INPUT: true; the input reads as it did. -/
def chartOrderSpec : ChangeSpec := { name := "chartOrder", fn := fun _ => fun
  | [d1, d2] => { results := [.lit (.bool true)], args := [d1, d2] }
  | _ => none }
def chartOrderRow : OpenClaim := { program := "yteakfibolfapiaa", sum := "2aea9d6b891ba4660026c57a9ef769947b89f45d9e038159deb3e3c62806d53f", func := "tillroll/tillrolllaw21.ChartOrder", spec := "chartOrder", unfollowed := true, recurses := true, apart := false }
def ChartOrderSaid : Prop := chartOrderRow.holds Try.pinned (OpenSpec.ofChange chartOrderSpec)

/-- ITS FALSE NEIGHBOUR: 'it returns false'. Refute it at one input. -/
def chartOrderWrong : ChangeSpec := { name := "chartOrder", fn := fun _ => fun
  | [d1, d2] => { results := [.lit (.bool false)], args := [d1, d2] }
  | _ => none }
def ChartOrderWrongFalsely : Prop := chartOrderRow.holds Try.pinned (OpenSpec.ofChange chartOrderWrong)

/-- 'tillrolllaw23.BooksEven': WHATEVER THE INPUT: true; the input reads as it did. -/
def booksEvenSpec : ChangeSpec := { name := "booksEven", fn := fun _ => fun
  | [d] => { results := [.lit (.bool true)], args := [d] }
  | _ => none }
def booksEvenRow : OpenClaim := { program := "yteakfibolfapiaa", sum := "2aea9d6b891ba4660026c57a9ef769947b89f45d9e038159deb3e3c62806d53f", func := "tillroll/tillrolllaw23.BooksEven", spec := "booksEven", inPlace := ["math/bits.Add64", "maps.clone"], unfollowed := true, recurses := true, apart := false }
def BooksEvenSaid : Prop := booksEvenRow.holds Try.pinned (OpenSpec.ofChange booksEvenSpec)

/-- ITS FALSE NEIGHBOUR: 'it returns false'. Refute it at one input. -/
def booksEvenWrong : ChangeSpec := { name := "booksEven", fn := fun _ => fun
  | [d] => { results := [.lit (.bool false)], args := [d] }
  | _ => none }
def BooksEvenWrongFalsely : Prop := booksEvenRow.holds Try.pinned (OpenSpec.ofChange booksEvenWrong)

/-- 'tillrolllaw21.ChartReads': WHATEVER THE INPUT: true; the input reads as it did. -/
def chartReadsSpec : ChangeSpec := { name := "chartReads", fn := fun _ => fun
  | [d1, d2] => { results := [.lit (.bool true)], args := [d1, d2] }
  | _ => none }
def chartReadsRow : OpenClaim := { program := "yteakfibolfapiaa", sum := "2aea9d6b891ba4660026c57a9ef769947b89f45d9e038159deb3e3c62806d53f", func := "tillroll/tillrolllaw21.ChartReads", spec := "chartReads", unfollowed := true, recurses := true, apart := false }
def ChartReadsSaid : Prop := chartReadsRow.holds Try.pinned (OpenSpec.ofChange chartReadsSpec)

/-- ITS FALSE NEIGHBOUR: 'it returns false'. Refute it at one input. -/
def chartReadsWrong : ChangeSpec := { name := "chartReads", fn := fun _ => fun
  | [d1, d2] => { results := [.lit (.bool false)], args := [d1, d2] }
  | _ => none }
def ChartReadsWrongFalsely : Prop := chartReadsRow.holds Try.pinned (OpenSpec.ofChange chartReadsWrong)

/-- 'tillrolllaw21.ChartAdds': WHATEVER THE INPUT: true; the input reads as it did. -/
def chartAddsSpec : ChangeSpec := { name := "chartAdds", fn := fun _ => fun
  | [d1, d2] => { results := [.lit (.bool true)], args := [d1, d2] }
  | _ => none }
def chartAddsRow : OpenClaim := { program := "yteakfibolfapiaa", sum := "2aea9d6b891ba4660026c57a9ef769947b89f45d9e038159deb3e3c62806d53f", func := "tillroll/tillrolllaw21.ChartAdds", spec := "chartAdds", inPlace := ["maps.clone"], unfollowed := true, recurses := true, apart := false }
def ChartAddsSaid : Prop := chartAddsRow.holds Try.pinned (OpenSpec.ofChange chartAddsSpec)

/-- ITS FALSE NEIGHBOUR: 'it returns false'. Refute it at one input. -/
def chartAddsWrong : ChangeSpec := { name := "chartAdds", fn := fun _ => fun
  | [d1, d2] => { results := [.lit (.bool false)], args := [d1, d2] }
  | _ => none }
def ChartAddsWrongFalsely : Prop := chartAddsRow.holds Try.pinned (OpenSpec.ofChange chartAddsWrong)

/-- 'tillrolllaw23.BooksApply': WHATEVER THE INPUT: true; the input reads as it did. -/
def booksApplySpec : ChangeSpec := { name := "booksApply", fn := fun _ => fun
  | [d1, d2] => { results := [.lit (.bool true)], args := [d1, d2] }
  | _ => none }
def booksApplyRow : OpenClaim := { program := "yteakfibolfapiaa", sum := "2aea9d6b891ba4660026c57a9ef769947b89f45d9e038159deb3e3c62806d53f", func := "tillroll/tillrolllaw23.BooksApply", spec := "booksApply", inPlace := ["math/bits.Add64", "maps.clone"], unfollowed := true, recurses := true, apart := false }
def BooksApplySaid : Prop := booksApplyRow.holds Try.pinned (OpenSpec.ofChange booksApplySpec)

/-- ITS FALSE NEIGHBOUR: 'it returns false'. Refute it at one input. -/
def booksApplyWrong : ChangeSpec := { name := "booksApply", fn := fun _ => fun
  | [d1, d2] => { results := [.lit (.bool false)], args := [d1, d2] }
  | _ => none }
def BooksApplyWrongFalsely : Prop := booksApplyRow.holds Try.pinned (OpenSpec.ofChange booksApplyWrong)

/- THE SECOND FORM. 'bulk': how many values and letters a reading holds, each counted each time it is reached (what is shared counts as often as it is met; a slice's spare places count too). A statement '..UptoSaid' is the law's where the arguments, and the package variables that the reading takes, are together of bulk at most 1048576: NARROWER than '..Said'. Prove '..Said' where nothing that the law and all that it calls make is longer than what came in: it says more and counts as full. Else prove '..UptoSaid'. A law counts once. -/
mutual
def uptoBulk {H : Type} : DataW H → Nat
  | .lit (.string bytes) => bytes.length + 1
  | .lit _ => 1
  | .nil => 1
  | .ptr d => uptoBulk d + 1
  | .slice elems spare => uptoBulkAll elems + uptoBulkAll spare + 1
  | .agg parts => uptoBulkAll parts + 1
  | .iface _ d => uptoBulk d + 1
  | .map entries => uptoBulkEntries entries + 1
  | .held _ => 1
def uptoBulkAll {H : Type} : List (DataW H) → Nat
  | [] => 0
  | d :: r => uptoBulk d + uptoBulkAll r
def uptoBulkEntries {H : Type} : List (Lit × DataW H) → Nat
  | [] => 0
  | x :: r => uptoBulkEntry x + uptoBulkEntries r
def uptoBulkEntry {H : Type} : Lit × DataW H → Nat
  | (.string bytes, d) => bytes.length + uptoBulk d + 1
  | (_, d) => uptoBulk d + 1
 end
def uptoSmall : (H : Type) → List (DataW H) → Bool := fun _ ds => decide (uptoBulkAll ds ≤ 1048576)
def OpenSpec.upto (s : _root_.Go.ChangeSpec) : _root_.Go.OpenSpec := { _root_.Go.OpenSpec.ofChange s with cond := some uptoSmall }

/-- 'tillrolllaw21.ChartOrder', WHERE WHAT IT READS IS OF BULK AT MOST 1048576: true; the input reads as it did. -/
def chartOrderUptoRow : OpenClaim := { program := "yteakfibolfapiaa", sum := "2aea9d6b891ba4660026c57a9ef769947b89f45d9e038159deb3e3c62806d53f", func := "tillroll/tillrolllaw21.ChartOrder", spec := "chartOrder", unfollowed := true, recurses := true, apart := false, narrowed := true }
def ChartOrderUptoSaid : Prop := chartOrderUptoRow.holds Try.pinned (OpenSpec.upto chartOrderSpec)

/-- 'tillrolllaw23.BooksEven', WHERE WHAT IT READS IS OF BULK AT MOST 1048576: true; the input reads as it did. -/
def booksEvenUptoRow : OpenClaim := { program := "yteakfibolfapiaa", sum := "2aea9d6b891ba4660026c57a9ef769947b89f45d9e038159deb3e3c62806d53f", func := "tillroll/tillrolllaw23.BooksEven", spec := "booksEven", inPlace := ["math/bits.Add64", "maps.clone"], unfollowed := true, recurses := true, apart := false, narrowed := true }
def BooksEvenUptoSaid : Prop := booksEvenUptoRow.holds Try.pinned (OpenSpec.upto booksEvenSpec)

/-- 'tillrolllaw21.ChartReads', WHERE WHAT IT READS IS OF BULK AT MOST 1048576: true; the input reads as it did. -/
def chartReadsUptoRow : OpenClaim := { program := "yteakfibolfapiaa", sum := "2aea9d6b891ba4660026c57a9ef769947b89f45d9e038159deb3e3c62806d53f", func := "tillroll/tillrolllaw21.ChartReads", spec := "chartReads", unfollowed := true, recurses := true, apart := false, narrowed := true }
def ChartReadsUptoSaid : Prop := chartReadsUptoRow.holds Try.pinned (OpenSpec.upto chartReadsSpec)

/-- 'tillrolllaw21.ChartAdds', WHERE WHAT IT READS IS OF BULK AT MOST 1048576: true; the input reads as it did. -/
def chartAddsUptoRow : OpenClaim := { program := "yteakfibolfapiaa", sum := "2aea9d6b891ba4660026c57a9ef769947b89f45d9e038159deb3e3c62806d53f", func := "tillroll/tillrolllaw21.ChartAdds", spec := "chartAdds", inPlace := ["maps.clone"], unfollowed := true, recurses := true, apart := false, narrowed := true }
def ChartAddsUptoSaid : Prop := chartAddsUptoRow.holds Try.pinned (OpenSpec.upto chartAddsSpec)

/-- 'tillrolllaw23.BooksApply', WHERE WHAT IT READS IS OF BULK AT MOST 1048576: true; the input reads as it did. -/
def booksApplyUptoRow : OpenClaim := { program := "yteakfibolfapiaa", sum := "2aea9d6b891ba4660026c57a9ef769947b89f45d9e038159deb3e3c62806d53f", func := "tillroll/tillrolllaw23.BooksApply", spec := "booksApply", inPlace := ["math/bits.Add64", "maps.clone"], unfollowed := true, recurses := true, apart := false, narrowed := true }
def BooksApplyUptoSaid : Prop := booksApplyUptoRow.holds Try.pinned (OpenSpec.upto booksApplySpec)

end Rows
end Go.Proofs.Yteakfibolfapiaa
