/-
  DERIVED. GIVEN WITH THE SEED: THE CARDS: each row of YtjkfkgpdlflbhaaDoorRows.lean that lists a variable, with what it lists TIED to the program's text (the seventh form; the later family's looks); each row that meets fmt, with fmt's text TOLD by the authors' own Lean function (tested against real Go, not proved from fmt's source: count such statements apart). THE CARD IS WHAT COUNTS. Prove the row's statement (the work); the ties are given (YtjkfkgpdlflbhaaDoorTie.lean); close each card by the builder's one call (the guide's Derived/Test/ToyasCard.lean, 'card_holds'). Laid BY PROGRAM, IN A SANDBOX (cutbox-door.mjs). By AI agents, Wed Nov 11 2026. No macro, syntax, notation, axiom, sorry.
-/
import Derived.Test.YtjkfkgpdlflbhaaDoorRows
import GoSem.ClaimSeven
namespace Go.Proofs.YtjkfkgpdlflbhaaDoor
namespace Rows

/-- THE TIED CARD OF 'tillrolllaw26.ShiftReports'. -/
def shiftReportsCard : Claim7 := { stood := { row := shiftReportsRow, standIns := [], harness := (true, "c7f23d383bdaa1de86169a0f52fbba1b25e49da28cfeb89dcb0ebc724adf48bc"), looks := false }, kinds := [], alts := [], laidByText := true, laidKinds := [.data, .data, .data], laidTests := true, laidLooks := .later }
def ShiftReportsCardSaid : Prop := Claim7.holds Tryd.pinned (.plain (OpenSpec.ofChange shiftReportsSpec)) shiftReportsCard

/-- THE SECOND FORM's CARD OF 'tillrolllaw26.ShiftReports'. -/
def shiftReportsUptoCard : Claim7 := { stood := { row := shiftReportsUptoRow, standIns := [], harness := (true, "c7f23d383bdaa1de86169a0f52fbba1b25e49da28cfeb89dcb0ebc724adf48bc"), looks := false }, kinds := [], alts := [], laidByText := true, laidKinds := [.data, .data, .data], laidTests := true, laidLooks := .later }
def ShiftReportsUptoCardSaid : Prop := Claim7.holds Tryd.pinned (.plain (OpenSpec.upto shiftReportsSpec)) shiftReportsUptoCard
end Rows
end Go.Proofs.YtjkfkgpdlflbhaaDoor
