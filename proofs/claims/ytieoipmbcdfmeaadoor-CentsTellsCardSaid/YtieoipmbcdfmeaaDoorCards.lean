/-
  DERIVED. GIVEN WITH THE SEED: THE CARDS: each row of YtieoipmbcdfmeaaDoorRows.lean that lists a variable, with what it lists TIED to the program's text (the seventh form; the later family's looks); each row that meets fmt, with fmt's text TOLD by the authors' own Lean function (tested against real Go, not proved from fmt's source: count such statements apart). THE CARD IS WHAT COUNTS. Prove the row's statement (the work); the ties are given (YtieoipmbcdfmeaaDoorTie.lean); close each card by the builder's one call (the guide's Derived/Test/ToyasCard.lean, 'card_holds'). Laid BY PROGRAM, IN A SANDBOX (cutbox-door.mjs). By AI agents, Wed Nov 11 2026. No macro, syntax, notation, axiom, sorry.
-/
import Derived.Test.YtieoipmbcdfmeaaDoorRows
import GoSem.ClaimSeven
namespace Go.Proofs.YtieoipmbcdfmeaaDoor
namespace Rows

/-- THE TIED CARD OF 'tillrolllaw03.CentsTotals'. -/
def centsTotalsCard : Claim7 := { stood := { row := centsTotalsRow, standIns := [], harness := (true, "bcf9a30e66194d3555a2e083196b28ebd135e3cd46e0dabc993b2b93f369266a"), looks := true }, kinds := [], alts := [], laidByText := true, laidKinds := [.data, .data, .data, .sentinel, .sentinel], laidTests := true, laidLooks := .later }
def CentsTotalsCardSaid : Prop := Claim7.holds Tryd.pinned (.plain (OpenSpec.ofChange centsTotalsSpec)) centsTotalsCard

/-- THE TIED CARD OF 'tillrolllaw03.CentsTells'. -/
def centsTellsCard : Claim7 := { stood := { row := centsTellsRow, standIns := [], harness := (true, "bcf9a30e66194d3555a2e083196b28ebd135e3cd46e0dabc993b2b93f369266a"), looks := true }, kinds := [], alts := [], laidByText := true, laidKinds := [.data, .data, .data, .sentinel, .sentinel], laidTests := true, laidLooks := .later }
def CentsTellsCardSaid : Prop := Claim7.holds Tryd.pinned (.plain (OpenSpec.ofChange centsTellsSpec)) centsTellsCard

/-- THE TIED CARD OF 'tillrolllaw03.CentsOrder'. -/
def centsOrderCard : Claim7 := { stood := { row := centsOrderRow, standIns := [], harness := (true, "bcf9a30e66194d3555a2e083196b28ebd135e3cd46e0dabc993b2b93f369266a"), looks := true }, kinds := [], alts := [], laidByText := true, laidKinds := [.data, .data, .data, .sentinel, .sentinel], laidTests := true, laidLooks := .later }
def CentsOrderCardSaid : Prop := Claim7.holds Tryd.pinned (.plain (OpenSpec.ofChange centsOrderSpec)) centsOrderCard

/-- THE TIED CARD OF 'tillrolllaw03.CentsTimes'. -/
def centsTimesCard : Claim7 := { stood := { row := centsTimesRow, standIns := [], harness := (true, "bcf9a30e66194d3555a2e083196b28ebd135e3cd46e0dabc993b2b93f369266a"), looks := true }, kinds := [], alts := [], laidByText := true, laidKinds := [.data, .data, .data, .sentinel, .sentinel], laidTests := true, laidLooks := .later }
def CentsTimesCardSaid : Prop := Claim7.holds Tryd.pinned (.plain (OpenSpec.ofChange centsTimesSpec)) centsTimesCard

/-- THE TIED CARD OF 'tillrolllaw03.CentsAdds'. -/
def centsAddsCard : Claim7 := { stood := { row := centsAddsRow, standIns := [], harness := (true, "bcf9a30e66194d3555a2e083196b28ebd135e3cd46e0dabc993b2b93f369266a"), looks := true }, kinds := [], alts := [], laidByText := true, laidKinds := [.data, .data, .data, .sentinel, .sentinel], laidTests := true, laidLooks := .later }
def CentsAddsCardSaid : Prop := Claim7.holds Tryd.pinned (.plain (OpenSpec.ofChange centsAddsSpec)) centsAddsCard

/-- THE TIED CARD OF 'tillrolllaw23.BooksSheet'. -/
def booksSheetCard : Claim7 := { stood := { row := booksSheetRow, standIns := [], harness := (true, "bcf9a30e66194d3555a2e083196b28ebd135e3cd46e0dabc993b2b93f369266a"), looks := true }, kinds := [], alts := [], laidByText := true, laidKinds := [.data, .data, .data], laidTests := true, laidLooks := .later }
def BooksSheetCardSaid : Prop := Claim7.holds Tryd.pinned (.plain (OpenSpec.ofChange booksSheetSpec)) booksSheetCard

/-- THE SECOND FORM's CARD OF 'tillrolllaw03.CentsTotals'. -/
def centsTotalsUptoCard : Claim7 := { stood := { row := centsTotalsUptoRow, standIns := [], harness := (true, "bcf9a30e66194d3555a2e083196b28ebd135e3cd46e0dabc993b2b93f369266a"), looks := true }, kinds := [], alts := [], laidByText := true, laidKinds := [.data, .data, .data, .sentinel, .sentinel], laidTests := true, laidLooks := .later }
def CentsTotalsUptoCardSaid : Prop := Claim7.holds Tryd.pinned (.plain (OpenSpec.upto centsTotalsSpec)) centsTotalsUptoCard

/-- THE SECOND FORM's CARD OF 'tillrolllaw03.CentsTells'. -/
def centsTellsUptoCard : Claim7 := { stood := { row := centsTellsUptoRow, standIns := [], harness := (true, "bcf9a30e66194d3555a2e083196b28ebd135e3cd46e0dabc993b2b93f369266a"), looks := true }, kinds := [], alts := [], laidByText := true, laidKinds := [.data, .data, .data, .sentinel, .sentinel], laidTests := true, laidLooks := .later }
def CentsTellsUptoCardSaid : Prop := Claim7.holds Tryd.pinned (.plain (OpenSpec.upto centsTellsSpec)) centsTellsUptoCard

/-- THE SECOND FORM's CARD OF 'tillrolllaw03.CentsOrder'. -/
def centsOrderUptoCard : Claim7 := { stood := { row := centsOrderUptoRow, standIns := [], harness := (true, "bcf9a30e66194d3555a2e083196b28ebd135e3cd46e0dabc993b2b93f369266a"), looks := true }, kinds := [], alts := [], laidByText := true, laidKinds := [.data, .data, .data, .sentinel, .sentinel], laidTests := true, laidLooks := .later }
def CentsOrderUptoCardSaid : Prop := Claim7.holds Tryd.pinned (.plain (OpenSpec.upto centsOrderSpec)) centsOrderUptoCard

/-- THE SECOND FORM's CARD OF 'tillrolllaw03.CentsTimes'. -/
def centsTimesUptoCard : Claim7 := { stood := { row := centsTimesUptoRow, standIns := [], harness := (true, "bcf9a30e66194d3555a2e083196b28ebd135e3cd46e0dabc993b2b93f369266a"), looks := true }, kinds := [], alts := [], laidByText := true, laidKinds := [.data, .data, .data, .sentinel, .sentinel], laidTests := true, laidLooks := .later }
def CentsTimesUptoCardSaid : Prop := Claim7.holds Tryd.pinned (.plain (OpenSpec.upto centsTimesSpec)) centsTimesUptoCard

/-- THE SECOND FORM's CARD OF 'tillrolllaw03.CentsAdds'. -/
def centsAddsUptoCard : Claim7 := { stood := { row := centsAddsUptoRow, standIns := [], harness := (true, "bcf9a30e66194d3555a2e083196b28ebd135e3cd46e0dabc993b2b93f369266a"), looks := true }, kinds := [], alts := [], laidByText := true, laidKinds := [.data, .data, .data, .sentinel, .sentinel], laidTests := true, laidLooks := .later }
def CentsAddsUptoCardSaid : Prop := Claim7.holds Tryd.pinned (.plain (OpenSpec.upto centsAddsSpec)) centsAddsUptoCard

/-- THE SECOND FORM's CARD OF 'tillrolllaw23.BooksSheet'. -/
def booksSheetUptoCard : Claim7 := { stood := { row := booksSheetUptoRow, standIns := [], harness := (true, "bcf9a30e66194d3555a2e083196b28ebd135e3cd46e0dabc993b2b93f369266a"), looks := true }, kinds := [], alts := [], laidByText := true, laidKinds := [.data, .data, .data], laidTests := true, laidLooks := .later }
def BooksSheetUptoCardSaid : Prop := Claim7.holds Tryd.pinned (.plain (OpenSpec.upto booksSheetSpec)) booksSheetUptoCard
end Rows
end Go.Proofs.YtieoipmbcdfmeaaDoor
