/-
  DERIVED. GIVEN WITH THE SEED: THE CARDS: each row of YtmijalhilalaoaaDoorRows.lean that lists a variable, with what it lists TIED to the program's text (the seventh form; the later family's looks); each row that meets fmt, with fmt's text TOLD by the authors' own Lean function (tested against real Go, not proved from fmt's source: count such statements apart). THE CARD IS WHAT COUNTS. Prove the row's statement (the work); the ties are given (YtmijalhilalaoaaDoorTie.lean); close each card by the builder's one call (the guide's Derived/Test/ToyasCard.lean, 'card_holds'). Laid BY PROGRAM, IN A SANDBOX (cutbox-door.mjs). By AI agents, Wed Nov 11 2026. No macro, syntax, notation, axiom, sorry.
-/
import Derived.Test.YtmijalhilalaoaaDoorRows
import GoSem.ClaimSeven
namespace Go.Proofs.YtmijalhilalaoaaDoor
namespace Rows

/-- THE TIED CARD OF 'compactorlaw17.ListingPrints'. -/
def listingPrintsCard : Claim7 := { stood := { row := listingPrintsRow, standIns := [], harness := (true, "799c3c47551f81f41022e26d926050359f28c608a8a01daaa7ebd55409e3d299"), looks := false }, kinds := [], alts := [], laidByText := true, laidKinds := [.data, .data, .data], laidTests := true, laidLooks := .later }
def ListingPrintsCardSaid : Prop := Claim7.holds Tryd.pinned (.plain (OpenSpec.ofChange listingPrintsSpec)) listingPrintsCard

/-- THE TIED CARD OF 'compactorlaw17.ListingLines'. -/
def listingLinesCard : Claim7 := { stood := { row := listingLinesRow, standIns := [], harness := (true, "799c3c47551f81f41022e26d926050359f28c608a8a01daaa7ebd55409e3d299"), looks := false }, kinds := [], alts := [], laidByText := true, laidKinds := [.data, .data, .data], laidTests := true, laidLooks := .later }
def ListingLinesCardSaid : Prop := Claim7.holds Tryd.pinned (.plain (OpenSpec.ofChange listingLinesSpec)) listingLinesCard

/-- THE TIED CARD OF 'compactorlaw17.ListingCompares'. -/
def listingComparesCard : Claim7 := { stood := { row := listingComparesRow, standIns := [], harness := (true, "799c3c47551f81f41022e26d926050359f28c608a8a01daaa7ebd55409e3d299"), looks := false }, kinds := [], alts := [], laidByText := true, laidKinds := [.data, .data, .data], laidTests := true, laidLooks := .later }
def ListingComparesCardSaid : Prop := Claim7.holds Tryd.pinned (.plain (OpenSpec.ofChange listingComparesSpec)) listingComparesCard

/-- THE TIED CARD OF 'compactorlaw17.ListingOrders'. -/
def listingOrdersCard : Claim7 := { stood := { row := listingOrdersRow, standIns := [], harness := (true, "799c3c47551f81f41022e26d926050359f28c608a8a01daaa7ebd55409e3d299"), looks := false }, kinds := [], alts := [], laidByText := true, laidKinds := [.data, .data, .data], laidTests := true, laidLooks := .later }
def ListingOrdersCardSaid : Prop := Claim7.holds Tryd.pinned (.plain (OpenSpec.ofChange listingOrdersSpec)) listingOrdersCard

/-- THE TIED CARD OF 'compactorlaw17.ListingParts'. -/
def listingPartsCard : Claim7 := { stood := { row := listingPartsRow, standIns := [], harness := (true, "799c3c47551f81f41022e26d926050359f28c608a8a01daaa7ebd55409e3d299"), looks := false }, kinds := [], alts := [], laidByText := true, laidKinds := [.data, .data, .data, .data, .pinned], laidTests := true, laidLooks := .later }
def ListingPartsCardSaid : Prop := Claim7.holds Tryd.pinned (.plain (OpenSpec.ofChange listingPartsSpec)) listingPartsCard

/-- THE SECOND FORM's CARD OF 'compactorlaw17.ListingPrints'. -/
def listingPrintsUptoCard : Claim7 := { stood := { row := listingPrintsUptoRow, standIns := [], harness := (true, "799c3c47551f81f41022e26d926050359f28c608a8a01daaa7ebd55409e3d299"), looks := false }, kinds := [], alts := [], laidByText := true, laidKinds := [.data, .data, .data], laidTests := true, laidLooks := .later }
def ListingPrintsUptoCardSaid : Prop := Claim7.holds Tryd.pinned (.plain (OpenSpec.upto listingPrintsSpec)) listingPrintsUptoCard

/-- THE SECOND FORM's CARD OF 'compactorlaw17.ListingLines'. -/
def listingLinesUptoCard : Claim7 := { stood := { row := listingLinesUptoRow, standIns := [], harness := (true, "799c3c47551f81f41022e26d926050359f28c608a8a01daaa7ebd55409e3d299"), looks := false }, kinds := [], alts := [], laidByText := true, laidKinds := [.data, .data, .data], laidTests := true, laidLooks := .later }
def ListingLinesUptoCardSaid : Prop := Claim7.holds Tryd.pinned (.plain (OpenSpec.upto listingLinesSpec)) listingLinesUptoCard

/-- THE SECOND FORM's CARD OF 'compactorlaw17.ListingCompares'. -/
def listingComparesUptoCard : Claim7 := { stood := { row := listingComparesUptoRow, standIns := [], harness := (true, "799c3c47551f81f41022e26d926050359f28c608a8a01daaa7ebd55409e3d299"), looks := false }, kinds := [], alts := [], laidByText := true, laidKinds := [.data, .data, .data], laidTests := true, laidLooks := .later }
def ListingComparesUptoCardSaid : Prop := Claim7.holds Tryd.pinned (.plain (OpenSpec.upto listingComparesSpec)) listingComparesUptoCard

/-- THE SECOND FORM's CARD OF 'compactorlaw17.ListingOrders'. -/
def listingOrdersUptoCard : Claim7 := { stood := { row := listingOrdersUptoRow, standIns := [], harness := (true, "799c3c47551f81f41022e26d926050359f28c608a8a01daaa7ebd55409e3d299"), looks := false }, kinds := [], alts := [], laidByText := true, laidKinds := [.data, .data, .data], laidTests := true, laidLooks := .later }
def ListingOrdersUptoCardSaid : Prop := Claim7.holds Tryd.pinned (.plain (OpenSpec.upto listingOrdersSpec)) listingOrdersUptoCard

/-- THE SECOND FORM's CARD OF 'compactorlaw17.ListingParts'. -/
def listingPartsUptoCard : Claim7 := { stood := { row := listingPartsUptoRow, standIns := [], harness := (true, "799c3c47551f81f41022e26d926050359f28c608a8a01daaa7ebd55409e3d299"), looks := false }, kinds := [], alts := [], laidByText := true, laidKinds := [.data, .data, .data, .data, .pinned], laidTests := true, laidLooks := .later }
def ListingPartsUptoCardSaid : Prop := Claim7.holds Tryd.pinned (.plain (OpenSpec.upto listingPartsSpec)) listingPartsUptoCard
end Rows
end Go.Proofs.YtmijalhilalaoaaDoor
