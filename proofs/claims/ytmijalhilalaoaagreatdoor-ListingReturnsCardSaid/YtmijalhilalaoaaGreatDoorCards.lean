/-
  DERIVED. GIVEN WITH THE SEED: THE CARDS: each row of YtmijalhilalaoaaGreatDoorRows.lean that lists a variable, with what it lists TIED to the program's text (the seventh form; the later family's looks); each row that meets fmt, with fmt's text TOLD by the authors' own Lean function (tested against real Go, not proved from fmt's source: count such statements apart). THE CARD IS WHAT COUNTS. Prove the row's statement (the work); the ties are given (YtmijalhilalaoaaGreatDoorTie.lean); close each card by the builder's one call (the guide's Derived/Test/ToyasCard.lean, 'card_holds'). Laid BY PROGRAM, IN A SANDBOX (cutbox-door.mjs). By AI agents, Wed Nov 11 2026. No macro, syntax, notation, axiom, sorry.
-/
import Derived.Test.YtmijalhilalaoaaGreatDoorRows
import GoSem.ClaimSeven
namespace Go.Proofs.YtmijalhilalaoaaGreatDoor
namespace Rows

/-- THE TIED CARD OF 'compactorlaw17.ListingAssembles'. -/
def listingAssemblesCard : Claim7 := { stood := { row := listingAssemblesRow, standIns := [], harness := (true, "050f3005397d27f20da0c4423f83e9c53cc2abc48be1d7cc99634995ea5fe0ea"), looks := true }, kinds := [], alts := [], laidByText := true, laidKinds := [.data, .data, .data, .sentinel, .sentinel], laidTests := true, laidLooks := .later }
def ListingAssemblesCardSaid : Prop := Claim7.holds Tryz.pinned (.plain (OpenSpec.ofChange listingAssemblesSpec)) listingAssemblesCard

/-- THE TIED CARD OF 'compactorlaw17.ListingReturns'. -/
def listingReturnsCard : Claim7 := { stood := { row := listingReturnsRow, standIns := [], harness := (true, "050f3005397d27f20da0c4423f83e9c53cc2abc48be1d7cc99634995ea5fe0ea"), looks := true }, kinds := [], alts := [], laidByText := true, laidKinds := [.data, .data, .data, .sentinel, .sentinel], laidTests := true, laidLooks := .later }
def ListingReturnsCardSaid : Prop := Claim7.holds Tryz.pinned (.plain (OpenSpec.ofChange listingReturnsSpec)) listingReturnsCard

/-- THE SECOND FORM's CARD OF 'compactorlaw17.ListingAssembles'. -/
def listingAssemblesUptoCard : Claim7 := { stood := { row := listingAssemblesUptoRow, standIns := [], harness := (true, "050f3005397d27f20da0c4423f83e9c53cc2abc48be1d7cc99634995ea5fe0ea"), looks := true }, kinds := [], alts := [], laidByText := true, laidKinds := [.data, .data, .data, .sentinel, .sentinel], laidTests := true, laidLooks := .later }
def ListingAssemblesUptoCardSaid : Prop := Claim7.holds Tryz.pinned (.plain (OpenSpec.upto listingAssemblesSpec)) listingAssemblesUptoCard

/-- THE SECOND FORM's CARD OF 'compactorlaw17.ListingReturns'. -/
def listingReturnsUptoCard : Claim7 := { stood := { row := listingReturnsUptoRow, standIns := [], harness := (true, "050f3005397d27f20da0c4423f83e9c53cc2abc48be1d7cc99634995ea5fe0ea"), looks := true }, kinds := [], alts := [], laidByText := true, laidKinds := [.data, .data, .data, .sentinel, .sentinel], laidTests := true, laidLooks := .later }
def ListingReturnsUptoCardSaid : Prop := Claim7.holds Tryz.pinned (.plain (OpenSpec.upto listingReturnsSpec)) listingReturnsUptoCard
end Rows
end Go.Proofs.YtmijalhilalaoaaGreatDoor
