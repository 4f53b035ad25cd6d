/-
  DERIVED. GIVEN WITH THE SEED: THE CARDS: each row of YtpaplehcafeeaaaGreatDoorRows.lean that lists a variable, with what it lists TIED to the program's text (the seventh form; the later family's looks); each row that meets fmt, with fmt's text TOLD by the authors' own Lean function (tested against real Go, not proved from fmt's source: count such statements apart). THE CARD IS WHAT COUNTS. Prove the row's statement (the work); the ties are given (YtpaplehcafeeaaaGreatDoorTie.lean); close each card by the builder's one call (the guide's Derived/Test/ToyasCard.lean, 'card_holds'). Laid BY PROGRAM, IN A SANDBOX (cutbox-door.mjs). By AI agents, Wed Nov 11 2026. No macro, syntax, notation, axiom, sorry.
-/
import Derived.Test.YtpaplehcafeeaaaGreatDoorRows
import GoSem.ClaimSeven
namespace Go.Proofs.YtpaplehcafeeaaaGreatDoor
namespace Rows

/-- THE TIED CARD OF 'compactorlaw23.LowerTranslates'. -/
def lowerTranslatesCard : Claim7 := { stood := { row := lowerTranslatesRow, standIns := [], harness := (true, "c1d7870a88feca5f0fd918c885a2bd2ca670cf5c2573bcbea95a8df169a0fdca"), looks := true }, kinds := [], alts := [], laidByText := true, laidKinds := [.data, .data, .data, .sentinel, .sentinel], laidTests := true, laidLooks := .later }
def LowerTranslatesCardSaid : Prop := Claim7.holds Tryz.pinned (.plain (OpenSpec.ofChange lowerTranslatesSpec)) lowerTranslatesCard

/-- THE TIED CARD OF 'compactorlaw23.LowerKeeps'. -/
def lowerKeepsCard : Claim7 := { stood := { row := lowerKeepsRow, standIns := [], harness := (true, "c1d7870a88feca5f0fd918c885a2bd2ca670cf5c2573bcbea95a8df169a0fdca"), looks := true }, kinds := [], alts := [], laidByText := true, laidKinds := [.data, .data, .data, .sentinel, .sentinel], laidTests := true, laidLooks := .later }
def LowerKeepsCardSaid : Prop := Claim7.holds Tryz.pinned (.plain (OpenSpec.ofChange lowerKeepsSpec)) lowerKeepsCard

/-- THE TIED CARD OF 'compactorlaw23.LowerCounts'. -/
def lowerCountsCard : Claim7 := { stood := { row := lowerCountsRow, standIns := [], harness := (true, "c1d7870a88feca5f0fd918c885a2bd2ca670cf5c2573bcbea95a8df169a0fdca"), looks := true }, kinds := [], alts := [], laidByText := true, laidKinds := [.data, .data, .data, .sentinel, .sentinel], laidTests := true, laidLooks := .later }
def LowerCountsCardSaid : Prop := Claim7.holds Tryz.pinned (.plain (OpenSpec.ofChange lowerCountsSpec)) lowerCountsCard

/-- THE TIED CARD OF 'compactorlaw23.LowerWrites'. -/
def lowerWritesCard : Claim7 := { stood := { row := lowerWritesRow, standIns := [], harness := (true, "c1d7870a88feca5f0fd918c885a2bd2ca670cf5c2573bcbea95a8df169a0fdca"), looks := true }, kinds := [], alts := [], laidByText := true, laidKinds := [.data, .data, .data, .sentinel, .sentinel], laidTests := true, laidLooks := .later }
def LowerWritesCardSaid : Prop := Claim7.holds Tryz.pinned (.plain (OpenSpec.ofChange lowerWritesSpec)) lowerWritesCard

/-- THE TIED CARD OF 'compactorlaw23.LowerCompares'. -/
def lowerComparesCard : Claim7 := { stood := { row := lowerComparesRow, standIns := [], harness := (true, "c1d7870a88feca5f0fd918c885a2bd2ca670cf5c2573bcbea95a8df169a0fdca"), looks := true }, kinds := [], alts := [], laidByText := true, laidKinds := [.data, .data, .data, .sentinel, .sentinel], laidTests := true, laidLooks := .later }
def LowerComparesCardSaid : Prop := Claim7.holds Tryz.pinned (.plain (OpenSpec.ofChange lowerComparesSpec)) lowerComparesCard

/-- THE TIED CARD OF 'compactorlaw23.LowerChecks'. -/
def lowerChecksCard : Claim7 := { stood := { row := lowerChecksRow, standIns := [], harness := (true, "c1d7870a88feca5f0fd918c885a2bd2ca670cf5c2573bcbea95a8df169a0fdca"), looks := true }, kinds := [], alts := [], laidByText := true, laidKinds := [.data, .data, .data, .sentinel, .sentinel], laidTests := true, laidLooks := .later }
def LowerChecksCardSaid : Prop := Claim7.holds Tryz.pinned (.plain (OpenSpec.ofChange lowerChecksSpec)) lowerChecksCard

/-- THE TIED CARD OF 'compactorlaw23.LowerCorrect'. -/
def lowerCorrectCard : Claim7 := { stood := { row := lowerCorrectRow, standIns := [], harness := (true, "c1d7870a88feca5f0fd918c885a2bd2ca670cf5c2573bcbea95a8df169a0fdca"), looks := true }, kinds := [], alts := [], laidByText := true, laidKinds := [.data, .data, .data, .sentinel, .sentinel], laidTests := true, laidLooks := .later }
def LowerCorrectCardSaid : Prop := Claim7.holds Tryz.pinned (.plain (OpenSpec.ofChange lowerCorrectSpec)) lowerCorrectCard

/-- THE SECOND FORM's CARD OF 'compactorlaw23.LowerTranslates'. -/
def lowerTranslatesUptoCard : Claim7 := { stood := { row := lowerTranslatesUptoRow, standIns := [], harness := (true, "c1d7870a88feca5f0fd918c885a2bd2ca670cf5c2573bcbea95a8df169a0fdca"), looks := true }, kinds := [], alts := [], laidByText := true, laidKinds := [.data, .data, .data, .sentinel, .sentinel], laidTests := true, laidLooks := .later }
def LowerTranslatesUptoCardSaid : Prop := Claim7.holds Tryz.pinned (.plain (OpenSpec.upto lowerTranslatesSpec)) lowerTranslatesUptoCard

/-- THE SECOND FORM's CARD OF 'compactorlaw23.LowerKeeps'. -/
def lowerKeepsUptoCard : Claim7 := { stood := { row := lowerKeepsUptoRow, standIns := [], harness := (true, "c1d7870a88feca5f0fd918c885a2bd2ca670cf5c2573bcbea95a8df169a0fdca"), looks := true }, kinds := [], alts := [], laidByText := true, laidKinds := [.data, .data, .data, .sentinel, .sentinel], laidTests := true, laidLooks := .later }
def LowerKeepsUptoCardSaid : Prop := Claim7.holds Tryz.pinned (.plain (OpenSpec.upto lowerKeepsSpec)) lowerKeepsUptoCard

/-- THE SECOND FORM's CARD OF 'compactorlaw23.LowerCounts'. -/
def lowerCountsUptoCard : Claim7 := { stood := { row := lowerCountsUptoRow, standIns := [], harness := (true, "c1d7870a88feca5f0fd918c885a2bd2ca670cf5c2573bcbea95a8df169a0fdca"), looks := true }, kinds := [], alts := [], laidByText := true, laidKinds := [.data, .data, .data, .sentinel, .sentinel], laidTests := true, laidLooks := .later }
def LowerCountsUptoCardSaid : Prop := Claim7.holds Tryz.pinned (.plain (OpenSpec.upto lowerCountsSpec)) lowerCountsUptoCard

/-- THE SECOND FORM's CARD OF 'compactorlaw23.LowerWrites'. -/
def lowerWritesUptoCard : Claim7 := { stood := { row := lowerWritesUptoRow, standIns := [], harness := (true, "c1d7870a88feca5f0fd918c885a2bd2ca670cf5c2573bcbea95a8df169a0fdca"), looks := true }, kinds := [], alts := [], laidByText := true, laidKinds := [.data, .data, .data, .sentinel, .sentinel], laidTests := true, laidLooks := .later }
def LowerWritesUptoCardSaid : Prop := Claim7.holds Tryz.pinned (.plain (OpenSpec.upto lowerWritesSpec)) lowerWritesUptoCard

/-- THE SECOND FORM's CARD OF 'compactorlaw23.LowerCompares'. -/
def lowerComparesUptoCard : Claim7 := { stood := { row := lowerComparesUptoRow, standIns := [], harness := (true, "c1d7870a88feca5f0fd918c885a2bd2ca670cf5c2573bcbea95a8df169a0fdca"), looks := true }, kinds := [], alts := [], laidByText := true, laidKinds := [.data, .data, .data, .sentinel, .sentinel], laidTests := true, laidLooks := .later }
def LowerComparesUptoCardSaid : Prop := Claim7.holds Tryz.pinned (.plain (OpenSpec.upto lowerComparesSpec)) lowerComparesUptoCard

/-- THE SECOND FORM's CARD OF 'compactorlaw23.LowerChecks'. -/
def lowerChecksUptoCard : Claim7 := { stood := { row := lowerChecksUptoRow, standIns := [], harness := (true, "c1d7870a88feca5f0fd918c885a2bd2ca670cf5c2573bcbea95a8df169a0fdca"), looks := true }, kinds := [], alts := [], laidByText := true, laidKinds := [.data, .data, .data, .sentinel, .sentinel], laidTests := true, laidLooks := .later }
def LowerChecksUptoCardSaid : Prop := Claim7.holds Tryz.pinned (.plain (OpenSpec.upto lowerChecksSpec)) lowerChecksUptoCard

/-- THE SECOND FORM's CARD OF 'compactorlaw23.LowerCorrect'. -/
def lowerCorrectUptoCard : Claim7 := { stood := { row := lowerCorrectUptoRow, standIns := [], harness := (true, "c1d7870a88feca5f0fd918c885a2bd2ca670cf5c2573bcbea95a8df169a0fdca"), looks := true }, kinds := [], alts := [], laidByText := true, laidKinds := [.data, .data, .data, .sentinel, .sentinel], laidTests := true, laidLooks := .later }
def LowerCorrectUptoCardSaid : Prop := Claim7.holds Tryz.pinned (.plain (OpenSpec.upto lowerCorrectSpec)) lowerCorrectUptoCard
end Rows
end Go.Proofs.YtpaplehcafeeaaaGreatDoor
