/-
  DERIVED. GIVEN WITH THE SEED: THE CARDS: each row of YtepoclhdklgnhaaGreatDoorRows.lean that lists a variable, with what it lists TIED to the program's text (the seventh form; the later family's looks); each row that meets fmt, with fmt's text TOLD by the authors' own Lean function (tested against real Go, not proved from fmt's source: count such statements apart). THE CARD IS WHAT COUNTS. Prove the row's statement (the work); the ties are given (YtepoclhdklgnhaaGreatDoorTie.lean); close each card by the builder's one call (the guide's Derived/Test/ToyasCard.lean, 'card_holds'). Laid BY PROGRAM, IN A SANDBOX (cutbox-door.mjs). By AI agents, Wed Nov 11 2026. No macro, syntax, notation, axiom, sorry.
-/
import Derived.Test.YtepoclhdklgnhaaGreatDoorRows
import GoSem.ClaimSeven
namespace Go.Proofs.YtepoclhdklgnhaaGreatDoor
namespace Rows

/-- THE TIED CARD OF 'compactorlaw20.VerifierChecks'. -/
def verifierChecksCard : Claim7 := { stood := { row := verifierChecksRow, standIns := [], harness := (true, "7410fac88c619e8966d13c9f52976114e312e4fe8856e29723f1ec1122f8df19"), looks := true }, kinds := [], alts := [], laidByText := true, laidKinds := [.data, .data, .data, .sentinel, .sentinel], laidTests := true, laidLooks := .later }
def VerifierChecksCardSaid : Prop := Claim7.holds Tryz.pinned (.plain (OpenSpec.ofChange verifierChecksSpec)) verifierChecksCard

/-- THE TIED CARD OF 'compactorlaw20.VerifierVerifies'. -/
def verifierVerifiesCard : Claim7 := { stood := { row := verifierVerifiesRow, standIns := [], harness := (true, "7410fac88c619e8966d13c9f52976114e312e4fe8856e29723f1ec1122f8df19"), looks := true }, kinds := [], alts := [], laidByText := true, laidKinds := [.data, .data, .data, .sentinel, .sentinel], laidTests := true, laidLooks := .later }
def VerifierVerifiesCardSaid : Prop := Claim7.holds Tryz.pinned (.plain (OpenSpec.ofChange verifierVerifiesSpec)) verifierVerifiesCard

/-- THE TIED CARD OF 'compactorlaw20.VerifierConfirms'. -/
def verifierConfirmsCard : Claim7 := { stood := { row := verifierConfirmsRow, standIns := [], harness := (true, "7410fac88c619e8966d13c9f52976114e312e4fe8856e29723f1ec1122f8df19"), looks := true }, kinds := [], alts := [], laidByText := true, laidKinds := [.data, .data, .data, .sentinel, .sentinel], laidTests := true, laidLooks := .later }
def VerifierConfirmsCardSaid : Prop := Claim7.holds Tryz.pinned (.plain (OpenSpec.ofChange verifierConfirmsSpec)) verifierConfirmsCard

/-- THE TIED CARD OF 'compactorlaw20.VerifierAgrees'. -/
def verifierAgreesCard : Claim7 := { stood := { row := verifierAgreesRow, standIns := [], harness := (true, "7410fac88c619e8966d13c9f52976114e312e4fe8856e29723f1ec1122f8df19"), looks := true }, kinds := [], alts := [], laidByText := true, laidKinds := [.data, .data, .data, .sentinel, .sentinel], laidTests := true, laidLooks := .later }
def VerifierAgreesCardSaid : Prop := Claim7.holds Tryz.pinned (.plain (OpenSpec.ofChange verifierAgreesSpec)) verifierAgreesCard

/-- THE TIED CARD OF 'compactorlaw20.VerifierShrinks'. -/
def verifierShrinksCard : Claim7 := { stood := { row := verifierShrinksRow, standIns := [], harness := (true, "7410fac88c619e8966d13c9f52976114e312e4fe8856e29723f1ec1122f8df19"), looks := true }, kinds := [], alts := [], laidByText := true, laidKinds := [.data, .data, .data, .sentinel, .sentinel], laidTests := true, laidLooks := .later }
def VerifierShrinksCardSaid : Prop := Claim7.holds Tryz.pinned (.plain (OpenSpec.ofChange verifierShrinksSpec)) verifierShrinksCard

/-- THE TIED CARD OF 'compactorlaw20.VerifierReports'. -/
def verifierReportsCard : Claim7 := { stood := { row := verifierReportsRow, standIns := [], harness := (true, "7410fac88c619e8966d13c9f52976114e312e4fe8856e29723f1ec1122f8df19"), looks := true }, kinds := [], alts := [], laidByText := true, laidKinds := [.data, .data, .data, .sentinel, .sentinel], laidTests := true, laidLooks := .later }
def VerifierReportsCardSaid : Prop := Claim7.holds Tryz.pinned (.plain (OpenSpec.ofChange verifierReportsSpec)) verifierReportsCard

/-- THE TIED CARD OF 'compactorlaw20.VerifierWraps'. -/
def verifierWrapsCard : Claim7 := { stood := { row := verifierWrapsRow, standIns := [], harness := (true, "7410fac88c619e8966d13c9f52976114e312e4fe8856e29723f1ec1122f8df19"), looks := true }, kinds := [], alts := [], laidByText := true, laidKinds := [.data, .data, .data, .sentinel, .sentinel], laidTests := true, laidLooks := .later }
def VerifierWrapsCardSaid : Prop := Claim7.holds Tryz.pinned (.plain (OpenSpec.ofChange verifierWrapsSpec)) verifierWrapsCard

/-- THE SECOND FORM's CARD OF 'compactorlaw20.VerifierChecks'. -/
def verifierChecksUptoCard : Claim7 := { stood := { row := verifierChecksUptoRow, standIns := [], harness := (true, "7410fac88c619e8966d13c9f52976114e312e4fe8856e29723f1ec1122f8df19"), looks := true }, kinds := [], alts := [], laidByText := true, laidKinds := [.data, .data, .data, .sentinel, .sentinel], laidTests := true, laidLooks := .later }
def VerifierChecksUptoCardSaid : Prop := Claim7.holds Tryz.pinned (.plain (OpenSpec.upto verifierChecksSpec)) verifierChecksUptoCard

/-- THE SECOND FORM's CARD OF 'compactorlaw20.VerifierVerifies'. -/
def verifierVerifiesUptoCard : Claim7 := { stood := { row := verifierVerifiesUptoRow, standIns := [], harness := (true, "7410fac88c619e8966d13c9f52976114e312e4fe8856e29723f1ec1122f8df19"), looks := true }, kinds := [], alts := [], laidByText := true, laidKinds := [.data, .data, .data, .sentinel, .sentinel], laidTests := true, laidLooks := .later }
def VerifierVerifiesUptoCardSaid : Prop := Claim7.holds Tryz.pinned (.plain (OpenSpec.upto verifierVerifiesSpec)) verifierVerifiesUptoCard

/-- THE SECOND FORM's CARD OF 'compactorlaw20.VerifierConfirms'. -/
def verifierConfirmsUptoCard : Claim7 := { stood := { row := verifierConfirmsUptoRow, standIns := [], harness := (true, "7410fac88c619e8966d13c9f52976114e312e4fe8856e29723f1ec1122f8df19"), looks := true }, kinds := [], alts := [], laidByText := true, laidKinds := [.data, .data, .data, .sentinel, .sentinel], laidTests := true, laidLooks := .later }
def VerifierConfirmsUptoCardSaid : Prop := Claim7.holds Tryz.pinned (.plain (OpenSpec.upto verifierConfirmsSpec)) verifierConfirmsUptoCard

/-- THE SECOND FORM's CARD OF 'compactorlaw20.VerifierAgrees'. -/
def verifierAgreesUptoCard : Claim7 := { stood := { row := verifierAgreesUptoRow, standIns := [], harness := (true, "7410fac88c619e8966d13c9f52976114e312e4fe8856e29723f1ec1122f8df19"), looks := true }, kinds := [], alts := [], laidByText := true, laidKinds := [.data, .data, .data, .sentinel, .sentinel], laidTests := true, laidLooks := .later }
def VerifierAgreesUptoCardSaid : Prop := Claim7.holds Tryz.pinned (.plain (OpenSpec.upto verifierAgreesSpec)) verifierAgreesUptoCard

/-- THE SECOND FORM's CARD OF 'compactorlaw20.VerifierShrinks'. -/
def verifierShrinksUptoCard : Claim7 := { stood := { row := verifierShrinksUptoRow, standIns := [], harness := (true, "7410fac88c619e8966d13c9f52976114e312e4fe8856e29723f1ec1122f8df19"), looks := true }, kinds := [], alts := [], laidByText := true, laidKinds := [.data, .data, .data, .sentinel, .sentinel], laidTests := true, laidLooks := .later }
def VerifierShrinksUptoCardSaid : Prop := Claim7.holds Tryz.pinned (.plain (OpenSpec.upto verifierShrinksSpec)) verifierShrinksUptoCard

/-- THE SECOND FORM's CARD OF 'compactorlaw20.VerifierReports'. -/
def verifierReportsUptoCard : Claim7 := { stood := { row := verifierReportsUptoRow, standIns := [], harness := (true, "7410fac88c619e8966d13c9f52976114e312e4fe8856e29723f1ec1122f8df19"), looks := true }, kinds := [], alts := [], laidByText := true, laidKinds := [.data, .data, .data, .sentinel, .sentinel], laidTests := true, laidLooks := .later }
def VerifierReportsUptoCardSaid : Prop := Claim7.holds Tryz.pinned (.plain (OpenSpec.upto verifierReportsSpec)) verifierReportsUptoCard

/-- THE SECOND FORM's CARD OF 'compactorlaw20.VerifierWraps'. -/
def verifierWrapsUptoCard : Claim7 := { stood := { row := verifierWrapsUptoRow, standIns := [], harness := (true, "7410fac88c619e8966d13c9f52976114e312e4fe8856e29723f1ec1122f8df19"), looks := true }, kinds := [], alts := [], laidByText := true, laidKinds := [.data, .data, .data, .sentinel, .sentinel], laidTests := true, laidLooks := .later }
def VerifierWrapsUptoCardSaid : Prop := Claim7.holds Tryz.pinned (.plain (OpenSpec.upto verifierWrapsSpec)) verifierWrapsUptoCard
end Rows
end Go.Proofs.YtepoclhdklgnhaaGreatDoor
