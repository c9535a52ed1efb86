/-
  DERIVED. GIVEN WITH THE SEED: THE CARDS: each row of YtjglidlmpjmjeaaGreatDoorRows.lean that lists a variable, with what it lists TIED to the program's text (the seventh form; the later family's looks); each row that meets fmt, with fmt's text TOLD by the authors' own Lean function (tested against real Go, not proved from fmt's source: count such statements apart). THE CARD IS WHAT COUNTS. Prove the row's statement (the work); the ties are given (YtjglidlmpjmjeaaGreatDoorTie.lean); close each card by the builder's one call (the guide's Derived/Test/ToyasCard.lean, 'card_holds'). Laid BY PROGRAM, IN A SANDBOX (cutbox-door.mjs). By AI agents, Wed Nov 11 2026. No macro, syntax, notation, axiom, sorry.
-/
import Derived.Test.YtjglidlmpjmjeaaGreatDoorRows
import GoSem.ClaimSeven
namespace Go.Proofs.YtjglidlmpjmjeaaGreatDoor
namespace Rows

/-- THE TIED CARD OF 'kalendslaw34.CoreMatchesReference'. -/
def coreMatchesReferenceCard : Claim7 := { stood := { row := coreMatchesReferenceRow, standIns := [], harness := (true, "83c4deda7c574631b16146c072517adcc7322d6073560cb642e7bfe1c2c7b4fd"), looks := false }, kinds := [], alts := [], laidByText := true, laidKinds := [.data, .data, .data], laidTests := true, laidLooks := .later }
def CoreMatchesReferenceCardSaid : Prop := Claim7.holds Tryz.pinned (.plain (OpenSpec.ofChange coreMatchesReferenceSpec)) coreMatchesReferenceCard

/-- THE TIED CARD OF 'kalendslaw34.CoreCertificatesMatchReference'. -/
def coreCertificatesMatchReferenceCard : Claim7 := { stood := { row := coreCertificatesMatchReferenceRow, standIns := [], harness := (true, "83c4deda7c574631b16146c072517adcc7322d6073560cb642e7bfe1c2c7b4fd"), looks := false }, kinds := [], alts := [], laidByText := true, laidKinds := [.data, .data, .data], laidTests := true, laidLooks := .later }
def CoreCertificatesMatchReferenceCardSaid : Prop := Claim7.holds Tryz.pinned (.plain (OpenSpec.ofChange coreCertificatesMatchReferenceSpec)) coreCertificatesMatchReferenceCard

/-- THE TIED CARD OF 'kalendslaw34.CoreRawMatchesReference'. -/
def coreRawMatchesReferenceCard : Claim7 := { stood := { row := coreRawMatchesReferenceRow, standIns := [], harness := (true, "83c4deda7c574631b16146c072517adcc7322d6073560cb642e7bfe1c2c7b4fd"), looks := false }, kinds := [], alts := [], laidByText := true, laidKinds := [.data, .data, .data], laidTests := true, laidLooks := .later }
def CoreRawMatchesReferenceCardSaid : Prop := Claim7.holds Tryz.pinned (.plain (OpenSpec.ofChange coreRawMatchesReferenceSpec)) coreRawMatchesReferenceCard

/-- THE SECOND FORM's CARD OF 'kalendslaw34.CoreMatchesReference'. -/
def coreMatchesReferenceUptoCard : Claim7 := { stood := { row := coreMatchesReferenceUptoRow, standIns := [], harness := (true, "83c4deda7c574631b16146c072517adcc7322d6073560cb642e7bfe1c2c7b4fd"), looks := false }, kinds := [], alts := [], laidByText := true, laidKinds := [.data, .data, .data], laidTests := true, laidLooks := .later }
def CoreMatchesReferenceUptoCardSaid : Prop := Claim7.holds Tryz.pinned (.plain (OpenSpec.upto coreMatchesReferenceSpec)) coreMatchesReferenceUptoCard

/-- THE SECOND FORM's CARD OF 'kalendslaw34.CoreCertificatesMatchReference'. -/
def coreCertificatesMatchReferenceUptoCard : Claim7 := { stood := { row := coreCertificatesMatchReferenceUptoRow, standIns := [], harness := (true, "83c4deda7c574631b16146c072517adcc7322d6073560cb642e7bfe1c2c7b4fd"), looks := false }, kinds := [], alts := [], laidByText := true, laidKinds := [.data, .data, .data], laidTests := true, laidLooks := .later }
def CoreCertificatesMatchReferenceUptoCardSaid : Prop := Claim7.holds Tryz.pinned (.plain (OpenSpec.upto coreCertificatesMatchReferenceSpec)) coreCertificatesMatchReferenceUptoCard

/-- THE SECOND FORM's CARD OF 'kalendslaw34.CoreRawMatchesReference'. -/
def coreRawMatchesReferenceUptoCard : Claim7 := { stood := { row := coreRawMatchesReferenceUptoRow, standIns := [], harness := (true, "83c4deda7c574631b16146c072517adcc7322d6073560cb642e7bfe1c2c7b4fd"), looks := false }, kinds := [], alts := [], laidByText := true, laidKinds := [.data, .data, .data], laidTests := true, laidLooks := .later }
def CoreRawMatchesReferenceUptoCardSaid : Prop := Claim7.holds Tryz.pinned (.plain (OpenSpec.upto coreRawMatchesReferenceSpec)) coreRawMatchesReferenceUptoCard
end Rows
end Go.Proofs.YtjglidlmpjmjeaaGreatDoor
