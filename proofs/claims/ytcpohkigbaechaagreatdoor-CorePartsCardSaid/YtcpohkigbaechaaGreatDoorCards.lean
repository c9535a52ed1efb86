/-
  DERIVED. GIVEN WITH THE SEED: THE CARDS: each row of YtcpohkigbaechaaGreatDoorRows.lean that lists a variable, with what it lists TIED to the program's text (the seventh form; the later family's looks); each row that meets fmt, with fmt's text TOLD by the authors' own Lean function (tested against real Go, not proved from fmt's source: count such statements apart). THE CARD IS WHAT COUNTS. Prove the row's statement (the work); the ties are given (YtcpohkigbaechaaGreatDoorTie.lean); close each card by the builder's one call (the guide's Derived/Test/ToyasCard.lean, 'card_holds'). Laid BY PROGRAM, IN A SANDBOX (cutbox-door.mjs). By AI agents, Wed Nov 11 2026. No macro, syntax, notation, axiom, sorry.
-/
import Derived.Test.YtcpohkigbaechaaGreatDoorRows
import GoSem.ClaimSeven
namespace Go.Proofs.YtcpohkigbaechaaGreatDoor
namespace Rows

/-- THE TIED CARD OF 'kalendslaw34.CoreMatchesReference'. -/
def coreMatchesReferenceCard : Claim7 := { stood := { row := coreMatchesReferenceRow, standIns := [], harness := (true, "f142b6e84e02dd677e7b9c43ea86231e0c9163c350ef8306d7600f42bf478f2f"), looks := true }, kinds := [], alts := [], laidByText := true, laidKinds := [.data, .data, .data], laidTests := true, laidLooks := .later }
def CoreMatchesReferenceCardSaid : Prop := Claim7.holds Tryz.pinned (.plain (OpenSpec.ofChange coreMatchesReferenceSpec)) coreMatchesReferenceCard

/-- THE TIED CARD OF 'kalendslaw34.CoreCertificatesMatchReference'. -/
def coreCertificatesMatchReferenceCard : Claim7 := { stood := { row := coreCertificatesMatchReferenceRow, standIns := [], harness := (true, "f142b6e84e02dd677e7b9c43ea86231e0c9163c350ef8306d7600f42bf478f2f"), looks := true }, kinds := [], alts := [], laidByText := true, laidKinds := [.data, .data, .data], laidTests := true, laidLooks := .later }
def CoreCertificatesMatchReferenceCardSaid : Prop := Claim7.holds Tryz.pinned (.plain (OpenSpec.ofChange coreCertificatesMatchReferenceSpec)) coreCertificatesMatchReferenceCard

/-- THE TIED CARD OF 'kalendslaw34.CoreRawMatchesReference'. -/
def coreRawMatchesReferenceCard : Claim7 := { stood := { row := coreRawMatchesReferenceRow, standIns := [], harness := (true, "f142b6e84e02dd677e7b9c43ea86231e0c9163c350ef8306d7600f42bf478f2f"), looks := true }, kinds := [], alts := [], laidByText := true, laidKinds := [.data, .data, .data], laidTests := true, laidLooks := .later }
def CoreRawMatchesReferenceCardSaid : Prop := Claim7.holds Tryz.pinned (.plain (OpenSpec.ofChange coreRawMatchesReferenceSpec)) coreRawMatchesReferenceCard

/-- THE TIED CARD OF 'kalendslaw34.CoreProofs'. -/
def coreProofsCard : Claim7 := { stood := { row := coreProofsRow, standIns := [], harness := (true, "f142b6e84e02dd677e7b9c43ea86231e0c9163c350ef8306d7600f42bf478f2f"), looks := true }, kinds := [], alts := [], laidByText := true, laidKinds := [.data, .data, .data], laidTests := true, laidLooks := .later }
def CoreProofsCardSaid : Prop := Claim7.holds Tryz.pinned (.plain (OpenSpec.ofChange coreProofsSpec)) coreProofsCard

/-- THE TIED CARD OF 'kalendslaw34.CoreAll'. -/
def coreAllCard : Claim7 := { stood := { row := coreAllRow, standIns := [], harness := (true, "f142b6e84e02dd677e7b9c43ea86231e0c9163c350ef8306d7600f42bf478f2f"), looks := true }, kinds := [], alts := [], laidByText := true, laidKinds := [.data, .data, .data], laidTests := true, laidLooks := .later }
def CoreAllCardSaid : Prop := Claim7.holds Tryz.pinned (.plain (OpenSpec.ofChange coreAllSpec)) coreAllCard

/-- THE TIED CARD OF 'kalendslaw34.CoreHarmless'. -/
def coreHarmlessCard : Claim7 := { stood := { row := coreHarmlessRow, standIns := [], harness := (true, "f142b6e84e02dd677e7b9c43ea86231e0c9163c350ef8306d7600f42bf478f2f"), looks := true }, kinds := [], alts := [], laidByText := true, laidKinds := [.data, .data, .data], laidTests := true, laidLooks := .later }
def CoreHarmlessCardSaid : Prop := Claim7.holds Tryz.pinned (.plain (OpenSpec.ofChange coreHarmlessSpec)) coreHarmlessCard

/-- THE TIED CARD OF 'kalendslaw34.CoreTexts'. -/
def coreTextsCard : Claim7 := { stood := { row := coreTextsRow, standIns := [], harness := (true, "f142b6e84e02dd677e7b9c43ea86231e0c9163c350ef8306d7600f42bf478f2f"), looks := true }, kinds := [], alts := [], laidByText := true, laidKinds := [.data, .data, .data], laidTests := true, laidLooks := .later }
def CoreTextsCardSaid : Prop := Claim7.holds Tryz.pinned (.plain (OpenSpec.ofChange coreTextsSpec)) coreTextsCard

/-- THE TIED CARD OF 'kalendslaw34.CoreOf'. -/
def coreOfCard : Claim7 := { stood := { row := coreOfRow, standIns := [], harness := (true, "f142b6e84e02dd677e7b9c43ea86231e0c9163c350ef8306d7600f42bf478f2f"), looks := true }, kinds := [], alts := [], laidByText := true, laidKinds := [.data, .data, .data], laidTests := true, laidLooks := .later }
def CoreOfCardSaid : Prop := Claim7.holds Tryz.pinned (.plain (OpenSpec.ofChange coreOfSpec)) coreOfCard

/-- THE TIED CARD OF 'kalendslaw34.CoreParts'. -/
def corePartsCard : Claim7 := { stood := { row := corePartsRow, standIns := [], harness := (true, "f142b6e84e02dd677e7b9c43ea86231e0c9163c350ef8306d7600f42bf478f2f"), looks := true }, kinds := [], alts := [], laidByText := true, laidKinds := [.data, .data, .data], laidTests := true, laidLooks := .later }
def CorePartsCardSaid : Prop := Claim7.holds Tryz.pinned (.plain (OpenSpec.ofChange corePartsSpec)) corePartsCard

/-- THE SECOND FORM's CARD OF 'kalendslaw34.CoreMatchesReference'. -/
def coreMatchesReferenceUptoCard : Claim7 := { stood := { row := coreMatchesReferenceUptoRow, standIns := [], harness := (true, "f142b6e84e02dd677e7b9c43ea86231e0c9163c350ef8306d7600f42bf478f2f"), looks := true }, kinds := [], alts := [], laidByText := true, laidKinds := [.data, .data, .data], laidTests := true, laidLooks := .later }
def CoreMatchesReferenceUptoCardSaid : Prop := Claim7.holds Tryz.pinned (.plain (OpenSpec.upto coreMatchesReferenceSpec)) coreMatchesReferenceUptoCard

/-- THE SECOND FORM's CARD OF 'kalendslaw34.CoreCertificatesMatchReference'. -/
def coreCertificatesMatchReferenceUptoCard : Claim7 := { stood := { row := coreCertificatesMatchReferenceUptoRow, standIns := [], harness := (true, "f142b6e84e02dd677e7b9c43ea86231e0c9163c350ef8306d7600f42bf478f2f"), looks := true }, kinds := [], alts := [], laidByText := true, laidKinds := [.data, .data, .data], laidTests := true, laidLooks := .later }
def CoreCertificatesMatchReferenceUptoCardSaid : Prop := Claim7.holds Tryz.pinned (.plain (OpenSpec.upto coreCertificatesMatchReferenceSpec)) coreCertificatesMatchReferenceUptoCard

/-- THE SECOND FORM's CARD OF 'kalendslaw34.CoreRawMatchesReference'. -/
def coreRawMatchesReferenceUptoCard : Claim7 := { stood := { row := coreRawMatchesReferenceUptoRow, standIns := [], harness := (true, "f142b6e84e02dd677e7b9c43ea86231e0c9163c350ef8306d7600f42bf478f2f"), looks := true }, kinds := [], alts := [], laidByText := true, laidKinds := [.data, .data, .data], laidTests := true, laidLooks := .later }
def CoreRawMatchesReferenceUptoCardSaid : Prop := Claim7.holds Tryz.pinned (.plain (OpenSpec.upto coreRawMatchesReferenceSpec)) coreRawMatchesReferenceUptoCard

/-- THE SECOND FORM's CARD OF 'kalendslaw34.CoreProofs'. -/
def coreProofsUptoCard : Claim7 := { stood := { row := coreProofsUptoRow, standIns := [], harness := (true, "f142b6e84e02dd677e7b9c43ea86231e0c9163c350ef8306d7600f42bf478f2f"), looks := true }, kinds := [], alts := [], laidByText := true, laidKinds := [.data, .data, .data], laidTests := true, laidLooks := .later }
def CoreProofsUptoCardSaid : Prop := Claim7.holds Tryz.pinned (.plain (OpenSpec.upto coreProofsSpec)) coreProofsUptoCard

/-- THE SECOND FORM's CARD OF 'kalendslaw34.CoreAll'. -/
def coreAllUptoCard : Claim7 := { stood := { row := coreAllUptoRow, standIns := [], harness := (true, "f142b6e84e02dd677e7b9c43ea86231e0c9163c350ef8306d7600f42bf478f2f"), looks := true }, kinds := [], alts := [], laidByText := true, laidKinds := [.data, .data, .data], laidTests := true, laidLooks := .later }
def CoreAllUptoCardSaid : Prop := Claim7.holds Tryz.pinned (.plain (OpenSpec.upto coreAllSpec)) coreAllUptoCard

/-- THE SECOND FORM's CARD OF 'kalendslaw34.CoreHarmless'. -/
def coreHarmlessUptoCard : Claim7 := { stood := { row := coreHarmlessUptoRow, standIns := [], harness := (true, "f142b6e84e02dd677e7b9c43ea86231e0c9163c350ef8306d7600f42bf478f2f"), looks := true }, kinds := [], alts := [], laidByText := true, laidKinds := [.data, .data, .data], laidTests := true, laidLooks := .later }
def CoreHarmlessUptoCardSaid : Prop := Claim7.holds Tryz.pinned (.plain (OpenSpec.upto coreHarmlessSpec)) coreHarmlessUptoCard

/-- THE SECOND FORM's CARD OF 'kalendslaw34.CoreTexts'. -/
def coreTextsUptoCard : Claim7 := { stood := { row := coreTextsUptoRow, standIns := [], harness := (true, "f142b6e84e02dd677e7b9c43ea86231e0c9163c350ef8306d7600f42bf478f2f"), looks := true }, kinds := [], alts := [], laidByText := true, laidKinds := [.data, .data, .data], laidTests := true, laidLooks := .later }
def CoreTextsUptoCardSaid : Prop := Claim7.holds Tryz.pinned (.plain (OpenSpec.upto coreTextsSpec)) coreTextsUptoCard

/-- THE SECOND FORM's CARD OF 'kalendslaw34.CoreOf'. -/
def coreOfUptoCard : Claim7 := { stood := { row := coreOfUptoRow, standIns := [], harness := (true, "f142b6e84e02dd677e7b9c43ea86231e0c9163c350ef8306d7600f42bf478f2f"), looks := true }, kinds := [], alts := [], laidByText := true, laidKinds := [.data, .data, .data], laidTests := true, laidLooks := .later }
def CoreOfUptoCardSaid : Prop := Claim7.holds Tryz.pinned (.plain (OpenSpec.upto coreOfSpec)) coreOfUptoCard

/-- THE SECOND FORM's CARD OF 'kalendslaw34.CoreParts'. -/
def corePartsUptoCard : Claim7 := { stood := { row := corePartsUptoRow, standIns := [], harness := (true, "f142b6e84e02dd677e7b9c43ea86231e0c9163c350ef8306d7600f42bf478f2f"), looks := true }, kinds := [], alts := [], laidByText := true, laidKinds := [.data, .data, .data], laidTests := true, laidLooks := .later }
def CorePartsUptoCardSaid : Prop := Claim7.holds Tryz.pinned (.plain (OpenSpec.upto corePartsSpec)) corePartsUptoCard
end Rows
end Go.Proofs.YtcpohkigbaechaaGreatDoor
