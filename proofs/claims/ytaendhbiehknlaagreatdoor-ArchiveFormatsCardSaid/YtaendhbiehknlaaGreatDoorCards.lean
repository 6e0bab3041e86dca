/-
  DERIVED. GIVEN WITH THE SEED: THE CARDS: each row of YtaendhbiehknlaaGreatDoorRows.lean that lists a variable, with what it lists TIED to the program's text (the seventh form; the later family's looks); each row that meets fmt, with fmt's text TOLD by the authors' own Lean function (tested against real Go, not proved from fmt's source: count such statements apart). THE CARD IS WHAT COUNTS. Prove the row's statement (the work); the ties are given (YtaendhbiehknlaaGreatDoorTie.lean); close each card by the builder's one call (the guide's Derived/Test/ToyasCard.lean, 'card_holds'). Laid BY PROGRAM, IN A SANDBOX (cutbox-door.mjs). By AI agents, Wed Nov 11 2026. No macro, syntax, notation, axiom, sorry.
-/
import Derived.Test.YtaendhbiehknlaaGreatDoorRows
import GoSem.ClaimSeven
namespace Go.Proofs.YtaendhbiehknlaaGreatDoor
namespace Rows

/-- THE TIED CARD OF 'engrosserlaw29.ArchiveFormats'. -/
def archiveFormatsCard : Claim7 := { stood := { row := archiveFormatsRow, standIns := [], harness := (true, "9e4342d605ead334c534a39904c399602e2a9549e1932cdc070b3c73b5ef2a4a"), looks := true }, kinds := [], alts := [], laidByText := true, laidKinds := [.data, .data, .handle, .data, .data], laidTests := true, laidLooks := .later }
def ArchiveFormatsCardSaid : Prop := Claim7.holds Tryz.pinned (.plain (OpenSpec.ofChange archiveFormatsSpec)) archiveFormatsCard

/-- THE SECOND FORM's CARD OF 'engrosserlaw29.ArchiveFormats'. -/
def archiveFormatsUptoCard : Claim7 := { stood := { row := archiveFormatsUptoRow, standIns := [], harness := (true, "9e4342d605ead334c534a39904c399602e2a9549e1932cdc070b3c73b5ef2a4a"), looks := true }, kinds := [], alts := [], laidByText := true, laidKinds := [.data, .data, .handle, .data, .data], laidTests := true, laidLooks := .later }
def ArchiveFormatsUptoCardSaid : Prop := Claim7.holds Tryz.pinned (.plain (OpenSpec.upto archiveFormatsSpec)) archiveFormatsUptoCard
end Rows
end Go.Proofs.YtaendhbiehknlaaGreatDoor
