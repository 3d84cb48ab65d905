/-
  DERIVED. GIVEN WITH THE SEED: THE CARDS: each row of YtoflnkdngcdejaaGreatDoorRows.lean that lists a variable, with what it lists TIED to the program's text (the seventh form; the later family's looks); each row that meets fmt, with fmt's text TOLD by the authors' own Lean function (tested against real Go, not proved from fmt's source: count such statements apart). THE CARD IS WHAT COUNTS. Prove the row's statement (the work); the ties are given (YtoflnkdngcdejaaGreatDoorTie.lean); close each card by the builder's one call (the guide's Derived/Test/ToyasCard.lean, 'card_holds'). Laid BY PROGRAM, IN A SANDBOX (cutbox-door.mjs). By AI agents, Wed Nov 11 2026. No macro, syntax, notation, axiom, sorry.
-/
import Derived.Test.YtoflnkdngcdejaaGreatDoorRows
import GoSem.ClaimSeven
namespace Go.Proofs.YtoflnkdngcdejaaGreatDoor
namespace Rows

/-- THE TIED CARD OF 'eddywheellaw21.DeskParts'. -/
def deskPartsCard : Claim7 := { stood := { row := deskPartsRow, standIns := [], harness := (true, "7642684f6e728d9a43aa32cb7324b1feccbd2ef174b7ed0e513ad72659510309"), looks := true }, kinds := [], alts := [], laidByText := true, laidKinds := [.data, .data, .data, .data, .sentinel, .sentinel, .pinned], laidTests := true, laidLooks := .later }
def DeskPartsCardSaid : Prop := Claim7.holds Tryz.pinned (.plain (OpenSpec.ofChange deskPartsSpec)) deskPartsCard

/-- THE SECOND FORM's CARD OF 'eddywheellaw21.DeskParts'. -/
def deskPartsUptoCard : Claim7 := { stood := { row := deskPartsUptoRow, standIns := [], harness := (true, "7642684f6e728d9a43aa32cb7324b1feccbd2ef174b7ed0e513ad72659510309"), looks := true }, kinds := [], alts := [], laidByText := true, laidKinds := [.data, .data, .data, .data, .sentinel, .sentinel, .pinned], laidTests := true, laidLooks := .later }
def DeskPartsUptoCardSaid : Prop := Claim7.holds Tryz.pinned (.plain (OpenSpec.upto deskPartsSpec)) deskPartsUptoCard
end Rows
end Go.Proofs.YtoflnkdngcdejaaGreatDoor
