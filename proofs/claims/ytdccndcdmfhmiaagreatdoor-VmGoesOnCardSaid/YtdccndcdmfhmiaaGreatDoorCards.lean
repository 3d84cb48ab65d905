/-
  DERIVED. GIVEN WITH THE SEED: THE CARDS: each row of YtdccndcdmfhmiaaGreatDoorRows.lean that lists a variable, with what it lists TIED to the program's text (the seventh form; the later family's looks); each row that meets fmt, with fmt's text TOLD by the authors' own Lean function (tested against real Go, not proved from fmt's source: count such statements apart). THE CARD IS WHAT COUNTS. Prove the row's statement (the work); the ties are given (YtdccndcdmfhmiaaGreatDoorTie.lean); close each card by the builder's one call (the guide's Derived/Test/ToyasCard.lean, 'card_holds'). Laid BY PROGRAM, IN A SANDBOX (cutbox-door.mjs). By AI agents, Wed Nov 11 2026. No macro, syntax, notation, axiom, sorry.
-/
import Derived.Test.YtdccndcdmfhmiaaGreatDoorRows
import GoSem.ClaimSeven
namespace Go.Proofs.YtdccndcdmfhmiaaGreatDoor
namespace Rows

/-- THE TIED CARD OF 'eddywheellaw13.VmGoesOn'. -/
def vmGoesOnCard : Claim7 := { stood := { row := vmGoesOnRow, standIns := [], harness := (true, "968da6ad923fc2c0b3e23bb142a94f531fa1977d2d4c5a78df450fc830d8af56"), looks := true }, kinds := [], alts := [], laidByText := true, laidKinds := [.data, .data, .data, .data, .pinned], laidTests := true, laidLooks := .later }
def VmGoesOnCardSaid : Prop := Claim7.holds Tryz.pinned (.plain (OpenSpec.ofChange vmGoesOnSpec)) vmGoesOnCard

/-- THE SECOND FORM's CARD OF 'eddywheellaw13.VmGoesOn'. -/
def vmGoesOnUptoCard : Claim7 := { stood := { row := vmGoesOnUptoRow, standIns := [], harness := (true, "968da6ad923fc2c0b3e23bb142a94f531fa1977d2d4c5a78df450fc830d8af56"), looks := true }, kinds := [], alts := [], laidByText := true, laidKinds := [.data, .data, .data, .data, .pinned], laidTests := true, laidLooks := .later }
def VmGoesOnUptoCardSaid : Prop := Claim7.holds Tryz.pinned (.plain (OpenSpec.upto vmGoesOnSpec)) vmGoesOnUptoCard
end Rows
end Go.Proofs.YtdccndcdmfhmiaaGreatDoor
