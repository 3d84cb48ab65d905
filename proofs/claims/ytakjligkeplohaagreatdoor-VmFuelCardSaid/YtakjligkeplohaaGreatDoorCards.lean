/-
  DERIVED. GIVEN WITH THE SEED: THE CARDS: each row of YtakjligkeplohaaGreatDoorRows.lean that lists a variable, with what it lists TIED to the program's text (the seventh form; the later family's looks); each row that meets fmt, with fmt's text TOLD by the authors' own Lean function (tested against real Go, not proved from fmt's source: count such statements apart). THE CARD IS WHAT COUNTS. Prove the row's statement (the work); the ties are given (YtakjligkeplohaaGreatDoorTie.lean); close each card by the builder's one call (the guide's Derived/Test/ToyasCard.lean, 'card_holds'). Laid BY PROGRAM, IN A SANDBOX (cutbox-door.mjs). By AI agents, Wed Nov 11 2026. No macro, syntax, notation, axiom, sorry.
-/
import Derived.Test.YtakjligkeplohaaGreatDoorRows
import GoSem.ClaimSeven
namespace Go.Proofs.YtakjligkeplohaaGreatDoor
namespace Rows

/-- THE TIED CARD OF 'eddywheellaw13.VmFuel'. -/
def vmFuelCard : Claim7 := { stood := { row := vmFuelRow, standIns := [], harness := (true, "d02cd293e3f673744ec8ea2524925c1e713dae467e247b8bbe2723ba89d800dd"), looks := false }, kinds := [], alts := [], laidByText := true, laidKinds := [.data, .pinned], laidTests := true, laidLooks := .later }
def VmFuelCardSaid : Prop := Claim7.holds Tryz.pinned (.plain (OpenSpec.ofChange vmFuelSpec)) vmFuelCard

/-- THE TIED CARD OF 'eddywheellaw13.VmWrong'. -/
def vmWrongCard : Claim7 := { stood := { row := vmWrongRow, standIns := [], harness := (true, "d02cd293e3f673744ec8ea2524925c1e713dae467e247b8bbe2723ba89d800dd"), looks := false }, kinds := [], alts := [], laidByText := true, laidKinds := [.data, .pinned], laidTests := true, laidLooks := .later }
def VmWrongCardSaid : Prop := Claim7.holds Tryz.pinned (.plain (OpenSpec.ofChange vmWrongSpec)) vmWrongCard

/-- THE SECOND FORM's CARD OF 'eddywheellaw13.VmFuel'. -/
def vmFuelUptoCard : Claim7 := { stood := { row := vmFuelUptoRow, standIns := [], harness := (true, "d02cd293e3f673744ec8ea2524925c1e713dae467e247b8bbe2723ba89d800dd"), looks := false }, kinds := [], alts := [], laidByText := true, laidKinds := [.data, .pinned], laidTests := true, laidLooks := .later }
def VmFuelUptoCardSaid : Prop := Claim7.holds Tryz.pinned (.plain (OpenSpec.upto vmFuelSpec)) vmFuelUptoCard

/-- THE SECOND FORM's CARD OF 'eddywheellaw13.VmWrong'. -/
def vmWrongUptoCard : Claim7 := { stood := { row := vmWrongUptoRow, standIns := [], harness := (true, "d02cd293e3f673744ec8ea2524925c1e713dae467e247b8bbe2723ba89d800dd"), looks := false }, kinds := [], alts := [], laidByText := true, laidKinds := [.data, .pinned], laidTests := true, laidLooks := .later }
def VmWrongUptoCardSaid : Prop := Claim7.holds Tryz.pinned (.plain (OpenSpec.upto vmWrongSpec)) vmWrongUptoCard
end Rows
end Go.Proofs.YtakjligkeplohaaGreatDoor
