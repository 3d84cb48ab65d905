/-
  DERIVED. GIVEN WITH THE SEED: THE CARDS: each row of YtaghhialaplgoaaGreatDoorRows.lean that lists a variable, with what it lists TIED to the program's text (the seventh form; the later family's looks); each row that meets fmt, with fmt's text TOLD by the authors' own Lean function (tested against real Go, not proved from fmt's source: count such statements apart). THE CARD IS WHAT COUNTS. Prove the row's statement (the work); the ties are given (YtaghhialaplgoaaGreatDoorTie.lean); close each card by the builder's one call (the guide's Derived/Test/ToyasCard.lean, 'card_holds'). Laid BY PROGRAM, IN A SANDBOX (cutbox-door.mjs). By AI agents, Wed Nov 11 2026. No macro, syntax, notation, axiom, sorry.
-/
import Derived.Test.YtaghhialaplgoaaGreatDoorRows
import GoSem.ClaimSeven
namespace Go.Proofs.YtaghhialaplgoaaGreatDoor
namespace Rows

/-- THE TIED CARD OF 'eddywheellaw13.VmKeeps'. -/
def vmKeepsCard : Claim7 := { stood := { row := vmKeepsRow, standIns := [], harness := (true, "9cd56fba04100b07dde72e5cc729b3fae7e0a9ba4502b5f23e368ef4b5c0f210"), looks := true }, kinds := [], alts := [], laidByText := true, laidKinds := [.data, .data, .data, .data, .pinned], laidTests := true, laidLooks := .later }
def VmKeepsCardSaid : Prop := Claim7.holds Tryz.pinned (.plain (OpenSpec.ofChange vmKeepsSpec)) vmKeepsCard

/-- THE SECOND FORM's CARD OF 'eddywheellaw13.VmKeeps'. -/
def vmKeepsUptoCard : Claim7 := { stood := { row := vmKeepsUptoRow, standIns := [], harness := (true, "9cd56fba04100b07dde72e5cc729b3fae7e0a9ba4502b5f23e368ef4b5c0f210"), looks := true }, kinds := [], alts := [], laidByText := true, laidKinds := [.data, .data, .data, .data, .pinned], laidTests := true, laidLooks := .later }
def VmKeepsUptoCardSaid : Prop := Claim7.holds Tryz.pinned (.plain (OpenSpec.upto vmKeepsSpec)) vmKeepsUptoCard
end Rows
end Go.Proofs.YtaghhialaplgoaaGreatDoor
