/-
  Walks: what comes of two numbers.
-/
import Derived.Test.YtaghhialaplgoaaGreatDoorPFW3
set_option linter.unusedVariables false
set_option linter.unusedSimpArgs false
namespace Go.HL
open Go.RowKit Go.Proofs
set_option maxHeartbeats 4000000
set_option maxRecDepth 100000
set_option linter.unusedSimpArgs false
set_option linter.unusedVariables false
def doN (op : Nat) (x y : Int) : Value :=
  if y = 0 ∧ (op = 47 ∨ op = 37) then .tuple #[U 0, I 12]
  else if op = 43 then intV (x + y) else if op = 45 then intV (x - y) else if op = 42 then intV (x * y) else if op = 47 then intV (x.tdiv y) else if op = 37 then intV (x.tmod y)
  else if op = 60 then .tuple #[U (boolW (decide (x < y))), I 0] else .tuple #[U (boolW (decide (x = y))), I 0]
def doV (op a b : Nat) : Value := match toIntF a, toIntF b with | some x, some y => doN op x y | _, _ => .tuple #[U 0, I 11]
end Go.HL
