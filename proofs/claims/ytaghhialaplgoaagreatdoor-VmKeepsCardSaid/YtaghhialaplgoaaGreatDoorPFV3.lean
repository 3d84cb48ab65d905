/-
  Joined: V1, V2, V3.
-/
import Derived.Test.YtaghhialaplgoaaGreatDoorPFW4
import Derived.Test.YtaghhialaplgoaaGreatDoorPFC5
set_option linter.unusedVariables false
set_option linter.unusedSimpArgs false
/-
  Walks: what is done to words of an arena.
-/
namespace Go.HL
open Go.RowKit Go.Proofs
set_option maxHeartbeats 4000000
set_option maxRecDepth 100000
set_option linter.unusedSimpArgs false
set_option linter.unusedVariables false
def pairW (T : Things) (w : Nat) : Bool := decide (kindN T w = 1 ∧ lenN T w = 2)
def signs7 : List UInt8 := [43, 45, 42, 47, 37, 60, 61]
end Go.HL
/-
  Walks: what is asked of one word.
-/
namespace Go.HL
open Go.RowKit Go.Proofs
set_option maxHeartbeats 4000000
set_option maxRecDepth 100000
set_option linter.unusedSimpArgs false
set_option linter.unusedVariables false
def askF (T : Things) (op w : Nat) : Bool :=
  if op = 9 then decide (w = 10) else if op = 10 then decide (w = 2) else if op = 11 then pairW T w
  else if op = 15 then (toIntF w).isSome else if op = 16 then (toF 3 w).isSome else decide (kindN T w = 2 ∨ kindN T w = 5)
end Go.HL
/-
  Walks: what is done to words.
-/
namespace Go.HL
open Go.RowKit Go.Proofs
set_option maxHeartbeats 4000000
set_option maxRecDepth 100000
set_option linter.unusedSimpArgs false
set_option linter.unusedVariables false
/-- What is done to words: the word, the error, and the things then. -/
def doP (size : Nat) (T : Things) (op : Nat) : List Nat → Nat × Nat × Things
  | [w] =>
    if op = 9 ∨ op = 10 ∨ op = 11 ∨ op = 15 ∨ op = 16 ∨ op = 17 then (boolW (askF T op w), 0, T)
    else if op = 13 ∨ op = 14 then
      (if pairW T w then ((match findT T w with | some t => t.l.getD (op - 13) 0 | none => 0), 0, T) else (0, 100, T))
    else (0, 1, T)
  | [x, y] =>
    if 1 ≤ op ∧ op ≤ 7 then
      (match doV (signs7.getD (op - 1) 0).toNat x y with | .tuple vs => (match vs.toList with | [.int _ w, .int _ e] => (w.toNat, e.toNat, T) | _ => (0, 0, T)) | _ => (0, 0, T))
    else if op = 8 then (boolW (decide (x = y)), 0, T)
    else if op = 12 then (if usedOf T + 3 ≤ size then (wordAt (usedOf T), 0, T ++ [⟨1, [x, y]⟩]) else (0, 20, T))
    else (0, 1, T)
  | _ => (0, 1, T)
end Go.HL
