/-
  Joined: M22, M23, M24.
-/
import Derived.Test.YtaghhialaplgoaaGreatDoorPFM21
set_option linter.unusedVariables false
set_option linter.unusedSimpArgs false
/-
  Walks: a call.
-/
namespace Go.HL
open Go.RowKit Go.Proofs
set_option maxHeartbeats 4000000
set_option maxRecDepth 100000
set_option linter.unusedSimpArgs false
set_option linter.unusedVariables false
section
variable {Z : Zs} {H : HHeap} {p size : Nat} {vb : Value} {g gw gh : Nat} {vn vk va : Value} {M : MS} {B : List Bk}
end
end Go.HL
/-
  Walks: an instruction.
-/
namespace Go.HL
open Go.RowKit Go.Proofs
set_option maxHeartbeats 4000000
set_option maxRecDepth 100000
set_option linter.unusedSimpArgs false
set_option linter.unusedVariables false
/-- What an instruction is taken to be here. -/
def InOk (i : In) : Prop := i.op < 256 ∧ i.a < 1000000 ∧ i.b < 1000000 ∧ i.w < 18446744073709551616 ∧ (i.op = 11 → 1 ≤ i.a) ∧ (i.op = 0 ∨ 12 ≤ i.op → i.a ≤ 255)
section
variable {Z : Zs} {H : HHeap} {p size : Nat} {vb : Value} {g gw gh : Nat} {vn vk va : Value} {M : MS} {B : List Bk}
end
end Go.HL
/-
  Walks: a machine goes on.
-/
namespace Go.HL
open Go.RowKit Go.Proofs
set_option maxHeartbeats 4000000
set_option maxRecDepth 100000
set_option linter.unusedSimpArgs false
set_option linter.unusedVariables false
section
variable {Z : Zs} {H : HHeap} {p size : Nat} {vb : Value} {g gw gh : Nat} {vn vk va : Value} {M : MS} {B : List Bk}
end
end Go.HL
