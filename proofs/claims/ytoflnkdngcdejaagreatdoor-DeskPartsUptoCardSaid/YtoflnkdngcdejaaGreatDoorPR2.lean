/-
  The document's examples of the desk, run inside the kernel: they are as the document says.
-/
import Derived.Test.YtoflnkdngcdejaaGreatDoorPR1
set_option linter.unusedVariables false
set_option linter.unusedSimpArgs false
namespace Go.HL
open Go.Proofs
set_option maxRecDepth 1000000
theorem shown_run : comesTo (call1 8 [] 0 .nil) (.bool true) = true := by kernel_rfl
theorem desk_shown (H : HHeap) : HCalls Tryz.prog 8 [] H fun v' H' => v' = .bool true ∧ H' = H := HCalls.of_comesTo call1_ok (by rfl) (by rfl) shown_run H
end Go.HL
