/-
  Joined: J12, J13, J14.
-/
import Derived.Test.YtakjligkeplohaaGreatDoorPFLA
set_option linter.unusedVariables false
set_option linter.unusedSimpArgs false
/-
  VmFuel, run inside the kernel: the texts 36, 37, 38.
-/
namespace Go.HL
set_option maxRecDepth 1000000
theorem fuRun36 (k : Nat) : fuChk 36 k = fuGood 36 k := by kernel_rfl
theorem fuRun37 (k : Nat) : fuChk 37 k = fuGood 37 k := by kernel_rfl
theorem fuRun38 (k : Nat) : fuChk 38 k = fuGood 38 k := by kernel_rfl
end Go.HL
/-
  VmFuel, run inside the kernel: the texts 39, 40, 41.
-/
namespace Go.HL
set_option maxRecDepth 1000000
theorem fuRun39 (k : Nat) : fuChk 39 k = fuGood 39 k := by kernel_rfl
theorem fuRun40 (k : Nat) : fuChk 40 k = fuGood 40 k := by kernel_rfl
theorem fuRun41 (k : Nat) : fuChk 41 k = fuGood 41 k := by kernel_rfl
end Go.HL
/-
  VmFuel, run inside the kernel: the texts 42, 43, 44.
-/
namespace Go.HL
set_option maxRecDepth 1000000
theorem fuRun42 (k : Nat) : fuChk 42 k = fuGood 42 k := by kernel_rfl
theorem fuRun43 (k : Nat) : fuChk 43 k = fuGood 43 k := by kernel_rfl
theorem fuRun44 (k : Nat) : fuChk 44 k = fuGood 44 k := by kernel_rfl
end Go.HL
