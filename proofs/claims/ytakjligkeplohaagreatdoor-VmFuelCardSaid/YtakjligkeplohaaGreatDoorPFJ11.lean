/-
  Joined: J9, J10, J11.
-/
import Derived.Test.YtakjligkeplohaaGreatDoorPFLA
set_option linter.unusedVariables false
set_option linter.unusedSimpArgs false
/-
  VmFuel, run inside the kernel: the texts 27, 28, 29.
-/
namespace Go.HL
set_option maxRecDepth 1000000
theorem fuRun27 (k : Nat) : fuChk 27 k = fuGood 27 k := by kernel_rfl
theorem fuRun28 (k : Nat) : fuChk 28 k = fuGood 28 k := by kernel_rfl
theorem fuRun29 (k : Nat) : fuChk 29 k = fuGood 29 k := by kernel_rfl
end Go.HL
/-
  VmFuel, run inside the kernel: the texts 30, 31, 32.
-/
namespace Go.HL
set_option maxRecDepth 1000000
theorem fuRun30 (k : Nat) : fuChk 30 k = fuGood 30 k := by kernel_rfl
theorem fuRun31 (k : Nat) : fuChk 31 k = fuGood 31 k := by kernel_rfl
theorem fuRun32 (k : Nat) : fuChk 32 k = fuGood 32 k := by kernel_rfl
end Go.HL
/-
  VmFuel, run inside the kernel: the texts 33, 34, 35.
-/
namespace Go.HL
set_option maxRecDepth 1000000
theorem fuRun33 (k : Nat) : fuChk 33 k = fuGood 33 k := by kernel_rfl
theorem fuRun34 (k : Nat) : fuChk 34 k = fuGood 34 k := by kernel_rfl
theorem fuRun35 (k : Nat) : fuChk 35 k = fuGood 35 k := by kernel_rfl
end Go.HL
