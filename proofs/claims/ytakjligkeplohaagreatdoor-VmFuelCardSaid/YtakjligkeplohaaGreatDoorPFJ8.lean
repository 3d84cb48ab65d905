/-
  Joined: J6, J7, J8.
-/
import Derived.Test.YtakjligkeplohaaGreatDoorPFLA
set_option linter.unusedVariables false
set_option linter.unusedSimpArgs false
/-
  VmFuel, run inside the kernel: the texts 18, 19, 20.
-/
namespace Go.HL
set_option maxRecDepth 1000000
theorem fuRun18 (k : Nat) : fuChk 18 k = fuGood 18 k := by kernel_rfl
theorem fuRun19 (k : Nat) : fuChk 19 k = fuGood 19 k := by kernel_rfl
theorem fuRun20 (k : Nat) : fuChk 20 k = fuGood 20 k := by kernel_rfl
end Go.HL
/-
  VmFuel, run inside the kernel: the texts 21, 22, 23.
-/
namespace Go.HL
set_option maxRecDepth 1000000
theorem fuRun21 (k : Nat) : fuChk 21 k = fuGood 21 k := by kernel_rfl
theorem fuRun22 (k : Nat) : fuChk 22 k = fuGood 22 k := by kernel_rfl
theorem fuRun23 (k : Nat) : fuChk 23 k = fuGood 23 k := by kernel_rfl
end Go.HL
/-
  VmFuel, run inside the kernel: the texts 24, 25, 26.
-/
namespace Go.HL
set_option maxRecDepth 1000000
theorem fuRun24 (k : Nat) : fuChk 24 k = fuGood 24 k := by kernel_rfl
theorem fuRun25 (k : Nat) : fuChk 25 k = fuGood 25 k := by kernel_rfl
theorem fuRun26 (k : Nat) : fuChk 26 k = fuGood 26 k := by kernel_rfl
end Go.HL
