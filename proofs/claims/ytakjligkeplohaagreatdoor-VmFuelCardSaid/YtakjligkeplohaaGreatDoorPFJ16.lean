/-
  Joined: J15, J16.
-/
import Derived.Test.YtakjligkeplohaaGreatDoorPFLA
set_option linter.unusedVariables false
set_option linter.unusedSimpArgs false
/-
  VmFuel, run inside the kernel: the texts 45, 46, 47.
-/
namespace Go.HL
set_option maxRecDepth 1000000
theorem fuRun45 (k : Nat) : fuChk 45 k = fuGood 45 k := by kernel_rfl
theorem fuRun46 (k : Nat) : fuChk 46 k = fuGood 46 k := by kernel_rfl
theorem fuRun47 (k : Nat) : fuChk 47 k = fuGood 47 k := by kernel_rfl
end Go.HL
/-
  VmFuel, run inside the kernel: the texts 48, 49, 50.
-/
namespace Go.HL
set_option maxRecDepth 1000000
theorem fuRun48 (k : Nat) : fuChk 48 k = fuGood 48 k := by kernel_rfl
theorem fuRun49 (k : Nat) : fuChk 49 k = fuGood 49 k := by kernel_rfl
theorem fuRun50 (k : Nat) : fuChk 50 k = fuGood 50 k := by kernel_rfl
end Go.HL
