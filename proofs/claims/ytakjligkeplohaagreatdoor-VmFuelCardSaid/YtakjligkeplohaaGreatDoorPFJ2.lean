/-
  Joined: J0, J1, J2.
-/
import Derived.Test.YtakjligkeplohaaGreatDoorPFLA
set_option linter.unusedVariables false
set_option linter.unusedSimpArgs false
/-
  VmFuel, run inside the kernel: the texts 0, 1, 2.
-/
namespace Go.HL
set_option maxRecDepth 1000000
theorem fuRun0 (k : Nat) : fuChk 0 k = fuGood 0 k := by kernel_rfl
theorem fuRun1 (k : Nat) : fuChk 1 k = fuGood 1 k := by kernel_rfl
theorem fuRun2 (k : Nat) : fuChk 2 k = fuGood 2 k := by kernel_rfl
end Go.HL
/-
  VmFuel, run inside the kernel: the texts 3, 4, 5.
-/
namespace Go.HL
set_option maxRecDepth 1000000
theorem fuRun3 (k : Nat) : fuChk 3 k = fuGood 3 k := by kernel_rfl
theorem fuRun4 (k : Nat) : fuChk 4 k = fuGood 4 k := by kernel_rfl
theorem fuRun5 (k : Nat) : fuChk 5 k = fuGood 5 k := by kernel_rfl
end Go.HL
/-
  VmFuel, run inside the kernel: the texts 6, 7, 8.
-/
namespace Go.HL
set_option maxRecDepth 1000000
theorem fuRun6 (k : Nat) : fuChk 6 k = fuGood 6 k := by kernel_rfl
theorem fuRun7 (k : Nat) : fuChk 7 k = fuGood 7 k := by kernel_rfl
theorem fuRun8 (k : Nat) : fuChk 8 k = fuGood 8 k := by kernel_rfl
end Go.HL
