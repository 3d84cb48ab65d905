/-
  Joined: J3, J4, J5.
-/
import Derived.Test.YtakjligkeplohaaGreatDoorPFLA
set_option linter.unusedVariables false
set_option linter.unusedSimpArgs false
/-
  VmFuel, run inside the kernel: the texts 9, 10, 11.
-/
namespace Go.HL
set_option maxRecDepth 1000000
theorem fuRun9 (k : Nat) : fuChk 9 k = fuGood 9 k := by kernel_rfl
theorem fuRun10 (k : Nat) : fuChk 10 k = fuGood 10 k := by kernel_rfl
theorem fuRun11 (k : Nat) : fuChk 11 k = fuGood 11 k := by kernel_rfl
end Go.HL
/-
  VmFuel, run inside the kernel: the texts 12, 13, 14.
-/
namespace Go.HL
set_option maxRecDepth 1000000
theorem fuRun12 (k : Nat) : fuChk 12 k = fuGood 12 k := by kernel_rfl
theorem fuRun13 (k : Nat) : fuChk 13 k = fuGood 13 k := by kernel_rfl
theorem fuRun14 (k : Nat) : fuChk 14 k = fuGood 14 k := by kernel_rfl
end Go.HL
/-
  VmFuel, run inside the kernel: the texts 15, 16, 17.
-/
namespace Go.HL
set_option maxRecDepth 1000000
theorem fuRun15 (k : Nat) : fuChk 15 k = fuGood 15 k := by kernel_rfl
theorem fuRun16 (k : Nat) : fuChk 16 k = fuGood 16 k := by kernel_rfl
theorem fuRun17 (k : Nat) : fuChk 17 k = fuGood 17 k := by kernel_rfl
end Go.HL
