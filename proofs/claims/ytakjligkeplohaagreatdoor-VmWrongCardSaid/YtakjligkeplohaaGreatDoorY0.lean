/-
  VmWrong, run inside the kernel: the program 0 of nine.
-/
import Derived.Test.YtakjligkeplohaaGreatDoorX2
namespace Go.HL
set_option maxRecDepth 1000000
theorem wRun0 (w m : Nat) : wChk 0 w m = wGood w m := by kernel_rfl
end Go.HL
