/-
  VmWrong, run inside the kernel: the program 8 of nine.
-/
import Derived.Test.YtakjligkeplohaaGreatDoorX2
namespace Go.HL
set_option maxRecDepth 1000000
theorem wRun8 (w m : Nat) : wChk 8 w m = wGood w m := by kernel_rfl
end Go.HL
