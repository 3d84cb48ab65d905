/-
  VmWrong, run inside the kernel: the program 6 of nine.
-/
import Derived.Test.YtakjligkeplohaaGreatDoorX2
namespace Go.HL
set_option maxRecDepth 1000000
theorem wRun6 (w m : Nat) : wChk 6 w m = wGood w m := by kernel_rfl
end Go.HL
