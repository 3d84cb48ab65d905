/-
  VmWrong, run inside the kernel: the program 5 of nine.
-/
import Derived.Test.YtakjligkeplohaaGreatDoorX2
namespace Go.HL
set_option maxRecDepth 1000000
theorem wRun5 (w m : Nat) : wChk 5 w m = wGood w m := by kernel_rfl
end Go.HL
