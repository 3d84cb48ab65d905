/-
  The writer's deferred function is calm where its caller returns.
-/
import Derived.Test.YtoflnkdngcdejaaGreatDoorPU2
import Derived.Test.YtoflnkdngcdejaaGreatDoorProg
import Derived.Tactics2
import Derived.Laws.Pointers
set_option linter.unusedVariables false
set_option linter.unusedSimpArgs false
namespace Go.HL
open Go.RowKit Go.Proofs
set_option linter.unusedSimpArgs false
set_option maxRecDepth 100000
set_option maxHeartbeats 1000000

theorem calm_all : Calm Tryz.prog 366 := by
  intro w
  refine callsD_of_wpS Tryz.func366 rfl fun c₀ cs hu => ?_
  apply wpS_seq
  apply wpS_region
  simp [wpOpsS, go_sem, recoverD, hu, Tryz.ntmps366, Exit.thenS]
  apply wpS_seq
  apply wpS_region
  simp [wpOpsS, go_sem, Exit.thenS, Instr.typeAssert, Instr.alloc, Tryz.underlying447, Tryz.zeroValue447]
  apply wpS_seq
  apply wpS_region
  simp [wpOpsS, go_sem, Exit.thenS]
  refine wpS_cond (t := false) (by simp [Act.eval, Array.replicate]) ?_
  simp only [Bool.false_eq_true, if_false]
  refine wpS_of_wp (wp_skip ?_)
  cases c₀
  simp_all [bodyPostS, results, Tryz.results366]
  exact (Below.refl _ w).alloc (Nat.le_refl _) _
end Go.HL
