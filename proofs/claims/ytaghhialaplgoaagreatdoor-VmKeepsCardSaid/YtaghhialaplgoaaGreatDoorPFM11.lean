/-
  Joined: M8, M10, M11.
-/
import Derived.Test.YtaghhialaplgoaaGreatDoorPFKY
import Derived.Test.YtaghhialaplgoaaGreatDoorPFT
import Derived.Test.YtaghhialaplgoaaGreatDoorPFM9b
import Derived.Test.YtaghhialaplgoaaGreatDoorPFK15
import Derived.Test.YtaghhialaplgoaaGreatDoorPFW3
set_option linter.unusedVariables false
set_option linter.unusedSimpArgs false
/-
  Rows of words by the library's functions: what append makes of so many zeros, and cap, as the model does them.
-/
namespace Go.HL
open Go.RowKit Go.Proofs
set_option maxHeartbeats 4000000
set_option maxRecDepth 100000
set_option linter.unusedSimpArgs false
set_option linter.unusedVariables false
variable {P : Program}
end Go.HL
/-
  Walks: rows of words by the library's functions: Grow, Concat.
-/
namespace Go.HL
open Go.RowKit Go.Proofs
set_option maxHeartbeats 4000000
set_option maxRecDepth 100000
set_option linter.unusedSimpArgs false
set_option linter.unusedVariables false
theorem HRows.meet {P : Program} {ops : Array Oper} {dst : Option Tmp} {op : Op} {ty : TypeId} {pos : String} {af : Array Edge} {l : List Oper} {fr : HFrame} {H H' : HHeap} {K : HFrame → HHeap → Prop} {v : Value} (h : HMeet P fr H ⟨dst, op, ty, pos, af, none⟩ v H') (hr : HRows P ops l (hput fr dst v) H' K) :
    HRows P ops (⟨dst, op, ty, pos, af, none⟩ :: l) fr H K := .inr ⟨rfl, .inl ⟨v, H', h, hr⟩⟩
theorem Hwp.cut {P : Program} {x y : Code} {Q : Exit → HFrame → HHeap → Prop} {fr : HFrame} {H : HHeap} (F : HFrame) (K : HHeap) (h : HW P x (fun e F' K' => e = .normal ∧ K' = K ∧ FLe F F') fr H) (k : Hwp P y Q F K) : Hwp P (.seq x y) Q fr H := by
  refine Hwp.seq (Hwp.mono ?_ (HW.sound _ _ _ _ h))
  rintro _ _ _ ⟨rfl, rfl, hl⟩
  rw [HThen_normal]
  exact Hwp.weaken hl k
end Go.HL
/-
  Walks: two rows of words as one.
-/
namespace Go.HL
open Go.RowKit Go.Proofs
set_option maxHeartbeats 4000000
set_option maxRecDepth 100000
set_option linter.unusedSimpArgs false
set_option linter.unusedVariables false
end Go.HL
