/-
  The row of DeskParts, where what it reads is of bulk at most 1048576.
-/
import Derived.Test.YtoflnkdngcdejaaGreatDoorPZ3
set_option linter.unusedVariables false
set_option linter.unusedSimpArgs false
namespace Go.Proofs.YtoflnkdngcdejaaGreatDoor
open Go.HL Go.RowKit Go.Proofs Go.ChangeShapes Go.WideShapes Go.ChangeAt
set_option maxHeartbeats 4000000
set_option maxRecDepth 1000000
set_option linter.unusedVariables false

theorem d_c1 : Program.inPlace Tryz.prog 3 = Rows.deskPartsUptoRow.inPlace := by kernel_rfl
theorem d_c2 : Program.unfollowed Tryz.prog 3 = Rows.deskPartsUptoRow.unfollowed := by kernel_rfl
theorem d_c3 : Program.recurses Tryz.prog 3 = Rows.deskPartsUptoRow.recurses := by kernel_rfl
theorem d_c4 : Program.varsNamed Tryz.prog 3 = Rows.deskPartsUptoRow.named := by kernel_rfl
theorem d_c5 : Program.stopsHeard Tryz.prog = true := by kernel_rfl
theorem d_c6 : Program.mayEnter Tryz.prog = true := by kernel_rfl
theorem d_closed : joinedFacts Tryz.prog 3 Tryz.f3 (Rows.OpenSpec.upto Rows.deskPartsSpec).bare Rows.deskPartsUptoRow = true := by
  unfold joinedFacts
  rw [d_c1, d_c2, d_c3, d_c4, d_c5, d_c6]
  kernel_rfl
theorem d_holds : Rows.DeskPartsUptoSaid :=
  OpenClaim.holds_of_cond 3 Tryz.f3 rfl rfl rfl rfl rfl rfl rfl ⟨rfl, rfl, rfl, rfl, rfl⟩ rfl rfl rfl rfl rfl (by kernel_rfl) Tryz.func3 d_closed
    (of_decide_eq_true (by kernel_rfl)) (by unfold Func.isWrapper; first | (rw [if_pos (by decide +kernel)]; kernel_rfl) | (rw [if_neg (by decide +kernel)]; exact ⟨rfl, rfl⟩))
    (fun os started H enc _ F => by rw [OpenClaim.pre_eq_preRow]; exact d_lifted os started H enc F)
end Go.Proofs.YtoflnkdngcdejaaGreatDoor
