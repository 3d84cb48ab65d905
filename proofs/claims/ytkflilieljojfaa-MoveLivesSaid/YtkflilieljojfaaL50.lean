/-
  What is kept, where, and how much is reached, are the answers of the document: for every input the law answers true, and its argument reads as before.
-/
import Derived.Test.YtkflilieljojfaaL49
import Derived.Test.YtkflilieljojfaaRows
namespace Go.Proofs.Ytkflilieljojfaa
open Go.HL Go.RowKit Go.Proofs Go.ChangeShapes Go.WideShapes Go.ChangeAt
set_option maxHeartbeats 4000000
set_option maxRecDepth 100000

theorem lives_lifted (os : Os) (started : os.Started) (H : Type) (enc : TypeId × Value → H) :
    ReturnsInHanded {} Try.checked os 3 .any (Rows.moveLivesSpec.pre6 enc Try.prog Try.f3 Rows.moveLivesRow.domain false) (Rows.moveLivesSpec.post enc Try.prog Try.f3 false true false false) := by
  refine returns_true (C := Try.checked) (tb := 4) Try.own started (by kernel_rfl) Try.func3
    (ChangeSpec.witness6 (enc := enc) (C := Try.checked) false ⟨#[], #[.agg #[.int .i64 0, .slice none 0 0, .slice none 0 0]], []⟩ 8 (by kernel_rfl) (by kernel_rfl) (by kernel_rfl) (by kernel_rfl))
    Try.laidOut (by kernel_rfl) (by kernel_rfl) (by kernel_rfl) (by kernel_rfl) Try.underlying4 rfl ?_ ?_
  · intro ds hl
    rw [Try.params3] at hl
    match ds, hl with
    | [d0], _ => rfl
  · intro H hargs hh
    rw [show Try.f3.params.toList = [25] by rw [Try.params3]] at hh
    match hargs, hh with
    | [v0], ⟨h0, _⟩ =>
      obtain ⟨r_v0, k_v0⟩ := heapArg h0
      exact law_MoveLives H _ r_v0 k_v0 _ fun _ => rfl

theorem lives_holds : Rows.MoveLivesSaid :=
  OpenClaim.holds_of_wide 3 Try.f3 rfl rfl rfl rfl rfl rfl rfl ⟨rfl, rfl, rfl, rfl, rfl⟩ rfl rfl rfl rfl rfl (by kernel_rfl) Try.func3 (by kernel_rfl)
    (of_decide_eq_true (by kernel_rfl)) (by unfold Func.isWrapper; first | (rw [if_pos (by decide +kernel)]; kernel_rfl) | (rw [if_neg (by decide +kernel)]; exact ⟨rfl, rfl⟩))
    (fun os started H enc _ => lives_lifted os started H enc)
end Go.Proofs.Ytkflilieljojfaa
