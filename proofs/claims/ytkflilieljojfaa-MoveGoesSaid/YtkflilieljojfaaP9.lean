/-
  What is kept can be gone on with: for every input the law answers true, and its arguments read as before.
-/
import Derived.Test.YtkflilieljojfaaD5
import Derived.Test.YtkflilieljojfaaR0
import Derived.Test.YtkflilieljojfaaRows
namespace Go.Proofs.Ytkflilieljojfaa
open Go.HL Go.RowKit Go.Proofs Go.ChangeShapes Go.WideShapes Go.ChangeAt
set_option maxHeartbeats 4000000
set_option maxRecDepth 100000

theorem goes_lifted (os : Os) (started : os.Started) (H : Type) (enc : TypeId × Value → H) :
    ReturnsInHanded {} Try.checked os 9 .any (Rows.moveGoesSpec.pre6 enc Try.prog Try.f9 Rows.moveGoesRow.domain false) (Rows.moveGoesSpec.post enc Try.prog Try.f9 false true false false) := by
  refine returns_true (C := Try.checked) (tb := 4) Try.own started (by kernel_rfl) Try.func9
    (ChangeSpec.witness6 (enc := enc) (C := Try.checked) false ⟨#[], #[.agg #[.int .i64 0, .slice none 0 0, .slice none 0 0], .int .u8 0], []⟩ 8 (by kernel_rfl) (by kernel_rfl) (by kernel_rfl) (by kernel_rfl))
    Try.laidOut (by kernel_rfl) (by kernel_rfl) (by kernel_rfl) (by kernel_rfl) Try.underlying4 rfl ?_ ?_
  · intro ds hl
    rw [Try.params9] at hl
    match ds, hl with
    | [d0, d1], _ => rfl
  · intro H hargs hh
    rw [show Try.f9.params.toList = [25, 5] by rw [Try.params9]] at hh
    match hargs, hh with
    | [v0, v1], ⟨h0, h1, _⟩ =>
      obtain ⟨r_v0, k_v0⟩ := heapArg h0
      obtain ⟨n_v1, rfl, k_v1⟩ := u8_nat Try.underlying5 h1
      exact law_MoveGoes H _ r_v0 k_v0 n_v1 k_v1 _ fun _ => rfl

theorem goes_holds : Rows.MoveGoesSaid :=
  OpenClaim.holds_of_wide 9 Try.f9 rfl rfl rfl rfl rfl rfl rfl ⟨rfl, rfl, rfl, rfl, rfl⟩ rfl rfl rfl rfl rfl (by kernel_rfl) Try.func9 (by kernel_rfl)
    (of_decide_eq_true (by kernel_rfl)) (by unfold Func.isWrapper; first | (rw [if_pos (by decide +kernel)]; kernel_rfl) | (rw [if_neg (by decide +kernel)]; exact ⟨rfl, rfl⟩))
    (fun os started H enc _ => goes_lifted os started H enc)
end Go.Proofs.Ytkflilieljojfaa
