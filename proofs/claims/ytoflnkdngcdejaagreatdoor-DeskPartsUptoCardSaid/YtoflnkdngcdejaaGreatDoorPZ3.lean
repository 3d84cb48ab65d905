/-
  The law DeskParts: what it returns, in the claim's form.
-/
import Derived.Test.YtoflnkdngcdejaaGreatDoorPZ2
set_option linter.unusedVariables false
set_option linter.unusedSimpArgs false
namespace Go.Proofs.YtoflnkdngcdejaaGreatDoor
open Go.HL Go.RowKit Go.Proofs Go.ChangeShapes Go.WideShapes Go.ChangeAt
set_option maxHeartbeats 4000000
set_option maxRecDepth 1000000
set_option linter.unusedVariables false

theorem d_shaped (os : Os) : ((World.laidAll Tryz.prog os Rows.deskPartsUptoRow.laid).forCall (fun _ _ => 0) ⟨#[], #[.string ⟨#[]⟩, .slice none 0 0], []⟩).Shaped Tryz.prog :=
  World.shaped_of_ZipB (by kernel_rfl) (by kernel_rfl)
theorem d_met (os : Os) : laidMetH Tryz.prog Rows.deskPartsUptoRow.laid ((World.laidAll Tryz.prog os Rows.deskPartsUptoRow.laid).forCall (fun _ _ => 0) ⟨#[], #[.string ⟨#[]⟩, .slice none 0 0], []⟩).memory := by
  rw [MakeChecks.laidMetH_plain _ _ _ (by kernel_rfl)]; exact laidMet_laidAll _ (by kernel_rfl) (by kernel_rfl)
theorem d_reads (os : Os) {H : Type} (enc : TypeId × Value → H) : ∃ places, DataW.whole enc Tryz.prog ((World.laidAll Tryz.prog os Rows.deskPartsUptoRow.laid).forCall (fun _ _ => 0) ⟨#[], #[.string ⟨#[]⟩, .slice none 0 0], []⟩).memory Tryz.f3.params.toList Rows.deskPartsSpec.vars false #[Value.string ⟨#[]⟩, .slice none 0 0].toList 8 = some ([.lit (.string []), .nil], [], places) :=
  ⟨[], by kernel_rfl⟩
theorem d_lifted (os : Os) (started : os.Started) (H : Type) (enc : TypeId × Value → H) (F : Stop.Interp) :
    ReturnsInHanded {} Tryz.checked os 3 .any ((Rows.OpenSpec.upto Rows.deskPartsSpec).preRow enc Tryz.prog Tryz.f3 Rows.deskPartsUptoRow.domain false Rows.deskPartsUptoRow.laid) (((Rows.OpenSpec.upto Rows.deskPartsSpec).at F).post enc Tryz.prog Tryz.f3 false true false false) := by
  obtain ⟨places, hx⟩ := d_reads os enc
  refine returns_upto (C := Tryz.checked) (tb := 4) F d_own started (by kernel_rfl) Tryz.func3
    (witness_upto #[.string ⟨#[]⟩, .slice none 0 0] (d_shaped os) (by kernel_rfl)
      (OpenSpec.preRow_of_cond 8 hx (by kernel_rfl) (fun k hk => by cases hk; kernel_rfl) (by kernel_rfl) (d_met os)))
    d_laidOut (by kernel_rfl) (by kernel_rfl) (by kernel_rfl) (by kernel_rfl) Tryz.underlying4 rfl ?_ d_tabs ?_
  · intro ds hl
    rw [Tryz.params3] at hl
    match ds, hl with
    | [d0, d1], _ => rfl
  · intro H hargs hh
    rw [show Tryz.f3.params.toList = [9, 22] by rw [Tryz.params3]] at hh
    exact d_law H hargs hh
end Go.Proofs.YtoflnkdngcdejaaGreatDoor
