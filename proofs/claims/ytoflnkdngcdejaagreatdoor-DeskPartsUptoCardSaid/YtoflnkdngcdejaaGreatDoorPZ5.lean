/-
  Words of a line, and events as text, are the answers of the document (DeskParts): for every input of bulk at most 1048576 the law answers true, and its arguments read as before.
-/
import Derived.Test.YtoflnkdngcdejaaGreatDoorPZ4
set_option linter.unusedVariables false
set_option linter.unusedSimpArgs false
namespace Go.Proofs.YtoflnkdngcdejaaGreatDoor
open Go.HL Go.RowKit Go.Proofs Go.ChangeShapes Go.WideShapes Go.ChangeAt
set_option maxHeartbeats 4000000
set_option maxRecDepth 1000000
set_option linter.unusedVariables false

theorem d_plain (f : FuncId) (fn : Func) (hf : Tryz.pinned.checked.prog.funcNamed "eddywheel/eddywheellaw21.DeskParts" = some f) (hfn : Tryz.pinned.checked.prog.funcs[f]? = some fn) :
    true = Tryz.pinned.checked.prog.looks [] ∧ ∀ (j : Nat) t, fn.params[j]? = some t → Tryz.pinned.checked.prog.wantsStandIn t = false := by
  obtain rfl : f = 3 := Option.some.inj ((show Tryz.prog.funcNamed "eddywheel/eddywheellaw21.DeskParts" = some 3 by kernel_rfl).symm.trans hf) |>.symm
  obtain rfl : fn = Tryz.f3 := (Option.some.inj (Tryz.func3.symm.trans hfn)).symm
  refine ⟨by kernel_rfl, fun j t ht => ?_⟩
  rw [Tryz.params3] at ht
  have hm : t ∈ [9, 22] := by simpa using Array.mem_of_getElem? ht
  have hall : ([9, 22].all fun u => !Tryz.prog.wantsStandIn u) = true := by kernel_rfl
  exact (show Tryz.prog.wantsStandIn t = false by simpa using List.all_eq_true.1 hall t hm)
theorem d_none : Tryz.prog.funcs.any Func.goes = false := by kernel_rfl
theorem d_goes : false = Rows.deskPartsUptoRow.goesBy Tryz.pinned.checked.prog := by
  have h : ∀ g : FuncId, (Tryz.prog.funcs[g]?).any Func.goes = false := by
    intro g
    cases hg : Tryz.prog.funcs[g]? with
    | none => rfl
    | some fn =>
      have := Array.any_eq_false.1 d_none g (Array.getElem?_eq_some_iff.1 hg).1
      rw [(Array.getElem?_eq_some_iff.1 hg).2] at this
      simpa using this
  have hp : ∀ f, Tryz.prog.goes f = false := by
    intro f
    unfold Program.goes
    rw [d_none, Bool.and_false, Bool.or_false, List.any_eq_false]
    intro g _
    simp [h g]
  show false = ((Tryz.prog.funcNamed _).any Tryz.prog.goes || false)
  rw [Bool.or_false]
  cases Tryz.prog.funcNamed Rows.deskPartsUptoRow.func with
  | none => rfl
  | some f => exact (hp f).symm
theorem d_main : Tryz.pinned.checked.prog.mainIs = some (true, "7642684f6e728d9a43aa32cb7324b1feccbd2ef174b7ed0e513ad72659510309".toList) := by kernel_rfl
theorem d_wf : Rows.deskPartsUptoRow.wfByText (Rows.OpenSpec.upto Rows.deskPartsSpec) = true := by kernel_rfl
theorem parts_holds : Rows.DeskPartsUptoCardSaid :=
  Claim7.holds_tied_plain_at .later [] [.data, .data, .data, .data, .sentinel, .sentinel, .pinned] true (true, "7642684f6e728d9a43aa32cb7324b1feccbd2ef174b7ed0e513ad72659510309") true d_holds (fun _ h => by cases h) d_wf (fun _ h => by cases h) deskPartsUpto_row_tie rfl ⟨rfl, rfl⟩ d_main rfl d_plain d_goes
#print axioms parts_holds
end Go.Proofs.YtoflnkdngcdejaaGreatDoor
