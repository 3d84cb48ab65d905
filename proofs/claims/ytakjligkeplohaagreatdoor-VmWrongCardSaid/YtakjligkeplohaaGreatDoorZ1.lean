/-
  Each thing that goes wrong is told by its error (VmWrong): for every two numbers the law answers true, and they read as before. No condition.
-/
import Derived.Test.YtakjligkeplohaaGreatDoorX3
import Derived.Test.YtakjligkeplohaaGreatDoorY0
import Derived.Test.YtakjligkeplohaaGreatDoorY1
import Derived.Test.YtakjligkeplohaaGreatDoorY2
import Derived.Test.YtakjligkeplohaaGreatDoorY3
import Derived.Test.YtakjligkeplohaaGreatDoorY4
import Derived.Test.YtakjligkeplohaaGreatDoorY5
import Derived.Test.YtakjligkeplohaaGreatDoorY6
import Derived.Test.YtakjligkeplohaaGreatDoorY7
import Derived.Test.YtakjligkeplohaaGreatDoorY8
import Derived.Test.YtakjligkeplohaaGreatDoorRows
import Derived.Test.YtakjligkeplohaaGreatDoorCards
import Derived.Test.YtakjligkeplohaaGreatDoorTie
import Derived.WalkKit
import Derived.ProofKit
import Derived.OpenShut
import Derived.Lay
import Derived.LaidOnce
import Derived.SevenTiedAt
namespace Go.Proofs.YtakjligkeplohaaGreatDoor
open Go.HL Go.RowKit Go.Proofs Go.ChangeShapes Go.WideShapes Go.ChangeAt
set_option maxHeartbeats 4000000
set_option maxRecDepth 1000000
set_option linter.unusedVariables false

theorem w_all (w m : Nat) : wChk (w % 9) w m = wGood w m := by
  have h : w % 9 < 9 := Nat.mod_lt _ (by omega)
  generalize w % 9 = k at h
  match k, h with
  | 0, _ => exact wRun0 w m
  | 1, _ => exact wRun1 w m
  | 2, _ => exact wRun2 w m
  | 3, _ => exact wRun3 w m
  | 4, _ => exact wRun4 w m
  | 5, _ => exact wRun5 w m
  | 6, _ => exact wRun6 w m
  | 7, _ => exact wRun7 w m
  | 8, _ => exact wRun8 w m
  | k + 9, h => omega
theorem w_walk (a0 a1 : Int) (w0 : (Lit.int .u8 a0).wf = true) (w1 : (Lit.int .u8 a1).wf = true) (w : World) :
    Calls Tryz.prog 4 #[.int .u8 a0, .int .u8 a1] w fun e w' => e = .returned (.bool true) ∧ Below w.heap.size w w' := by
  have b0 : 0 ≤ a0 ∧ a0 ≤ 255 := by simpa [Lit.wf, IntKind.min, IntKind.max, IntKind.signed, IntKind.bits] using w0
  have b1 : 0 ≤ a1 ∧ a1 ≤ 255 := by simpa [Lit.wf, IntKind.min, IntKind.max, IntKind.signed, IntKind.bits] using w1
  obtain ⟨n0, rfl⟩ := Int.eq_ofNat_of_zero_le b0.1
  obtain ⟨n1, rfl⟩ := Int.eq_ofNat_of_zero_le b1.1
  have h := wTrue n0 n1 (by omega) (by omega) (w_all n0 n1) H0
  refine (h w.heap.size (fun _ => none) w [.int .u8 (n0 : Int), .int .u8 (n1 : Int)] (Rel.nothing w) (.of_flat1 (by rfl))).mono ?_
  rintro e w' ⟨μ', u, H', u', rfl, ⟨rfl, rfl⟩, hu, s⟩
  cases hu
  exact ⟨rfl, s.below (Rel.nothing w)⟩
theorem w_own : ownKnob Tryz.prog.godebug = none := by kernel_rfl
theorem w_lifted (os : Os) (started : os.Started) (H : Type) (enc : TypeId × Value → H) :
    ReturnsInHanded {} Tryz.checked os 4 .any (fun w args => (Rows.vmWrongSpec.pre enc Tryz.prog Tryz.f4 [] false w args ∧ laidMetH Tryz.prog Rows.vmWrongRow.laid w) ∧ sizedMet enc Tryz.prog Tryz.f4 (OpenSpec.ofChange Rows.vmWrongSpec) false w args)
      (Rows.vmWrongSpec.post enc Tryz.prog Tryz.f4 false true false false) := by
  refine returnsInHanded_of_change_and (C := Tryz.checked) (X := fun w _ => laidMetH Tryz.prog Rows.vmWrongRow.laid w) (fun _ _ _ hh h => h.of_heap hh) w_own started (by kernel_rfl) Tryz.func4
    (ChangeSpec.witness_shaped (enc := enc) (C := Tryz.checked) (os := os) (X := fun w _ => laidMetH Tryz.prog Rows.vmWrongRow.laid w) false (World.laidAll Tryz.prog os Rows.vmWrongRow.laid) #[.int .u8 0, .int .u8 0] 8 (World.laidAll_os _ _ _)
      (World.shaped_of_ZipB (by kernel_rfl) (by kernel_rfl)) (by kernel_rfl) (by kernel_rfl) (by kernel_rfl)
      (by rw [MakeChecks.laidMetH_plain _ _ _ (by kernel_rfl)]; exact laidMet_laidAll _ (by kernel_rfl) (by kernel_rfl))) ?_
  intro W base args ds gs before hval0 hW _ _ hL _
  have hval : ∀ (j : Nat) t v, Tryz.f4.params[j]? = some t → args[j]? = some v → Value.okWide Tryz.prog W .any base t v := hval0
  have hW' := hW
  obtain ⟨p, q, hA0, hV, rfl, _, _⟩ := hW
  have hA : DataW.TrodAll enc Tryz.prog W 0 (fun _ => true) true Tryz.f4.params.toList args.toList ds p := hA0
  rw [Tryz.params4] at hA hval
  obtain ⟨v0, vs0, d0, ds0, p0, q0, hargs, rfl, rfl, h0, r0⟩ := trodAll_cons hA
  obtain ⟨v1, vs1, d1, ds1, p1, q1, rfl, rfl, rfl, h1, r1⟩ := trodAll_cons r0
  obtain ⟨rfl, rfl, rfl⟩ := trodAll_nil r1
  obtain rfl : args = #[v0, v1] := by cases args; simp_all
  obtain ⟨rfl, rfl⟩ := trodVars_none hV
  obtain ⟨a0, rfl, rfl, rfl, w0⟩ := open_int Tryz.underlying5 (hval 0 5 v0 rfl rfl) h0
  obtain ⟨a1, rfl, rfl, rfl, w1⟩ := open_int Tryz.underlying5 (hval 1 5 v1 rfl rfl) h1
  clear hA0 hval0
  simp only [List.append_nil] at hW'
  refine (w_walk a0 a1 w0 w1 W).mono fun e W' ⟨he, hb⟩ => ?_
  subst he
  exact ⟨_, rfl, _, _, _, [], [], [], hW', (trodAll_cons_mk (shut_bool Tryz.underlying4 _) trodAll_mk0), (trodAll_cons_mk (shut_int Tryz.underlying5 w0) (trodAll_cons_mk (shut_int Tryz.underlying5 w1) trodAll_mk0)), rfl, hb.frame _, fun h => by cases h⟩
theorem w_holds : Rows.vmWrongRow.holds Tryz.pinned (OpenSpec.ofChange Rows.vmWrongSpec) :=
  OpenClaim.holds_of_wide 4 Tryz.f4 rfl rfl rfl rfl rfl rfl rfl ⟨rfl, rfl, rfl, rfl, rfl⟩ rfl rfl rfl rfl rfl (by kernel_rfl) Tryz.func4 (by kernel_rfl)
    (of_decide_eq_true (by kernel_rfl)) (by unfold Func.isWrapper; first | (rw [if_pos (by decide +kernel)]; kernel_rfl) | (rw [if_neg (by decide +kernel)]; exact ⟨rfl, rfl⟩))
    (fun os started H enc _ => w_lifted os started H enc)
theorem wrong_holds : Rows.VmWrongCardSaid :=
  Claim7.holds_tied_plain_at .later [] [.data, .pinned] true (true, "d02cd293e3f673744ec8ea2524925c1e713dae467e247b8bbe2723ba89d800dd") false w_holds (fun _ h => by cases h) (by kernel_rfl) (fun _ h => by cases h) vmWrong_row_tie rfl ⟨rfl, rfl⟩ (by kernel_rfl) rfl
    (fun f fn hf hfn => by
      obtain rfl : f = 4 := Option.some.inj ((show Tryz.prog.funcNamed "eddywheel/eddywheellaw13.VmWrong" = some 4 by kernel_rfl).symm.trans hf) |>.symm
      obtain rfl : fn = Tryz.f4 := (Option.some.inj (Tryz.func4.symm.trans hfn)).symm
      exact ⟨by kernel_rfl, fun j t ht => by
        rw [Tryz.params4] at ht
        have hm : t ∈ [5, 5] := by simpa using Array.mem_of_getElem? ht
        have hall : ([5, 5].all fun u => !Tryz.prog.wantsStandIn u) = true := by kernel_rfl
        exact (show Tryz.prog.wantsStandIn t = false by simpa using List.all_eq_true.1 hall t hm)⟩)
    (by kernel_rfl)
#print axioms wrong_holds
end Go.Proofs.YtakjligkeplohaaGreatDoor
