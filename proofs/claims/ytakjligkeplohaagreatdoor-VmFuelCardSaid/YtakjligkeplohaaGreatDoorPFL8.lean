/-
  A row of calls takes as many as there are, one by one; and without one nothing of a call is done (VmFuel): for every two numbers the law answers true, and they read as before. No condition.
-/
import Derived.Test.YtakjligkeplohaaGreatDoorPFL6
import Derived.Test.YtakjligkeplohaaGreatDoorRows
import Derived.Test.YtakjligkeplohaaGreatDoorCards
import Derived.Test.YtakjligkeplohaaGreatDoorTie
import Derived.WalkKit
import Derived.ProofKit
import Derived.OpenShut
import Derived.Lay
import Derived.LaidOnce
import Derived.SevenTiedAt
import Derived.Test.YtakjligkeplohaaGreatDoorPFJ2
import Derived.Test.YtakjligkeplohaaGreatDoorPFJ5
import Derived.Test.YtakjligkeplohaaGreatDoorPFJ8
import Derived.Test.YtakjligkeplohaaGreatDoorPFJ11
import Derived.Test.YtakjligkeplohaaGreatDoorPFJ14
import Derived.Test.YtakjligkeplohaaGreatDoorPFJ16
import Derived.Test.YtakjligkeplohaaGreatDoorPFJE2
set_option linter.unusedVariables false
set_option linter.unusedSimpArgs false
/-
  VmFuel: the row's statement, of what was run.
-/
namespace Go.Proofs.YtakjligkeplohaaGreatDoor
open Go.HL Go.RowKit Go.Proofs Go.ChangeShapes Go.WideShapes Go.ChangeAt
set_option maxHeartbeats 4000000
set_option maxRecDepth 1000000
set_option linter.unusedVariables false
theorem fu_calls (hrun : ∀ n, n < 51 → ∀ k, fuChk n k = fuGood n k) (hend : ∀ n, n < 51 → fuEnd n = some (0, 3, 8 * n)) (a0 a1 : Int) (w0 : (Lit.int .u8 a0).wf = true) (w1 : (Lit.int .u8 a1).wf = true) (w : World) :
    Calls Tryz.prog 3 #[.int .u8 a0, .int .u8 a1] w fun e w' => e = .returned (.bool true) ∧ Below w.heap.size w w' := by
  have b0 : 0 ≤ a0 ∧ a0 ≤ 255 := by simpa [Lit.wf, IntKind.min, IntKind.max, IntKind.signed, IntKind.bits] using w0
  have b1 : 0 ≤ a1 ∧ a1 ≤ 255 := by simpa [Lit.wf, IntKind.min, IntKind.max, IntKind.signed, IntKind.bits] using w1
  obtain ⟨n0, rfl⟩ := Int.eq_ofNat_of_zero_le b0.1
  obtain ⟨n1, rfl⟩ := Int.eq_ofNat_of_zero_le b1.1
  have hlt : n0 % 51 < 51 := Nat.mod_lt _ (by omega)
  have h := fu_walk n0 n1 (by omega) (by omega) (hrun _ hlt _) (hend _ hlt) H0
  have ht : TabsOk w.heap.size w := ⟨(fun t ht => by cases ht), (fun g hg => by cases hg)⟩
  refine (h w.heap.size (fun _ => none) w [.int .u8 (n0 : Int), .int .u8 (n1 : Int)] (Rel.nothing w ht) (.of_flat1 (by rfl))).mono ?_
  rintro e w' ⟨μ', u, H', u', rfl, ⟨rfl, rfl⟩, hu, s⟩
  cases hu
  exact ⟨rfl, s.below (Rel.nothing w ht)⟩
theorem fu_own : ownKnob Tryz.prog.godebug = none := by kernel_rfl
theorem fu_lifted (hrun : ∀ n, n < 51 → ∀ k, fuChk n k = fuGood n k) (hend : ∀ n, n < 51 → fuEnd n = some (0, 3, 8 * n)) (os : Os) (started : os.Started) (H : Type) (enc : TypeId × Value → H) :
    ReturnsInHanded {} Tryz.checked os 3 .any (fun w args => (Rows.vmFuelSpec.pre enc Tryz.prog Tryz.f3 [] false w args ∧ laidMetH Tryz.prog Rows.vmFuelRow.laid w) ∧ sizedMet enc Tryz.prog Tryz.f3 (OpenSpec.ofChange Rows.vmFuelSpec) false w args)
      (Rows.vmFuelSpec.post enc Tryz.prog Tryz.f3 false true false false) := by
  refine returnsInHanded_of_change_and (C := Tryz.checked) (X := fun w _ => laidMetH Tryz.prog Rows.vmFuelRow.laid w) (fun _ _ _ hh h => h.of_heap hh) fu_own started (by kernel_rfl) Tryz.func3
    (ChangeSpec.witness_shaped (enc := enc) (C := Tryz.checked) (os := os) (X := fun w _ => laidMetH Tryz.prog Rows.vmFuelRow.laid w) false (World.laidAll Tryz.prog os Rows.vmFuelRow.laid) #[.int .u8 0, .int .u8 0] 8 (World.laidAll_os _ _ _)
      (World.shaped_of_ZipB (by kernel_rfl) (by kernel_rfl)) (by kernel_rfl) (by kernel_rfl) (by kernel_rfl)
      (by rw [MakeChecks.laidMetH_plain _ _ _ (by kernel_rfl)]; exact laidMet_laidAll _ (by kernel_rfl) (by kernel_rfl))) ?_
  intro W base args ds gs before hval0 hW _ _ hL _
  have hval : ∀ (j : Nat) t v, Tryz.f3.params[j]? = some t → args[j]? = some v → Value.okWide Tryz.prog W .any base t v := hval0
  have hW' := hW
  obtain ⟨p, q, hA0, hV, rfl, _, _⟩ := hW
  have hA : DataW.TrodAll enc Tryz.prog W 0 (fun _ => true) true Tryz.f3.params.toList args.toList ds p := hA0
  rw [Tryz.params3] at hA hval
  obtain ⟨v0, vs0, d0, ds0, p0, q0, hargs, rfl, rfl, h0, r0⟩ := trodAll_cons hA
  obtain ⟨v1, vs1, d1, ds1, p1, q1, rfl, rfl, rfl, h1, r1⟩ := trodAll_cons r0
  obtain ⟨rfl, rfl, rfl⟩ := trodAll_nil r1
  obtain rfl : args = #[v0, v1] := by cases args; simp_all
  obtain ⟨rfl, rfl⟩ := trodVars_none hV
  obtain ⟨a0, rfl, rfl, rfl, w0⟩ := open_int Tryz.underlying5 (hval 0 5 v0 rfl rfl) h0
  obtain ⟨a1, rfl, rfl, rfl, w1⟩ := open_int Tryz.underlying5 (hval 1 5 v1 rfl rfl) h1
  clear hA0 hval0
  simp only [List.append_nil] at hW'
  refine (fu_calls hrun hend a0 a1 w0 w1 W).mono fun e W' ⟨he, hb⟩ => ?_
  subst he
  exact ⟨_, rfl, _, _, _, [], [], [], hW', (trodAll_cons_mk (shut_bool Tryz.underlying4 _) trodAll_mk0), (trodAll_cons_mk (shut_int Tryz.underlying5 w0) (trodAll_cons_mk (shut_int Tryz.underlying5 w1) trodAll_mk0)), rfl, hb.frame _, fun h => by cases h⟩
theorem fu_holds (hrun : ∀ n, n < 51 → ∀ k, fuChk n k = fuGood n k) (hend : ∀ n, n < 51 → fuEnd n = some (0, 3, 8 * n)) : Rows.vmFuelRow.holds Tryz.pinned (OpenSpec.ofChange Rows.vmFuelSpec) :=
  OpenClaim.holds_of_wide 3 Tryz.f3 rfl rfl rfl rfl rfl rfl rfl ⟨rfl, rfl, rfl, rfl, rfl⟩ rfl rfl rfl rfl rfl (by kernel_rfl) Tryz.func3 (by kernel_rfl)
    (of_decide_eq_true (by kernel_rfl)) (by unfold Func.isWrapper; first | (rw [if_pos (by decide +kernel)]; kernel_rfl) | (rw [if_neg (by decide +kernel)]; exact ⟨rfl, rfl⟩))
    (fun os started H enc _ => fu_lifted hrun hend os started H enc)
end Go.Proofs.YtakjligkeplohaaGreatDoor
/-
  A row of calls takes as many as there are, one by one; and without one nothing of a call is done (VmFuel): for every two numbers the law answers true, and they read as before. No condition.
-/
namespace Go.Proofs.YtakjligkeplohaaGreatDoor
open Go.HL Go.RowKit Go.Proofs Go.ChangeShapes Go.WideShapes Go.ChangeAt
set_option maxHeartbeats 4000000
set_option maxRecDepth 1000000
set_option linter.unusedVariables false
theorem fu_all : ∀ n, n < 51 → ∀ k, fuChk n k = fuGood n k
  | 0, _ => fun k => fuRun0 k
  | 1, _ => fun k => fuRun1 k
  | 2, _ => fun k => fuRun2 k
  | 3, _ => fun k => fuRun3 k
  | 4, _ => fun k => fuRun4 k
  | 5, _ => fun k => fuRun5 k
  | 6, _ => fun k => fuRun6 k
  | 7, _ => fun k => fuRun7 k
  | 8, _ => fun k => fuRun8 k
  | 9, _ => fun k => fuRun9 k
  | 10, _ => fun k => fuRun10 k
  | 11, _ => fun k => fuRun11 k
  | 12, _ => fun k => fuRun12 k
  | 13, _ => fun k => fuRun13 k
  | 14, _ => fun k => fuRun14 k
  | 15, _ => fun k => fuRun15 k
  | 16, _ => fun k => fuRun16 k
  | 17, _ => fun k => fuRun17 k
  | 18, _ => fun k => fuRun18 k
  | 19, _ => fun k => fuRun19 k
  | 20, _ => fun k => fuRun20 k
  | 21, _ => fun k => fuRun21 k
  | 22, _ => fun k => fuRun22 k
  | 23, _ => fun k => fuRun23 k
  | 24, _ => fun k => fuRun24 k
  | 25, _ => fun k => fuRun25 k
  | 26, _ => fun k => fuRun26 k
  | 27, _ => fun k => fuRun27 k
  | 28, _ => fun k => fuRun28 k
  | 29, _ => fun k => fuRun29 k
  | 30, _ => fun k => fuRun30 k
  | 31, _ => fun k => fuRun31 k
  | 32, _ => fun k => fuRun32 k
  | 33, _ => fun k => fuRun33 k
  | 34, _ => fun k => fuRun34 k
  | 35, _ => fun k => fuRun35 k
  | 36, _ => fun k => fuRun36 k
  | 37, _ => fun k => fuRun37 k
  | 38, _ => fun k => fuRun38 k
  | 39, _ => fun k => fuRun39 k
  | 40, _ => fun k => fuRun40 k
  | 41, _ => fun k => fuRun41 k
  | 42, _ => fun k => fuRun42 k
  | 43, _ => fun k => fuRun43 k
  | 44, _ => fun k => fuRun44 k
  | 45, _ => fun k => fuRun45 k
  | 46, _ => fun k => fuRun46 k
  | 47, _ => fun k => fuRun47 k
  | 48, _ => fun k => fuRun48 k
  | 49, _ => fun k => fuRun49 k
  | 50, _ => fun k => fuRun50 k
  | n + 51, h => by omega
theorem fu_ends : ∀ n, n < 51 → fuEnd n = some (0, 3, 8 * n)
  | 0, _ => fuE0
  | 1, _ => fuE1
  | 2, _ => fuE2
  | 3, _ => fuE3
  | 4, _ => fuE4
  | 5, _ => fuE5
  | 6, _ => fuE6
  | 7, _ => fuE7
  | 8, _ => fuE8
  | 9, _ => fuE9
  | 10, _ => fuE10
  | 11, _ => fuE11
  | 12, _ => fuE12
  | 13, _ => fuE13
  | 14, _ => fuE14
  | 15, _ => fuE15
  | 16, _ => fuE16
  | 17, _ => fuE17
  | 18, _ => fuE18
  | 19, _ => fuE19
  | 20, _ => fuE20
  | 21, _ => fuE21
  | 22, _ => fuE22
  | 23, _ => fuE23
  | 24, _ => fuE24
  | 25, _ => fuE25
  | 26, _ => fuE26
  | 27, _ => fuE27
  | 28, _ => fuE28
  | 29, _ => fuE29
  | 30, _ => fuE30
  | 31, _ => fuE31
  | 32, _ => fuE32
  | 33, _ => fuE33
  | 34, _ => fuE34
  | 35, _ => fuE35
  | 36, _ => fuE36
  | 37, _ => fuE37
  | 38, _ => fuE38
  | 39, _ => fuE39
  | 40, _ => fuE40
  | 41, _ => fuE41
  | 42, _ => fuE42
  | 43, _ => fuE43
  | 44, _ => fuE44
  | 45, _ => fuE45
  | 46, _ => fuE46
  | 47, _ => fuE47
  | 48, _ => fuE48
  | 49, _ => fuE49
  | 50, _ => fuE50
  | n + 51, h => by omega
theorem fuel_holds : Rows.VmFuelCardSaid :=
  Claim7.holds_tied_plain_at .later [] [.data, .pinned] true (true, "d02cd293e3f673744ec8ea2524925c1e713dae467e247b8bbe2723ba89d800dd") false (fu_holds fu_all fu_ends) (fun _ h => by cases h) (by kernel_rfl) (fun _ h => by cases h) vmFuel_row_tie rfl ⟨rfl, rfl⟩ (by kernel_rfl) rfl
    (fun f fn hf hfn => by
      obtain rfl : f = 3 := Option.some.inj ((show Tryz.prog.funcNamed "eddywheel/eddywheellaw13.VmFuel" = some 3 by kernel_rfl).symm.trans hf) |>.symm
      obtain rfl : fn = Tryz.f3 := (Option.some.inj (Tryz.func3.symm.trans hfn)).symm
      exact ⟨by kernel_rfl, fun j t ht => by
        rw [Tryz.params3] at ht
        have hm : t ∈ [5, 5] := by simpa using Array.mem_of_getElem? ht
        have hall : ([5, 5].all fun u => !Tryz.prog.wantsStandIn u) = true := by kernel_rfl
        exact (show Tryz.prog.wantsStandIn t = false by simpa using List.all_eq_true.1 hall t hm)⟩)
    (by kernel_rfl)
#print axioms fuel_holds
end Go.Proofs.YtakjligkeplohaaGreatDoor
