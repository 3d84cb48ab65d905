import Derived.Test.YtkflilieljojfaaC11
import Derived.Test.YtkflilieljojfaaRows
import Derived.ProofKit
import Derived.Below
import Derived.ChangeSame
namespace Go.Proofs.Ytkflilieljojfaa
open Go.HL Go.RowKit Go.Proofs Go.ChangeShapes Go.WideShapes Go.ChangeAt
set_option maxHeartbeats 4000000
set_option maxRecDepth 100000

theorem rel_empty (w : World) : Rel w.heap.size (fun _ => none) ⟨0, fun _ => none⟩ w :=
  ⟨Nat.le_refl _, by simp, by simp, by simp, by simp, by simp⟩

theorem Try.own : ownKnob Try.prog.godebug = none := by kernel_rfl
theorem Try.laidOut : laidOutB Try.prog = true := by kernel_rfl

set_option maxRecDepth 100000 in
theorem chains_lifted (os : Os) (started : os.Started) (H : Type) (enc : TypeId × Value → H) :
    ReturnsInHanded {} Try.checked os 7 .any (Rows.moveChainsSpec.pre6 enc Try.prog Try.f7 Rows.moveChainsRow.domain false) (Rows.moveChainsSpec.post enc Try.prog Try.f7 false true false false) := by
  refine returnsInHanded_of_change (C := Try.checked) Try.own started (by kernel_rfl) Try.func7
    (ChangeSpec.witness6 (enc := enc) (C := Try.checked) false ⟨#[], #[.int .u8 0, .int .u8 0, .bool false], []⟩ 8 (by kernel_rfl) (by kernel_rfl) (by kernel_rfl) (by kernel_rfl)) ?_
  intro W base args ds gs before hval0 hW hcnd _
  have hval : ∀ (j : Nat) t v, Try.f7.params[j]? = some t → args[j]? = some v → Value.okWide Try.prog W .any base t v := hval0
  have hW' := hW
  obtain ⟨p, q, hA0, hV, rfl, hfz, hnd⟩ := hW
  have hA : DataW.TrodAll enc Try.prog W 0 (fun _ => true) true Try.f7.params.toList args.toList ds p := hA0
  rw [Try.params7] at hA hval
  obtain ⟨v0, v1, v2, d0, d1, d2, p0, p1, p2, rfl, rfl, rfl, h0, h1, h2⟩ := trodAll_three hA
  obtain ⟨rfl, rfl⟩ := trodVars_none hV
  obtain ⟨a, rfl, rfl, rfl, wa⟩ := open_int Try.underlying5 (hval 0 5 v0 rfl rfl) h0
  obtain ⟨b, rfl, rfl, rfl, wb⟩ := open_int Try.underlying5 (hval 1 5 v1 rfl rfl) h1
  obtain ⟨c, rfl, rfl, rfl⟩ := open_bool Try.underlying4 (hval 2 4 v2 rfl rfl) h2
  clear hA0 hval0
  simp only [List.append_nil] at hW'
  have wa' : 0 ≤ a ∧ a < 256 := by
    have := wa
    simp [Lit.wf, IntKind.min, IntKind.max, IntKind.signed, IntKind.bits] at this
    omega
  have wb' : 0 ≤ b ∧ b < 256 := by
    have := wb
    simp [Lit.wf, IntKind.min, IntKind.max, IntKind.signed, IntKind.bits] at this
    omega
  obtain ⟨a, rfl⟩ := Int.eq_ofNat_of_zero_le wa'.1
  obtain ⟨b, rfl⟩ := Int.eq_ofNat_of_zero_le wb'.1
  refine (Go.HL.law_MoveChains a b (by omega) (by omega) c ⟨0, fun _ => none⟩ (fun v _ => v = .bool true) (fun _ => rfl) W.heap.size _ W _ (rel_empty W) (.cons _ _ _ _ (.int _ _) (.cons _ _ _ _ (.int _ _) (.cons _ _ _ _ (.bool _) .nil)))).mono fun e W' ⟨μ', v, H', v', he, hv, hr, hs⟩ => ?_
  subst he; subst hv
  cases hr
  have hbel := hs.below (rel_empty W)
  exact ⟨_, rfl, _, _, _, [], [], [], hW', trodAll_mk1 (shut_bool Try.underlying4 true), trodAll_mk3 (shut_int Try.underlying5 wa) (shut_int Try.underlying5 wb) (shut_bool Try.underlying4 c), rfl, hbel.frame _, fun h => by cases h⟩

theorem chains_holds : Rows.MoveChainsSaid :=
  OpenClaim.holds_of_wide 7 Try.f7 rfl rfl rfl rfl rfl rfl rfl ⟨rfl, rfl, rfl, rfl, rfl⟩ rfl rfl rfl rfl rfl (by kernel_rfl) Try.func7 (by kernel_rfl)
    (of_decide_eq_true (by kernel_rfl)) (by unfold Func.isWrapper; first | (rw [if_pos (by decide +kernel)]; kernel_rfl) | (rw [if_neg (by decide +kernel)]; exact ⟨rfl, rfl⟩))
    (fun os started H enc _ => chains_lifted os started H enc)
end Go.Proofs.Ytkflilieljojfaa
