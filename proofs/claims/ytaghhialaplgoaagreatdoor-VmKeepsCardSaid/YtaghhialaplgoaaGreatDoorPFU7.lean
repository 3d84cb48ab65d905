/-
  Joined: U6, U1, U7.
-/
import Derived.Test.YtaghhialaplgoaaGreatDoorPFK15
import Derived.Recover
import Derived.Test.YtaghhialaplgoaaGreatDoorProg
import Derived.Tactics2
import Derived.Laws.Pointers
set_option linter.unusedVariables false
set_option linter.unusedSimpArgs false
/-
  A high level over the model: contracts of the library's, proved over the model itself, turned to the high level's.
-/
namespace Go.HL
open Go.RowKit
set_option linter.unusedSimpArgs false
set_option linter.unusedVariables false

variable {P : Program}

/-- A call of things without addresses, whose answer has none, that leaves what is older. -/
theorem HCalls.of_calls {f : FuncId} {args : List Value} {v : Value} (ha : args.all flat1 = true) (hv : flat v = true) (h : ∀ w, TabsOk w.heap.size w → Calls P f args.toArray w fun e w' => e = .returned v ∧ Below w.heap.size w w') (H : HHeap) : HCalls P f args H fun v' H' => v' = v ∧ H' = H := by
  intro B μ w args' hR hx
  have := hx.flat1_eq ha
  subst this
  refine (h w (hR.tabs.keep hR.hB fun _ _ => rfl)).mono ?_
  rintro e w' ⟨rfl, hb⟩
  exact ⟨μ, _, H, _, rfl, ⟨rfl, rfl⟩, .of_flat hv, Step.of_below hR hb⟩
end Go.HL
/-
  A high level over the model: a function that defers one call ahead of all else.
-/
namespace Go.HL
open Go.RowKit
set_option linter.unusedSimpArgs false
set_option linter.unusedVariables false

variable {P : Program}

/-- A deferred call that changes nothing where its caller returns. -/
def Calm (P : Program) (g : FuncId) : Prop := ∀ w, CallsD P g #[] .returning w fun e u w' => u = .returning ∧ e = .returned (.tuple #[]) ∧ Below w.heap.size w w'

theorem HCalls.of_defer {f g : FuncId} {fn : Func} {id : Nat} {o : Oper} {c : Code} {ts : Array TypeId} {args : List Value} {H : HHeap} {R : Value → HHeap → Prop}
    (hfn : P.funcs[f]? = some fn) (hc : fn.body = some (.seq (.region id #[o] false) c)) (ho : o.op = .defer ⟨.value (.func g), #[], ts⟩) (hog : o.guard = none) (hod : o.dst = none)
    (hgo : isGo P g = true) (hcalm : Calm P g)
    (h : Hwp P c (fun e fr H' => (match e with | .normal | .ret => True | _ => False) ∧ ∃ vs, hresults P fr H' fn.results.toList = some vs ∧ R (htuple vs) H') (hframe0 args fn.ntmps) H) : HCalls P f args H R := by
  intro B μ w args' hR hv
  refine calls_of_wp_defers hfn hc (wp_seq (wp_region_list ?_))
  unfold wpList
  rw [if_pos (by simp [Region.wanted, hog])]
  refine .inl ?_
  unfold Oper.wp
  have hrun : ∀ (ρ : Operand → Value) w, ρ (.func g) = .func (.func g) #[] #[] → (execOp ρ o).run P w = .ok (.defer ⟨.fn (.func g) #[], #[]⟩) w := by
    intro ρ w hρ
    simp [execOp, ho, resolve, hρ, Deferred.ofValue]
  rw [hrun _ _ rfl]
  rw [Oper.upon_defer, hod]
  have hf : FRel [⟨.fn (.func g) #[], #[]⟩] μ (hframe0 args fn.ntmps) (({ tmps := args'.toArray ++ Array.replicate (fn.ntmps - args'.toArray.size) undef, defers := [⟨.fn (.func g) #[], #[]⟩] } : Act).put none undef) := by
    have hl := hv.length
    refine ⟨by simp [hframe0, hl, Act.put], fun t v e => ?_, rfl⟩
    obtain ⟨v', h1, h2⟩ := hv.get t v e
    refine ⟨v', ?_, h2⟩
    have hlt : t < args'.length := by
      rcases Nat.lt_or_ge t args'.length with hh | hh
      · exact hh
      · rw [List.getElem?_eq_none hh] at h1; cases h1
    show (args'.toArray ++ Array.replicate (fn.ntmps - args'.toArray.size) undef)[t]? = some v'
    rw [Array.getElem?_append_left (by simpa using hlt)]
    simpa using h1
  show c.wp P _ _ _
  refine wp_mono (h _ B μ w _ hR hf) ?_
  rintro e a' w' ⟨fr', H', μ', ⟨q1, vs, q2, q3⟩, f', s⟩
  have key : ∀ w2, Rel B μ' H' w2 → ∃ v', (results fn a'.tmps).run P w2 = .ok v' w2 ∧ VRel μ' (htuple vs) v' := by
    intro w2 hR2
    obtain ⟨vs', k1, k2⟩ := run_results hR2 f' _ _ q2
    refine ⟨htuple vs', ?_, ?_⟩
    · rw [results_eq, Sem.run_bind, Array.mapM_eq_mapM_toList, Sem.run_map]
      rw [k2]
      simp only [Result.andThen_ok, Sem.run_pure]
      cases vs' with
      | nil => rfl
      | cons x xs => cases xs with
        | nil => rfl
        | cons y ys => simp [htuple]
    · cases k1 with
      | nil => exact .tuple [] [] .nil
      | cons _ _ _ _ h1 h2 => cases h2 with
        | nil => exact h1
        | cons _ _ _ _ h3 h4 => exact .tuple _ _ (.cons _ _ _ _ h1 (.cons _ _ _ _ h3 h4))
  have hend : Leaves P fn a'.tmps (fun e w' => ∃ μ' v H' v', e = Ending.returned v' ∧ R v H' ∧ VRel μ' v v' ∧ Step B μ H w μ' H' w') a'.defers .returning w' := by
    rw [f'.defers]
    refine leaves_cons (f := g) (args := #[]) (by simp) ?_ ((hcalm w').mono ?_)
    · have hb := hgo
      unfold isGo at hb
      cases hfn : P.funcs[g]? with
      | none => rw [hfn] at hb; cases hb
      | some fn =>
        simp only [hfn, Bool.and_eq_true, bne_iff_ne, ne_eq] at hb
        have hbn : fn.body ≠ none := by
          cases hbb : fn.body <;> simp [hbb] at hb ⊢
        simp [invoke, callFunc, hfn, hb.2, hbn]
    · rintro e u w2 ⟨rfl, rfl, hb⟩
      have s2 := s.trans (Step.of_below s.rel hb)
      obtain ⟨v', hres, hrel⟩ := key w2 s2.rel
      exact ⟨_, hres, μ', _, H', _, rfl, q3, hrel, s2⟩
  cases e with
  | normal => exact hend
  | ret => exact hend
  | _ => exact absurd q1 (by simp)
end Go.HL
/-
  The writer's deferred function is calm where its caller returns.
-/
namespace Go.HL
open Go.RowKit Go.Proofs
set_option linter.unusedSimpArgs false
set_option maxRecDepth 100000
set_option maxHeartbeats 1000000

theorem calm_all : Calm Tryz.prog 54 := by
  intro w
  refine callsD_of_wpS Tryz.func54 rfl fun c₀ cs hu => ?_
  apply wpS_seq
  apply wpS_region
  simp [wpOpsS, go_sem, recoverD, hu, Tryz.ntmps54, Exit.thenS]
  apply wpS_seq
  apply wpS_region
  simp [wpOpsS, go_sem, Exit.thenS, Instr.typeAssert, Instr.alloc, Tryz.underlying116, Tryz.zeroValue116]
  apply wpS_seq
  apply wpS_region
  simp [wpOpsS, go_sem, Exit.thenS]
  refine wpS_cond (t := false) (by simp [Act.eval, Array.replicate]) ?_
  simp only [Bool.false_eq_true, if_false]
  refine wpS_of_wp (wp_skip ?_)
  cases c₀
  simp_all [bodyPostS, results, Tryz.results54]
  exact (Below.refl _ w).alloc (Nat.le_refl _) _
end Go.HL
