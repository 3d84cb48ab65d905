/-
  Walks: a product's halves.
-/
import Derived.Test.YtaghhialaplgoaaGreatDoorPFW2
set_option linter.unusedVariables false
set_option linter.unusedSimpArgs false
namespace Go.HL
open Go.RowKit Go.Proofs
set_option maxHeartbeats 4000000
set_option maxRecDepth 100000
set_option linter.unusedSimpArgs false
set_option linter.unusedVariables false
theorem HCalls.of_hwp {P : Program} {f : FuncId} {fn : Func} {c : Code} {args : List Value} {H : HHeap} {R : Value → HHeap → Prop} (hfn : P.funcs[f]? = some fn) (hc : fn.body = some c) (n : Nat) (hn : fn.ntmps = n)
    (rs : List ResultVar) (hrs : fn.results.toList = rs) (h : Hwp P c (HEnd P rs R) (hframe0 args n) H) : HCalls P f args H R := by
  subst hn; subst hrs
  refine HCalls.of_body hfn hc (Hwp.mono ?_ h)
  intro e fr H h
  cases e <;> simp only [HEnd, HRes] at h <;> first
    | exact h.elim
    | (split at h
       · exact ⟨trivial, _, by assumption, h⟩
       · exact h.elim)
end Go.HL
