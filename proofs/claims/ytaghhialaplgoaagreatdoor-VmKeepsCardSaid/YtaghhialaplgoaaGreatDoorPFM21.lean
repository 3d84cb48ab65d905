/-
  Joined: M20, M12, M21.
-/
import Derived.Test.YtaghhialaplgoaaGreatDoorPFM19
import Derived.Test.YtaghhialaplgoaaGreatDoorPFM11
set_option linter.unusedVariables false
set_option linter.unusedSimpArgs false
/-
  Walks: names of the program, words of an env, things of the value.
-/
namespace Go.HL
open Go.RowKit Go.Proofs
set_option maxHeartbeats 4000000
set_option maxRecDepth 100000
set_option linter.unusedSimpArgs false
set_option linter.unusedVariables false
section
variable {Z : Zs} {H : HHeap} {p size : Nat} {vb : Value} {g gw gh : Nat} {vn vk va : Value} {M : MS} {B : List Bk}
theorem scells_set : ∀ (l : List (Nat × Bool)) (i : Nat) (x : Nat × Bool), i < l.length → ((scells l).set (2 * i) (U x.1)).set (2 * i + 1) (.bool x.2) = scells (l.set i x)
  | [], _, _, h => by simp at h
  | y :: l, 0, x, _ => rfl
  | y :: l, i + 1, x, h => by
    have := scells_set l i x (by simpa using h)
    rw [scells_cons, show 2 * (i + 1) = 2 * i + 2 by omega, List.set_cons_succ, scells_cons]
    show U y.1 :: Value.bool y.2 :: ((scells l).set (2 * i) (U x.1)).set (2 * i + 1) (.bool x.2) = _
    rw [this]; rfl
theorem scells_splice (l : List (Nat × Bool)) (i : Nat) (w : Nat) (u : Bool) (h : i < l.length) : splice (scells l) (i * 2) [U w, .bool u] = scells (l.set i (w, u)) := by
  rw [← scells_set l i (w, u) h, Nat.mul_comm]; rfl
end
end Go.HL
/-
  Walks: a word is called.
-/
namespace Go.HL
open Go.RowKit Go.Proofs
set_option maxHeartbeats 4000000
set_option maxRecDepth 100000
set_option linter.unusedSimpArgs false
set_option linter.unusedVariables false
theorem Sl.fresh {Z : Zs} {H : HHeap} {b : Nat} {l : List Nat} {rw : Bool} (h : H.get b = some (.cells (l.map U) rw)) : Sl rW (fun x => Z x ∨ x = b) H (.slice (some ⟨b, 0, none⟩) l.length l.length) l :=
  ⟨_, _, rfl, Nat.le_refl _, .inr ⟨b, 0, none, rfl, (by intro q e; cases e), .inr ⟨_, rw, .inr rfl, h, by simp; exact Nat.le_of_eq (Nat.mul_one _), fun i x hx => flatW_U _ _ _ _ _ hx⟩⟩⟩
section
variable {Z : Zs} {H : HHeap} {p size : Nat} {vb : Value} {g gw gh : Nat} {vn vk va : Value} {M : MS} {B : List Bk}
end
end Go.HL
/-
  Walks: a thing of the value, or the value one.
-/
namespace Go.HL
open Go.RowKit Go.Proofs
set_option maxHeartbeats 4000000
set_option maxRecDepth 100000
set_option linter.unusedSimpArgs false
set_option linter.unusedVariables false
section
variable {Z : Zs} {H : HHeap} {p size : Nat} {vb : Value} {g gw gh : Nat} {vn vk va : Value} {M : MS} {B : List Bk}
end
end Go.HL
