/-
  Rows that grow.
-/
import Derived.Test.YtaghhialaplgoaaGreatDoorPFA2
set_option linter.unusedVariables false
set_option linter.unusedSimpArgs false
namespace Go.HL
set_option linter.unusedSimpArgs false
set_option linter.unusedVariables false

/-- The block of a row. -/
def sblk : Value → List Nat
  | .slice (some a) _ _ => [a.block]
  | _ => []
/-- A row that was made by append alone: of n things, of e cells each. -/
def GrAt (H : HHeap) (v : Value) (e n : Nat) (cs : List Value) : Prop :=
  cs.length = n * e ∧ ((n = 0 ∧ v = .slice none 0 0) ∨ (∃ b, n ≠ 0 ∧ v = .slice (some ⟨b, 0, some (2 * e)⟩) n n ∧ H.get b = some (.cells cs true)))

theorem GrAt.nil (H : HHeap) (e : Nat) : GrAt H (.slice none 0 0) e 0 [] := ⟨by simp, .inl ⟨rfl, rfl⟩⟩
theorem GrAt.frame {H H' : HHeap} {v : Value} {e n : Nat} {cs : List Value} (h : GrAt H v e n cs) (f : ∀ b ∈ sblk v, H'.get b = H.get b) : GrAt H' v e n cs := by
  obtain ⟨h0, h | ⟨b, h1, h2, h3⟩⟩ := h
  · exact ⟨h0, .inl h⟩
  · exact ⟨h0, .inr ⟨b, h1, h2, by rw [f b (by rw [h2]; simp [sblk])]; exact h3⟩⟩
theorem GrAt.lt {H : HHeap} {v : Value} {e n : Nat} {cs : List Value} (h : GrAt H v e n cs) (ok : H.Ok) : ∀ b ∈ sblk v, b < H.next := by
  obtain ⟨h0, ⟨_, rfl⟩ | ⟨b, h1, rfl, h3⟩⟩ := h
  · simp [sblk]
  · intro x hx; simp [sblk] at hx; subst hx; exact ok _ _ h3
theorem GrAt.append {H : HHeap} {v : Value} {e n by' : Nat} {cs : List Value} (h : GrAt H v e n cs) (he : 0 < e) {m : Nat} {xs : List Value} (hx : xs.length = m * e) (hm : 0 < m)
    (h1 : (n + m) * by' ≤ 1099511627776) (h2 : n + m ≤ 1099511627776) :
    ∃ H', apd H e by' v (xs, m) = some (.slice (some ⟨H.next, 0, some (2 * e)⟩) (n + m) (n + m), H') ∧ H'.get H.next = some (.cells (cs ++ xs) true) ∧
      GrAt H' (.slice (some ⟨H.next, 0, some (2 * e)⟩) (n + m) (n + m)) e (n + m) (cs ++ xs) ∧ H'.next = H.next + 1 ∧ (∀ b, b ≠ H.next → b ∉ sblk v → H'.get b = H.get b) := by
  obtain ⟨h0, ⟨rfl, rfl⟩ | ⟨b, hn, rfl, h3⟩⟩ := h
  · have : cs = [] := by simpa using h0
    subst this
    refine ⟨H.push (.cells xs true), ?_, by simp [HHeap.get_push], ⟨by simp [hx], .inr ⟨H.next, by omega, rfl, by simp [HHeap.get_push]⟩⟩, by simp, fun b hb _ => by simp [HHeap.get_push, hb]⟩
    rw [apd_nil _ _ _ _ hm (by simpa using h1) (by omega)]
    simp
  · refine ⟨(H.kill b).push (.cells (cs ++ xs) true), ?_, by simp [HHeap.get_push], ⟨by simp [h0, hx, Nat.add_mul], .inr ⟨H.next, by omega, rfl, by simp [HHeap.get_push]⟩⟩, by simp, fun c hc hb => ?_⟩
    · rw [apd_some _ _ _ _ _ _ _ _ _ hm h1 h2, h3, apo_grow e b n m xs cs he hm h0]
    · have : c ≠ b := by rintro rfl; exact hb (by simp [sblk])
      simp [HHeap.get_push, hc, HHeap.get_kill, this]
theorem GrAt.get {H : HHeap} {v : Value} {e n : Nat} {cs : List Value} (h : GrAt H v e n cs) (hn : n ≠ 0) : ∃ b, v = .slice (some ⟨b, 0, some (2 * e)⟩) n n ∧ H.get b = some (.cells cs true) := by
  obtain ⟨h0, ⟨rfl, _⟩ | ⟨b, h1, h2, h3⟩⟩ := h
  · exact absurd rfl hn
  · exact ⟨b, h2, h3⟩
theorem GrAt.len {H : HHeap} {v : Value} {e n : Nat} {cs : List Value} (h : GrAt H v e n cs) : ∃ a, v = .slice a n n := by
  obtain ⟨h0, ⟨rfl, h⟩ | ⟨b, h1, h2, h3⟩⟩ := h
  · exact ⟨_, h⟩
  · exact ⟨_, h2⟩
end Go.HL
