/-
  Rows of things, each of which has the place of the next one: plain Lean.
-/
import Derived.Test.YtkflilieljojfaaA5
namespace Go.HL

/-- The second word of the i-th. -/
def nxtW (n : Nat) (circle : Bool) (i : Nat) : Nat := if i + 1 < n then wordAt (3 * (i + 1)) else if circle then 1 else 2
def chainT (n : Nat) (f : Nat → Nat) : Things := (List.range n).map fun i => ⟨1, [i * 8, f i]⟩

theorem chainT_length (n : Nat) (f : Nat → Nat) : (chainT n f).length = n := by simp [chainT]
theorem chainT_get {n : Nat} {f : Nat → Nat} {i : Nat} (h : i < n) : (chainT n f)[i]? = some ⟨1, [i * 8, f i]⟩ := by simp [chainT, h]
theorem chainT_succ (n : Nat) (f : Nat → Nat) : chainT (n + 1) f = chainT n f ++ [⟨1, [n * 8, f n]⟩] := by simp [chainT, List.range_succ]
theorem chainT_used : ∀ (n : Nat) (f : Nat → Nat), usedOf (chainT n f) = 3 * n
  | 0, f => rfl
  | n + 1, f => by rw [chainT_succ, usedOf_append, chainT_used n f]; simp [usedOf, Thing.room]; omega
theorem chainT_take {n : Nat} {f : Nat → Nat} {i : Nat} (h : i ≤ n) : (chainT n f).take i = chainT i f := by
  unfold chainT; rw [← List.map_take, List.take_range, Nat.min_eq_left h]
theorem chainT_place {n : Nat} {f : Nat → Nat} {i : Nat} (h : i ≤ n) : placeOf (chainT n f) i = 3 * i := by
  unfold placeOf; rw [chainT_take h, chainT_used]
theorem chainT_find {n : Nat} {f : Nat → Nat} {i : Nat} (h : i < n) : findI (chainT n f) (wordAt (3 * i)) = some i := by
  have := word_findI (T := chainT n f) (i := i) (by rw [chainT_length]; exact h)
  rwa [chainT_place (by omega)] at this
theorem chainT_set {n : Nat} {f : Nat → Nat} {i x : Nat} (h : i < n) : (chainT n f).set i ⟨1, [i * 8, x]⟩ = chainT n (fun j => if j = i then x else f j) := by
  apply List.ext_getElem?
  intro j
  rw [List.getElem?_set]
  by_cases hj : j < n
  · rw [chainT_get (f := fun j => if j = i then x else f j) hj]
    split
    · rename_i e; subst e; simp [chainT_length, hj]
    · rename_i e; rw [chainT_get hj]; simp [Ne.symm e]
  · have : (chainT n fun j => if j = i then x else f j)[j]? = none := by rw [List.getElem?_eq_none_iff, chainT_length]; omega
    rw [this]
    split
    · omega
    · rw [List.getElem?_eq_none_iff, chainT_length]; omega
theorem findI_off {T : Things} {w : Nat} (h : w % 8 ≠ 1) : findI T w = none := by unfold findI; rw [if_neg h]
end Go.HL
