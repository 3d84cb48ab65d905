/-
  Joined: A12.
-/
import Derived.Test.YtkflilieljojfaaL40
/-
  What is told of what was brought: plain Lean.
-/
namespace Go.HL
set_option linter.unusedSimpArgs false
set_option linter.unusedVariables false

theorem tr_thing {T : Things} {F : List Nat} (hF : Closed T F) (hu : usedOf T ≤ 65536) {w : Nat} (hw : ∀ i, findI T w = some i → i ∈ F) :
    findT (outT T F) (tr T F w) = (findT T w).map fun t => ⟨t.kind, t.l.map (tr T F)⟩ := by
  rw [findT_findI, findT_findI, tr_find hF hu hw]
  cases h : findI T w with
  | none => rfl
  | some i =>
    have hi := hw i h
    rw [Option.map_some, Option.bind_some, Option.bind_some, outT_get (idxOf_mem hi)]
    unfold fullThing
    rw [List.getElem?_eq_getElem (hF.lt i hi)]; rfl
def toP (T : Things) (F : List Nat) (vis : List Nat) : List (Nat × Nat) := vis.map fun i => (wordAt (placeOf T i), wordAt (placeIn T F i))
def backP (T : Things) (F : List Nat) (vis : List Nat) : List (Nat × Nat) := vis.map fun i => (wordAt (placeIn T F i), wordAt (placeOf T i))
theorem placeIn_inj {T : Things} {F : List Nat} (hF : Closed T F) {i j : Nat} (hi : i ∈ F) (hj : j ∈ F) (h : wordAt (placeIn T F i) = wordAt (placeIn T F j)) : i = j := by
  have e1 := placeIn_get (T := T) (F := F) (ord := F) (l := []) (by simp) hF.nodup (idxOf_mem hi)
  have e2 := placeIn_get (T := T) (F := F) (ord := F) (l := []) (by simp) hF.nodup (idxOf_mem hj)
  rw [e1, e2, ← outT_place, ← outT_place] at h
  have := placeOf_inj (T := outT T F) (by rw [outT_length]; exact List.idxOf_lt_length_iff.2 hi) (by rw [outT_length]; exact List.idxOf_lt_length_iff.2 hj) h
  have e3 := idxOf_mem hi
  rw [this, idxOf_mem hj] at e3
  cases e3; rfl
theorem toP_look {T : Things} {F vis : List Nat} (hF : Closed T F) (hv : ∀ i ∈ vis, i ∈ F) {w i : Nat} (hw : findI T w = some i) (hi : i ∈ F) : (toP T F vis).lookup w = if i ∈ vis then some (tr T F w) else none := by
  have e : tr T F w = wordAt (placeIn T F i) := by unfold tr; rw [hw]
  rw [e, (findI_word hw).1]
  exact lookup_map _ _ vis i (fun j hj h => placeOf_inj (hF.lt j (hv j hj)) (hF.lt i hi) h)
theorem backP_look {T : Things} {F vis : List Nat} (hF : Closed T F) (hv : ∀ i ∈ vis, i ∈ F) {w i : Nat} (hw : findI T w = some i) (hi : i ∈ F) : (backP T F vis).lookup (tr T F w) = if i ∈ vis then some w else none := by
  have e : tr T F w = wordAt (placeIn T F i) := by unfold tr; rw [hw]
  rw [e]
  conv => rhs; rw [(findI_word hw).1]
  exact lookup_map _ _ vis i (fun j hj h => placeIn_inj hF (hv j hj) hi h)
end Go.HL
