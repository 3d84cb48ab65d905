/-
  Joined: A2.
-/
import Derived.Test.YtkflilieljojfaaL11
/-
  Arenas in a heap.
-/
namespace Go.HL

def wcells (size : Nat) (T : Things) : List Value := (wordsOf T).map U ++ List.replicate (size - usedOf T) (.int .u64 0)
def hcells (size : Nat) (T : Things) : List Value := (headsOf T).map Value.bool ++ List.replicate (size - usedOf T) (.bool false)
def acells (gw gh size : Nat) (T : Things) : List Value := [.slice (some ⟨gw, 0, none⟩) size size, .slice (some ⟨gh, 0, none⟩) size size, .int .i64 (usedOf T : Int)]

/-- An arena: its struct, its words, its heads. -/
structure AtA (H : HHeap) (g gw gh size : Nat) (T : Things) : Prop where
  a : H.get g = some (.cells (acells gw gh size T) true)
  w : H.get gw = some (.cells (wcells size T) true)
  h : H.get gh = some (.cells (hcells size T) true)
  room : usedOf T ≤ size
  big : size ≤ 65536
  pos : 1 ≤ size
  ok : TOk T
  ne1 : g ≠ gw
  ne2 : g ≠ gh
  ne3 : gw ≠ gh

theorem wcells_length {size : Nat} {T : Things} (h : usedOf T ≤ size) : (wcells size T).length = size := by
  simp [wcells, wordsOf_length]; omega
theorem hcells_length {size : Nat} {T : Things} (h : usedOf T ≤ size) : (hcells size T).length = size := by
  simp [hcells, headsOf_length]; omega
theorem hcells_get {size : Nat} {T : Things} {p : Nat} (h : p < usedOf T) : (hcells size T)[p]? = some (.bool (atP T p).isSome) := by
  rw [hcells, List.getElem?_append_left (by simpa [headsOf_length] using h), List.getElem?_map, atP_head T p h]; rfl
theorem wcells_get {size : Nat} {T : Things} {p : Nat} {t : Thing} (h : atP T p = some t) : (wcells size T)[p]? = some (.int .u64 ((t.l.length * 256 + t.kind : Nat) : Int)) := by
  obtain ⟨k1, k2, _, _⟩ := atP_words T p t h
  have : 0 < t.room := by unfold Thing.room; omega
  rw [wcells, List.getElem?_append_left (by simp [wordsOf_length]; omega), List.getElem?_map, k2]; rfl
theorem wcells_words {size : Nat} {T : Things} {p : Nat} {t : Thing} (h : atP T p = some t) : ((wcells size T).drop (p + 1)).take t.l.length = t.l.map U := by
  obtain ⟨k1, _, k3, _⟩ := atP_words T p t h
  unfold Thing.room at k1
  rw [wcells, List.drop_append_of_le_length (by simp [wordsOf_length]; omega), List.take_append_of_le_length (by simp [wordsOf_length]; omega), ← List.map_drop, ← List.map_take, k3]

theorem repl_put {z h : Value} {vs pre : List Value} {m : Nat} (hm : vs.length + 1 ≤ m) : splice ((pre ++ List.replicate m z).set pre.length h) (pre.length + 1) vs = pre ++ (h :: vs) ++ List.replicate (m - (vs.length + 1)) z := by
  have e1 : List.replicate m z = z :: (List.replicate vs.length z ++ List.replicate (m - (vs.length + 1)) z) := by
    rw [List.replicate_append_replicate, ← List.replicate_succ]; congr 1; omega
  rw [e1, List.set_append_right _ _ (by omega), Nat.sub_self, List.set_cons_zero]
  have := splice_mid vs (List.replicate vs.length z) (List.replicate (m - (vs.length + 1)) z) (by simp) (pre ++ [h])
  rw [show (pre ++ [h]).length = pre.length + 1 by simp] at this
  rw [show pre ++ h :: (List.replicate vs.length z ++ List.replicate (m - (vs.length + 1)) z) = pre ++ [h] ++ List.replicate vs.length z ++ List.replicate (m - (vs.length + 1)) z by simp, this]
  simp
theorem wcells_push {size : Nat} {T : Things} {t : Thing} (h : usedOf T + t.room ≤ size) :
    splice ((wcells size T).set (usedOf T) (.int .u64 ((t.l.length * 256 + t.kind : Nat) : Int))) (usedOf T + 1) (t.l.map U) = wcells size (T ++ [t]) := by
  unfold Thing.room at h
  have := repl_put (z := Value.int .u64 0) (h := .int .u64 ((t.l.length * 256 + t.kind : Nat) : Int)) (vs := t.l.map U) (pre := (wordsOf T).map U) (m := size - usedOf T) (by simp; omega)
  rw [show ((wordsOf T).map U).length = usedOf T by simp [wordsOf_length]] at this
  rw [wcells, this, wcells, wordsOf_append, usedOf_append]
  simp [wordsOf, usedOf, Thing.room]
  omega
theorem hcells_push {size : Nat} {T : Things} {t : Thing} (h : usedOf T + t.room ≤ size) : (hcells size T).set (usedOf T) (.bool true) = hcells size (T ++ [t]) := by
  unfold Thing.room at h
  have := repl_put (z := Value.bool false) (h := .bool true) (vs := List.replicate t.l.length (.bool false)) (pre := (headsOf T).map Value.bool) (m := size - usedOf T) (by simp; omega)
  rw [show ((headsOf T).map Value.bool).length = usedOf T by simp [headsOf_length]] at this
  have e2 : splice ((hcells size T).set (usedOf T) (.bool true)) (usedOf T + 1) (List.replicate t.l.length (.bool false)) = (hcells size T).set (usedOf T) (.bool true) := by
    have e1 : hcells size T = (headsOf T).map Value.bool ++ ([.bool false] ++ List.replicate t.l.length (.bool false) ++ List.replicate (size - usedOf T - (t.l.length + 1)) (.bool false)) := by
      rw [hcells, show List.replicate (size - usedOf T) (Value.bool false) = [.bool false] ++ List.replicate t.l.length (.bool false) ++ List.replicate (size - usedOf T - (t.l.length + 1)) (.bool false) by
        rw [show [Value.bool false] = List.replicate 1 (.bool false) from rfl, List.replicate_append_replicate, List.replicate_append_replicate]; congr 1; omega]
    have e3 : (hcells size T).set (usedOf T) (.bool true) = ((headsOf T).map Value.bool ++ [.bool true]) ++ List.replicate t.l.length (.bool false) ++ List.replicate (size - usedOf T - (t.l.length + 1)) (.bool false) := by
      rw [e1, List.set_append_right _ _ (by simp [headsOf_length])]; simp [headsOf_length]
    rw [e3]
    have := splice_mid (List.replicate t.l.length (.bool false)) (List.replicate t.l.length (.bool false)) (List.replicate (size - usedOf T - (t.l.length + 1)) (.bool false)) rfl ((headsOf T).map Value.bool ++ [.bool true])
    rw [show ((headsOf T).map Value.bool ++ [Value.bool true]).length = usedOf T + 1 by simp [headsOf_length]] at this
    exact this
  rw [← e2, hcells, this, hcells, headsOf_append, usedOf_append]
  simp [headsOf, usedOf, Thing.room]
  omega

/-- What a walk tells of a place. -/
def findV (gw : Nat) (T : Things) (w : Nat) : Value :=
  match findT T w with
  | some t => .tuple #[.slice (some ⟨gw, if t.l.length = 0 then 0 else w / 8 + 1, none⟩) t.l.length t.l.length, .int .i64 (t.kind : Int), .bool true]
  | none => .tuple #[.slice none 0 0, .int .i64 0, .bool false]
end Go.HL
