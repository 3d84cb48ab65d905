/-
  Joined: A1, A2.
-/
import Derived.Test.YtaghhialaplgoaaGreatDoorPFE2
set_option linter.unusedVariables false
set_option linter.unusedSimpArgs false
/-
  Arenas, in plain Lean: things in a row; their words and heads; what is at a place.
-/
namespace Go.HL

structure Thing where
  kind : Nat
  l : List Nat
deriving DecidableEq

abbrev Things := List Thing

def Thing.room (t : Thing) : Nat := 1 + t.l.length
def usedOf : Things → Nat
  | [] => 0
  | t :: T => t.room + usedOf T
def wordsOf : Things → List Nat
  | [] => []
  | t :: T => (t.l.length * 256 + t.kind) :: t.l ++ wordsOf T
def headsOf : Things → List Bool
  | [] => []
  | t :: T => true :: List.replicate t.l.length false ++ headsOf T
/-- What is at a place. -/
def atP : Things → Nat → Option Thing
  | [], _ => none
  | t :: T, p => if p = 0 then some t else if p < t.room then none else atP T (p - t.room)
/-- Which one it is. -/
def ixP : Things → Nat → Option Nat
  | [], _ => none
  | t :: T, p => if p = 0 then some 0 else if p < t.room then none else (ixP T (p - t.room)).map (· + 1)

structure Thing.Ok (t : Thing) : Prop where
  k1 : 1 ≤ t.kind
  k9 : t.kind ≤ 9
  len : t.l.length ≤ 255
  words : ∀ x ∈ t.l, x < 18446744073709551616
def TOk (T : Things) : Prop := ∀ t ∈ T, t.Ok

theorem wordsOf_length : ∀ (T : Things), (wordsOf T).length = usedOf T
  | [] => rfl
  | t :: T => by simp [wordsOf, usedOf, wordsOf_length T, Thing.room]; omega
theorem headsOf_length : ∀ (T : Things), (headsOf T).length = usedOf T
  | [] => rfl
  | t :: T => by simp [headsOf, usedOf, headsOf_length T, Thing.room]; omega
theorem usedOf_append : ∀ (T T' : Things), usedOf (T ++ T') = usedOf T + usedOf T'
  | [], T' => by simp [usedOf]
  | t :: T, T' => by simp [usedOf, usedOf_append T T']; omega
theorem wordsOf_append : ∀ (T T' : Things), wordsOf (T ++ T') = wordsOf T ++ wordsOf T'
  | [], T' => rfl
  | t :: T, T' => by simp [wordsOf, wordsOf_append T T']
theorem headsOf_append : ∀ (T T' : Things), headsOf (T ++ T') = headsOf T ++ headsOf T'
  | [], T' => rfl
  | t :: T, T' => by simp [headsOf, headsOf_append T T']

theorem atP_head : ∀ (T : Things) (p : Nat), p < usedOf T → (headsOf T)[p]? = some (atP T p).isSome
  | [], p, h => by simp [usedOf] at h
  | t :: T, p, h => by
    rw [headsOf, atP]
    by_cases h0 : p = 0
    · subst h0; simp
    · rw [if_neg h0]
      have e : p = (p - 1) + 1 := by omega
      by_cases h1 : p < t.room
      · rw [if_pos h1, e, List.cons_append, List.getElem?_cons_succ, List.getElem?_append_left (by simp; unfold Thing.room at h1; omega), List.getElem?_replicate, if_pos (by unfold Thing.room at h1; omega)]; rfl
      · rw [if_neg h1]
        have := atP_head T (p - t.room) (by rw [usedOf] at h; omega)
        rw [← this, e, List.cons_append, List.getElem?_cons_succ, List.getElem?_append_right (by simp; unfold Thing.room at h1; omega)]
        congr 1; simp [Thing.room]; omega

/-- Its words. -/
theorem atP_words : ∀ (T : Things) (p : Nat) (t : Thing), atP T p = some t → p + t.room ≤ usedOf T ∧ (wordsOf T)[p]? = some (t.l.length * 256 + t.kind) ∧ ((wordsOf T).drop (p + 1)).take t.l.length = t.l ∧ t ∈ T
  | [], p, t, h => by simp [atP] at h
  | u :: T, p, t, h => by
    rw [atP] at h
    by_cases h0 : p = 0
    · subst h0
      simp only [if_true, Option.some.injEq] at h; subst h
      refine ⟨by rw [usedOf]; omega, by simp [wordsOf], by simp [wordsOf], by simp⟩
    · rw [if_neg h0] at h
      by_cases h1 : p < u.room
      · rw [if_pos h1] at h; cases h
      · rw [if_neg h1] at h
        obtain ⟨k1, k2, k3, k4⟩ := atP_words T (p - u.room) t h
        have hl : ((u.l.length * 256 + u.kind) :: u.l).length = u.room := by simp [Thing.room]; omega
        refine ⟨by rw [usedOf]; omega, ?_, ?_, List.mem_cons_of_mem _ k4⟩
        · rw [wordsOf, List.getElem?_append_right (by rw [hl]; omega), hl]; exact k2
        · rw [wordsOf, List.drop_append, List.drop_of_length_le (by rw [hl]; omega), hl, List.nil_append, show p + 1 - u.room = p - u.room + 1 by omega]; exact k3

theorem atP_none : ∀ (T : Things) (p : Nat), usedOf T ≤ p → atP T p = none
  | [], p, _ => rfl
  | t :: T, p, h => by
    rw [usedOf] at h
    have : 0 < t.room := by unfold Thing.room; omega
    rw [atP, if_neg (by omega), if_neg (by omega)]; exact atP_none T _ (by omega)

theorem atP_ixP : ∀ (T : Things) (p : Nat), atP T p = (ixP T p).bind fun i => T[i]?
  | [], p => rfl
  | t :: T, p => by
    rw [atP, ixP]
    by_cases h0 : p = 0
    · simp [h0]
    · rw [if_neg h0, if_neg h0]
      by_cases h1 : p < t.room
      · simp [h1]
      · rw [if_neg h1, if_neg h1, atP_ixP T]
        cases ixP T (p - t.room) <;> simp

/-- Where the things are. -/
def placeOf (T : Things) (i : Nat) : Nat := usedOf (T.take i)
theorem ixP_place : ∀ (T : Things) (i : Nat), i < T.length → ixP T (placeOf T i) = some i
  | [], i, h => by simp at h
  | t :: T, 0, _ => by simp [placeOf, ixP, usedOf]
  | t :: T, i + 1, h => by
    have : 0 < t.room := by unfold Thing.room; omega
    have e : placeOf (t :: T) (i + 1) = t.room + placeOf T i := by simp [placeOf, usedOf]
    rw [e, ixP, if_neg (by omega), if_neg (by omega), show t.room + placeOf T i - t.room = placeOf T i by omega, ixP_place T i (by simpa using h)]; rfl
theorem place_ixP : ∀ (T : Things) (p i : Nat), ixP T p = some i → i < T.length ∧ placeOf T i = p
  | [], p, i, h => by simp [ixP] at h
  | t :: T, p, i, h => by
    rw [ixP] at h
    by_cases h0 : p = 0
    · simp [h0] at h; subst h; simp [placeOf, usedOf, h0]
    · rw [if_neg h0] at h
      by_cases h1 : p < t.room
      · simp [h1] at h
      · rw [if_neg h1, Option.map_eq_some_iff] at h
        obtain ⟨j, hj, rfl⟩ := h
        obtain ⟨k1, k2⟩ := place_ixP T _ j hj
        refine ⟨by simpa using k1, ?_⟩
        simp only [placeOf, List.take_succ_cons, usedOf] at k2 ⊢
        omega

/-- What a word is the place of. -/
def findT (T : Things) (w : Nat) : Option Thing := if w % 8 = 1 then atP T (w / 8) else none
def findI (T : Things) (w : Nat) : Option Nat := if w % 8 = 1 then ixP T (w / 8) else none
def wordAt (p : Nat) : Nat := p * 8 + 1
theorem findT_findI (T : Things) (w : Nat) : findT T w = (findI T w).bind fun i => T[i]? := by
  unfold findT findI; split
  · exact atP_ixP T _
  · rfl
end Go.HL
/-
  Arenas in a heap.
-/
namespace Go.HL

def wcells (size : Nat) (T : Things) : List Value := (wordsOf T).map U ++ List.replicate (size - usedOf T) (.int .u64 0)
def hcells (size : Nat) (T : Things) : List Value := (headsOf T).map Value.bool ++ List.replicate (size - usedOf T) (.bool false)
def acells (gw gh size : Nat) (T : Things) : List Value := [.slice (some ⟨gw, 0, none⟩) size size, .slice (some ⟨gh, 0, none⟩) size size, .int .i64 (usedOf T : Int)]

/-- An arena: its struct, its words, its heads. -/
structure AtA (H : HHeap) (g gw gh size : Nat) (T : Things) : Prop where
  a : H.get g = some (.cells (acells gw gh size T) true)
  w : H.get gw = some (.cells (wcells size T) true)
  h : H.get gh = some (.cells (hcells size T) true)
  room : usedOf T ≤ size
  big : size ≤ 65536
  pos : 1 ≤ size
  ok : TOk T
  ne1 : g ≠ gw
  ne2 : g ≠ gh
  ne3 : gw ≠ gh

theorem wcells_length {size : Nat} {T : Things} (h : usedOf T ≤ size) : (wcells size T).length = size := by
  simp [wcells, wordsOf_length]; omega
theorem hcells_length {size : Nat} {T : Things} (h : usedOf T ≤ size) : (hcells size T).length = size := by
  simp [hcells, headsOf_length]; omega
theorem hcells_get {size : Nat} {T : Things} {p : Nat} (h : p < usedOf T) : (hcells size T)[p]? = some (.bool (atP T p).isSome) := by
  rw [hcells, List.getElem?_append_left (by simpa [headsOf_length] using h), List.getElem?_map, atP_head T p h]; rfl
theorem wcells_get {size : Nat} {T : Things} {p : Nat} {t : Thing} (h : atP T p = some t) : (wcells size T)[p]? = some (.int .u64 ((t.l.length * 256 + t.kind : Nat) : Int)) := by
  obtain ⟨k1, k2, _, _⟩ := atP_words T p t h
  have : 0 < t.room := by unfold Thing.room; omega
  rw [wcells, List.getElem?_append_left (by simp [wordsOf_length]; omega), List.getElem?_map, k2]; rfl
theorem wcells_words {size : Nat} {T : Things} {p : Nat} {t : Thing} (h : atP T p = some t) : ((wcells size T).drop (p + 1)).take t.l.length = t.l.map U := by
  obtain ⟨k1, _, k3, _⟩ := atP_words T p t h
  unfold Thing.room at k1
  rw [wcells, List.drop_append_of_le_length (by simp [wordsOf_length]; omega), List.take_append_of_le_length (by simp [wordsOf_length]; omega), ← List.map_drop, ← List.map_take, k3]

theorem repl_put {z h : Value} {vs pre : List Value} {m : Nat} (hm : vs.length + 1 ≤ m) : splice ((pre ++ List.replicate m z).set pre.length h) (pre.length + 1) vs = pre ++ (h :: vs) ++ List.replicate (m - (vs.length + 1)) z := by
  have e1 : List.replicate m z = z :: (List.replicate vs.length z ++ List.replicate (m - (vs.length + 1)) z) := by
    rw [List.replicate_append_replicate, ← List.replicate_succ]; congr 1; omega
  rw [e1, List.set_append_right _ _ (by omega), Nat.sub_self, List.set_cons_zero]
  have := splice_mid vs (List.replicate vs.length z) (List.replicate (m - (vs.length + 1)) z) (by simp) (pre ++ [h])
  rw [show (pre ++ [h]).length = pre.length + 1 by simp] at this
  rw [show pre ++ h :: (List.replicate vs.length z ++ List.replicate (m - (vs.length + 1)) z) = pre ++ [h] ++ List.replicate vs.length z ++ List.replicate (m - (vs.length + 1)) z by simp, this]
  simp
theorem wcells_push {size : Nat} {T : Things} {t : Thing} (h : usedOf T + t.room ≤ size) :
    splice ((wcells size T).set (usedOf T) (.int .u64 ((t.l.length * 256 + t.kind : Nat) : Int))) (usedOf T + 1) (t.l.map U) = wcells size (T ++ [t]) := by
  unfold Thing.room at h
  have := repl_put (z := Value.int .u64 0) (h := .int .u64 ((t.l.length * 256 + t.kind : Nat) : Int)) (vs := t.l.map U) (pre := (wordsOf T).map U) (m := size - usedOf T) (by simp; omega)
  rw [show ((wordsOf T).map U).length = usedOf T by simp [wordsOf_length]] at this
  rw [wcells, this, wcells, wordsOf_append, usedOf_append]
  simp [wordsOf, usedOf, Thing.room]
  omega
theorem hcells_push {size : Nat} {T : Things} {t : Thing} (h : usedOf T + t.room ≤ size) : (hcells size T).set (usedOf T) (.bool true) = hcells size (T ++ [t]) := by
  unfold Thing.room at h
  have := repl_put (z := Value.bool false) (h := .bool true) (vs := List.replicate t.l.length (.bool false)) (pre := (headsOf T).map Value.bool) (m := size - usedOf T) (by simp; omega)
  rw [show ((headsOf T).map Value.bool).length = usedOf T by simp [headsOf_length]] at this
  have e2 : splice ((hcells size T).set (usedOf T) (.bool true)) (usedOf T + 1) (List.replicate t.l.length (.bool false)) = (hcells size T).set (usedOf T) (.bool true) := by
    have e1 : hcells size T = (headsOf T).map Value.bool ++ ([.bool false] ++ List.replicate t.l.length (.bool false) ++ List.replicate (size - usedOf T - (t.l.length + 1)) (.bool false)) := by
      rw [hcells, show List.replicate (size - usedOf T) (Value.bool false) = [.bool false] ++ List.replicate t.l.length (.bool false) ++ List.replicate (size - usedOf T - (t.l.length + 1)) (.bool false) by
        rw [show [Value.bool false] = List.replicate 1 (.bool false) from rfl, List.replicate_append_replicate, List.replicate_append_replicate]; congr 1; omega]
    have e3 : (hcells size T).set (usedOf T) (.bool true) = ((headsOf T).map Value.bool ++ [.bool true]) ++ List.replicate t.l.length (.bool false) ++ List.replicate (size - usedOf T - (t.l.length + 1)) (.bool false) := by
      rw [e1, List.set_append_right _ _ (by simp [headsOf_length])]; simp [headsOf_length]
    rw [e3]
    have := splice_mid (List.replicate t.l.length (.bool false)) (List.replicate t.l.length (.bool false)) (List.replicate (size - usedOf T - (t.l.length + 1)) (.bool false)) rfl ((headsOf T).map Value.bool ++ [.bool true])
    rw [show ((headsOf T).map Value.bool ++ [Value.bool true]).length = usedOf T + 1 by simp [headsOf_length]] at this
    exact this
  rw [← e2, hcells, this, hcells, headsOf_append, usedOf_append]
  simp [headsOf, usedOf, Thing.room]
  omega

/-- What a walk tells of a place. -/
def findV (gw : Nat) (T : Things) (w : Nat) : Value :=
  match findT T w with
  | some t => .tuple #[.slice (some ⟨gw, if t.l.length = 0 then 0 else w / 8 + 1, none⟩) t.l.length t.l.length, .int .i64 (t.kind : Int), .bool true]
  | none => .tuple #[.slice none 0 0, .int .i64 0, .bool false]
end Go.HL
