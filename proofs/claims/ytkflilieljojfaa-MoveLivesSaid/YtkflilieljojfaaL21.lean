/-
  Joined: A4.
-/
import Derived.Test.YtkflilieljojfaaL20
/-
  The order of what is brought, and what lies where while it is: plain Lean.
-/
namespace Go.HL

def sumR (T : Things) (ord : List Nat) : Nat := (ord.map (roomI T)).sum

theorem sumR_append (T : Things) (a b : List Nat) : sumR T (a ++ b) = sumR T a + sumR T b := by simp [sumR]
theorem sumR_one (T : Things) (i : Nat) : sumR T [i] = roomI T i := by simp [sumR]

theorem usedOf_take_succ (T : Things) (n : Nat) (h : n < T.length) : usedOf (T.take (n + 1)) = usedOf (T.take n) + roomI T n := by
  rw [List.take_add_one, usedOf_append, List.getElem?_eq_getElem h]
  simp [usedOf, roomI, h]

theorem sumR_le_take (T : Things) : ∀ (n : Nat), n ≤ T.length → ∀ ord : List Nat, ord.Nodup → (∀ x ∈ ord, x < n) → sumR T ord ≤ usedOf (T.take n) := by
  intro n
  induction n with
  | zero => intro _ ord _ h; cases ord with
    | nil => simp [sumR]
    | cons x l => exact absurd (h x (by simp)) (by omega)
  | succ n ih =>
    intro hn ord hnd h
    rw [usedOf_take_succ T n (by omega)]
    by_cases hm : n ∈ ord
    · have hp := List.perm_cons_erase hm
      have e : sumR T ord = roomI T n + sumR T (ord.erase n) := by
        unfold sumR
        rw [(hp.map (roomI T)).sum_nat]; simp
      have := ih (by omega) (ord.erase n) (hnd.erase n) (fun x hx => by
        have h1 := h x (List.mem_of_mem_erase hx)
        have : x ≠ n := fun e => by subst e; exact (List.Nodup.not_mem_erase hnd) hx
        omega)
      omega
    · have := ih (by omega) ord hnd (fun x hx => by have := h x hx; have : x ≠ n := fun e => hm (by rw [← e]; exact hx); omega)
      omega
theorem sumR_le (T : Things) (ord : List Nat) (hn : ord.Nodup) (h : ∀ x ∈ ord, x < T.length) : sumR T ord ≤ usedOf T := by
  have := sumR_le_take T T.length (by omega) ord hn h
  rwa [List.take_of_length_le (by omega)] at this

theorem placeIn_new (T : Things) (i : Nat) (l : List Nat) : ∀ ord : List Nat, i ∉ ord → placeIn T (ord ++ i :: l) i = sumR T ord
  | [], _ => by simp [placeIn, sumR]
  | j :: ord, h => by
    simp only [List.mem_cons, not_or] at h
    rw [List.cons_append, placeIn, if_neg h.1, placeIn_new T i l ord h.2]
    simp [sumR]

/-- A thing of those that are brought, while it is gone through. -/
def midThing (T : Things) (F : List Nat) (p q k j : Nat) : Thing :=
  match T[j]? with
  | some t => ⟨t.kind, (t.l.take (if k < p then t.l.length else if k = p then q else 0)).map (tr T F) ++ t.l.drop (if k < p then t.l.length else if k = p then q else 0)⟩
  | none => ⟨1, []⟩
def midT (T : Things) (F : List Nat) (p q : Nat) : Nat → List Nat → Things
  | _, [] => []
  | k, j :: ord => midThing T F p q k j :: midT T F p q (k + 1) ord

theorem midThing_room (T : Things) (F : List Nat) (p q k j : Nat) : (midThing T F p q k j).room = roomI T j := by
  unfold midThing roomI
  cases T[j]? with
  | none => rfl
  | some t => simp [Thing.room]; omega
theorem midT_used (T : Things) (F : List Nat) (p q : Nat) : ∀ (ord : List Nat) (k : Nat), usedOf (midT T F p q k ord) = sumR T ord
  | [], _ => rfl
  | j :: ord, k => by simp [midT, usedOf, midThing_room, midT_used T F p q ord, sumR]
theorem midT_length (T : Things) (F : List Nat) (p q : Nat) : ∀ (ord : List Nat) (k : Nat), (midT T F p q k ord).length = ord.length
  | [], _ => rfl
  | j :: ord, k => by simp [midT, midT_length T F p q ord]
theorem midT_append (T : Things) (F : List Nat) (p q : Nat) (b : List Nat) : ∀ (a : List Nat) (k : Nat), midT T F p q k (a ++ b) = midT T F p q k a ++ midT T F p q (k + a.length) b
  | [], k => by simp [midT]
  | j :: a, k => by
    rw [List.cons_append, midT, midT, midT_append T F p q b a, List.cons_append, List.length_cons]
    congr 3; omega
theorem midT_get (T : Things) (F : List Nat) (p q : Nat) : ∀ (ord : List Nat) (k n j : Nat), ord[n]? = some j → (midT T F p q k ord)[n]? = some (midThing T F p q (k + n) j)
  | [], _, _, _, h => by simp at h
  | x :: ord, k, 0, j, h => by simp at h; subst h; simp [midT]
  | x :: ord, k, n + 1, j, h => by
    rw [midT, List.getElem?_cons_succ, midT_get T F p q ord (k + 1) n j (by simpa using h)]
    congr 2; omega
/-- A new one is not gone through yet. -/
theorem midThing_new {T : Things} {F : List Nat} {p q k j : Nat} {t : Thing} (h : T[j]? = some t) (hk : p < k ∨ p = k ∧ q = 0) : midThing T F p q k j = t := by
  unfold midThing
  rw [h]
  simp only
  have : (if k < p then t.l.length else if k = p then q else 0) = 0 := by
    rcases hk with hk | ⟨hk, hq⟩
    · rw [if_neg (by omega), if_neg (by omega)]
    · subst hk; simp [hq]
  rw [this]; simp

def wentO (T : Things) (F ord : List Nat) : List (Nat × Nat) := ord.map fun i => (wordAt (placeOf T i), wordAt (placeIn T F i))
def madeO (T : Things) (F ord : List Nat) : List Nat := ord.map fun i => wordAt (placeIn T F i)

theorem findI_word {T : Things} {w i : Nat} (h : findI T w = some i) : w = wordAt (placeOf T i) ∧ i < T.length := by
  unfold findI at h; split at h
  · obtain ⟨k1, k2⟩ := place_ixP T _ _ h
    exact ⟨by rw [k2]; unfold wordAt; omega, k1⟩
  · cases h
theorem word_findI {T : Things} {i : Nat} (h : i < T.length) : findI T (wordAt (placeOf T i)) = some i := by
  unfold findI wordAt
  rw [if_pos (by omega), show (placeOf T i * 8 + 1) / 8 = placeOf T i by omega]
  exact ixP_place T i h
theorem placeOf_inj {T : Things} {i j : Nat} (hi : i < T.length) (hj : j < T.length) (h : wordAt (placeOf T i) = wordAt (placeOf T j)) : i = j := by
  have h1 := word_findI hi
  have h2 := word_findI hj
  rw [h, h2] at h1; cases h1; rfl
theorem wentO_lookup {T : Things} {F : List Nat} {w i : Nat} (h : findI T w = some i) : ∀ (ord : List Nat), (∀ x ∈ ord, x < T.length) → (wentO T F ord).lookup w = if i ∈ ord then some (wordAt (placeIn T F i)) else none
  | [], _ => rfl
  | j :: ord, hl => by
    obtain ⟨hw, hi⟩ := findI_word h
    have hj := hl j (by simp)
    simp only [wentO, List.map_cons, List.lookup_cons]
    by_cases e : i = j
    · subst e; rw [hw]; simp
    · have : (w == wordAt (placeOf T j)) = false := by
        simp only [beq_eq_false_iff_ne]; intro e'; exact e (placeOf_inj hi hj (by rw [← hw, e']))
      rw [this]
      have ih := wentO_lookup (F := F) h ord (fun x hx => hl x (by simp [hx]))
      unfold wentO at ih
      simp only [ih, List.mem_cons, e, false_or]

theorem scan_sub {T : Things} : ∀ (f p : Nat) (ord : List Nat), ∃ l, scan T f p ord = ord ++ l
  | 0, _, ord => ⟨[], by simp [scan]⟩
  | f + 1, p, ord => by
    rw [scan]
    cases ord[p]? with
    | none => exact ⟨[], by simp⟩
    | some i =>
      obtain ⟨l, hl⟩ := stepAll_sub (T := T) (wordsI T i) ord
      obtain ⟨l', hl'⟩ := scan_sub (T := T) f (p + 1) (stepAll T ord (wordsI T i))
      exact ⟨l ++ l', by simp only; rw [hl', hl, List.append_assoc]⟩
end Go.HL
