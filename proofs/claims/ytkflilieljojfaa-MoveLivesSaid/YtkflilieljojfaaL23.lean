/-
  Joined: A5.
-/
import Derived.Test.YtkflilieljojfaaL22
/-
  What lies where while it is brought: plain Lean, on.
-/
namespace Go.HL

/-- A thing that is brought, done. -/
def fullThing (T : Things) (F : List Nat) (j : Nat) : Thing :=
  match T[j]? with
  | some t => ⟨t.kind, t.l.map (tr T F)⟩
  | none => ⟨1, []⟩
def outT (T : Things) (F : List Nat) : Things := F.map (fullThing T F)

theorem midThing_done {T : Things} {F : List Nat} {p q k j : Nat} (h : k < p) : midThing T F p q k j = fullThing T F j := by
  unfold midThing fullThing
  cases T[j]? with
  | none => rfl
  | some t => simp [h]
theorem midT_done (T : Things) (F : List Nat) (p q : Nat) : ∀ (ord : List Nat) (k : Nat), k + ord.length ≤ p → midT T F p q k ord = ord.map (fullThing T F)
  | [], _, _ => rfl
  | j :: ord, k, h => by
    simp only [List.length_cons] at h
    rw [midT, midThing_done (by omega), midT_done T F p q ord (k + 1) (by omega), List.map_cons]
/-- The next one's turn. -/
theorem midThing_turn {T : Things} {F : List Nat} {p q k j : Nat} (h : k = p → q = (wordsI T j).length) : midThing T F p q k j = midThing T F (p + 1) 0 k j := by
  unfold midThing
  unfold wordsI at h
  cases hj : T[j]? with
  | none => rfl
  | some t =>
    rw [hj] at h
    simp only at h ⊢
    have : (if k < p then t.l.length else if k = p then q else 0) = (if k < p + 1 then t.l.length else if k = p + 1 then 0 else 0) := by
      by_cases h1 : k < p
      · rw [if_pos h1, if_pos (by omega)]
      · rw [if_neg h1]
        by_cases h2 : k = p
        · rw [if_pos h2, if_pos (by omega), h h2]
        · rw [if_neg h2, if_neg (by omega)]; simp
    rw [this]
theorem midT_turn (T : Things) (F : List Nat) (p q : Nat) : ∀ (ord : List Nat) (k : Nat), (∀ n j, ord[n]? = some j → k + n = p → q = (wordsI T j).length) → midT T F p q k ord = midT T F (p + 1) 0 k ord
  | [], _, _ => rfl
  | j :: ord, k, h => by
    rw [midT, midT, midThing_turn (fun e => h 0 j rfl (by omega)), midT_turn T F p q ord (k + 1) (fun n j' hn e => h (n + 1) j' (by simpa using hn) (by omega))]

theorem placeOf_midT (T : Things) (F : List Nat) (p q : Nat) : ∀ (ord : List Nat) (k n : Nat), placeOf (midT T F p q k ord) n = sumR T (ord.take n)
  | [], _, n => by simp [midT, placeOf, sumR, usedOf]
  | j :: ord, k, 0 => by simp [placeOf, sumR, usedOf]
  | j :: ord, k, n + 1 => by
    have := placeOf_midT T F p q ord (k + 1) n
    unfold placeOf at this ⊢
    rw [midT, List.take_succ_cons, usedOf, midThing_room, this]
    simp [sumR]
/-- Where one of them is. -/
theorem placeIn_get {T : Things} {F ord l : List Nat} (hF : F = ord ++ l) (hnd : ord.Nodup) {n j : Nat} (h : ord[n]? = some j) : placeIn T F j = sumR T (ord.take n) := by
  have hn := (List.getElem?_eq_some_iff.1 h).1
  have e : ord = ord.take n ++ j :: ord.drop (n + 1) := by
    have h' := (List.getElem?_eq_some_iff.1 h).2
    rw [← h', ← List.drop_eq_getElem_cons hn, List.take_append_drop]
  have hj : j ∉ ord.take n := by
    intro hm
    rw [e] at hnd
    exact (List.nodup_append.1 hnd).2.2 j hm j (by simp) rfl
  rw [hF]
  conv => lhs; rw [e]
  rw [List.append_assoc, List.cons_append]
  exact placeIn_new T j _ _ hj
theorem midT_find {T : Things} {F ord l : List Nat} (hF : F = ord ++ l) (hnd : ord.Nodup) (p q : Nat) {n j : Nat} (h : ord[n]? = some j) :
    findT (midT T F p q 0 ord) (wordAt (placeIn T F j)) = some (midThing T F p q n j) := by
  have hn := (List.getElem?_eq_some_iff.1 h).1
  have e : placeIn T F j = placeOf (midT T F p q 0 ord) n := by rw [placeOf_midT]; exact placeIn_get hF hnd h
  rw [findT_findI, e, word_findI (by rw [midT_length]; exact hn)]
  have := midT_get T F p q ord 0 n j h
  rw [Option.bind_some, this, Nat.zero_add]

/-- One word of one thing is set. -/
theorem wordsOf_set : ∀ (T : Things) (n i x : Nat) (t : Thing), T[n]? = some t → i < t.l.length → (wordsOf T).set (placeOf T n + 1 + i) x = wordsOf (T.set n ⟨t.kind, t.l.set i x⟩)
  | [], n, i, x, t, h, _ => by simp at h
  | u :: T, 0, i, x, t, h, hi => by
    simp at h; subst h
    simp only [placeOf, List.take_zero, usedOf, Nat.zero_add, List.set_cons_zero, wordsOf, List.length_set]
    rw [Nat.add_comm 1 i, List.cons_append, List.set_cons_succ, List.set_append_left _ _ hi, List.cons_append]
  | u :: T, n + 1, i, x, t, h, hi => by
    have ih := wordsOf_set T n i x t (by simpa using h) hi
    have e : placeOf (u :: T) (n + 1) = u.room + placeOf T n := by simp [placeOf, usedOf]
    have hl : ((u.l.length * 256 + u.kind) :: u.l).length = u.room := by simp [Thing.room]; omega
    rw [e, List.set_cons_succ, wordsOf, wordsOf, List.set_append_right _ _ (by rw [hl]; omega), hl, ← ih]
    congr 2; omega
theorem headsOf_congr : ∀ (T T' : Things), T.map (fun t => t.l.length) = T'.map (fun t => t.l.length) → headsOf T = headsOf T'
  | [], [], _ => rfl
  | [], _ :: _, h => by simp at h
  | _ :: _, [], h => by simp at h
  | t :: T, t' :: T', h => by
    simp only [List.map_cons, List.cons.injEq] at h
    rw [headsOf, headsOf, h.1, headsOf_congr T T' h.2]
theorem usedOf_congr : ∀ (T T' : Things), T.map (fun t => t.l.length) = T'.map (fun t => t.l.length) → usedOf T = usedOf T'
  | [], [], _ => rfl
  | [], _ :: _, h => by simp at h
  | _ :: _, [], h => by simp at h
  | t :: T, t' :: T', h => by
    simp only [List.map_cons, List.cons.injEq] at h
    rw [usedOf, usedOf, Thing.room, Thing.room, h.1, usedOf_congr T T' h.2]
theorem lens_set (T : Things) (n : Nat) (t u : Thing) (h : T[n]? = some t) (hu : u.l.length = t.l.length) : (T.set n u).map (fun t => t.l.length) = T.map (fun t => t.l.length) := by
  rw [List.map_set]
  apply List.ext_getElem?
  intro i
  rw [List.getElem?_set]
  split
  · rename_i e; subst e
    rw [List.getElem?_map, h]; simp [hu, (List.getElem?_eq_some_iff.1 h).1]
  · rfl
theorem set_words {n p q j w : Nat} {T : Things} {F : List Nat} {t : Thing} (hj : T[j]? = some t) (hw : t.l[q]? = some w) (hp : n = p) :
    (⟨(midThing T F p q n j).kind, (midThing T F p q n j).l.set q (tr T F w)⟩ : Thing) = midThing T F p (q + 1) n j := by
  have hq := (List.getElem?_eq_some_iff.1 hw).1
  unfold midThing
  rw [hj]
  subst hp
  simp only [Nat.lt_irrefl, if_false, if_true, Thing.mk.injEq, true_and]
  rw [List.set_append_right _ _ (by simp; omega)]
  simp only [List.length_map, List.length_take, Nat.min_eq_left (Nat.le_of_lt hq), Nat.sub_self]
  have h' := (List.getElem?_eq_some_iff.1 hw).2
  rw [List.drop_eq_getElem_cons hq, List.set_cons_zero, List.take_add_one, hw, Option.toList_some, List.map_append, List.append_assoc]; rfl
theorem midT_set (T : Things) (F : List Nat) (p q : Nat) {t : Thing} {j w : Nat} (hj : T[j]? = some t) (hw : t.l[q]? = some w) : ∀ (ord : List Nat) (k n : Nat), ord[n]? = some j → k + n = p →
    (midT T F p q k ord).set n ⟨(midThing T F p q p j).kind, (midThing T F p q p j).l.set q (tr T F w)⟩ = midT T F p (q + 1) k ord
  | [], _, _, h, _ => by simp at h
  | x :: ord, k, 0, h, e => by
    simp at h; subst h
    have e' : k = p := by omega
    subst e'
    rw [midT, midT, List.set_cons_zero, set_words hj hw rfl]
    congr 1
    -- the others stay
    have : ∀ (l : List Nat) (m : Nat), k < m → midT T F k q m l = midT T F k (q + 1) m l := by
      intro l
      induction l with
      | nil => intro m _; rfl
      | cons y l ih =>
        intro m hm
        rw [midT, midT, ih (m + 1) (by omega)]
        congr 1
        unfold midThing
        cases T[y]? with
        | none => rfl
        | some u => simp only [if_neg (show ¬ m < k by omega), if_neg (show ¬ m = k by omega)]
    exact this ord (k + 1) (by omega)
  | x :: ord, k, n + 1, h, e => by
    rw [midT, midT, List.set_cons_succ, midT_set T F p q hj hw ord (k + 1) n (by simpa using h) (by omega)]
    congr 1
    unfold midThing
    cases T[x]? with
    | none => rfl
    | some u => simp only; rw [if_pos (by omega), if_pos (by omega)]
end Go.HL
