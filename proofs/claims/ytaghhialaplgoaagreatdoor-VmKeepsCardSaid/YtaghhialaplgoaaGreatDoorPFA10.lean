/-
  Joined: A3, A4, A5, A10.
-/
import Derived.Test.YtaghhialaplgoaaGreatDoorPFA2
set_option linter.unusedVariables false
set_option linter.unusedSimpArgs false
/-
  What is reached, and in which order it is brought: plain Lean.
-/
namespace Go.HL
set_option linter.unusedSimpArgs false
set_option linter.unusedVariables false

/-- One word: which thing joins those that are brought. -/
def stepO (T : Things) (ord : List Nat) (w : Nat) : List Nat :=
  match findI T w with
  | some i => if i ∈ ord then ord else ord ++ [i]
  | none => ord
def stepAll (T : Things) (ord ws : List Nat) : List Nat := ws.foldl (stepO T) ord
def wordsI (T : Things) (i : Nat) : List Nat := match T[i]? with | some t => t.l | none => []
def scan (T : Things) : Nat → Nat → List Nat → List Nat
  | 0, _, ord => ord
  | f + 1, p, ord => match ord[p]? with
    | some i => scan T f (p + 1) (stepAll T ord (wordsI T i))
    | none => ord
/-- The things that are reached, in the order in which they are. -/
def bfs (T : Things) (roots : List Nat) : List Nat := scan T (T.length + 1) 0 (stepAll T [] roots)

/-- Is a thing reached? -/
inductive Reached (T : Things) (roots : List Nat) : Nat → Prop where
  | root (w i : Nat) (h : w ∈ roots) (hi : findI T w = some i) : Reached T roots i
  | next (j w i : Nat) (hj : Reached T roots j) (h : w ∈ wordsI T j) (hi : findI T w = some i) : Reached T roots i

theorem findI_lt {T : Things} {w i : Nat} (h : findI T w = some i) : i < T.length := by
  unfold findI at h; split at h
  · exact (place_ixP T _ _ h).1
  · cases h

/-- The places of those that are brought. -/
def roomI (T : Things) (i : Nat) : Nat := match T[i]? with | some t => t.room | none => 1
def placeIn (T : Things) : List Nat → Nat → Nat
  | [], _ => 0
  | j :: ord, i => if i = j then 0 else roomI T j + placeIn T ord i
/-- A word, as it is brought. -/
def tr (T : Things) (ord : List Nat) (w : Nat) : Nat :=
  match findI T w with
  | some i => wordAt (placeIn T ord i)
  | none => if w % 8 = 1 ∧ w / 8 < 1099511627776 then 26 else w

theorem stepO_nodup {T : Things} {ord : List Nat} {w : Nat} (h : ord.Nodup) : (stepO T ord w).Nodup := by
  unfold stepO; split
  · split
    · exact h
    · rename_i i _ hi
      exact List.nodup_append.2 ⟨h, by simp, fun a ha b hb => by simp at hb; subst hb; exact fun e => hi (by rw [← e]; exact ha)⟩
  · exact h
theorem stepO_sub {T : Things} {ord : List Nat} {w : Nat} : ∃ l, stepO T ord w = ord ++ l := by
  unfold stepO; split
  · split
    · exact ⟨[], by simp⟩
    · exact ⟨_, rfl⟩
  · exact ⟨[], by simp⟩
theorem stepAll_sub {T : Things} : ∀ (ws ord : List Nat), ∃ l, stepAll T ord ws = ord ++ l
  | [], ord => ⟨[], by simp [stepAll]⟩
  | w :: ws, ord => by
    obtain ⟨l, h⟩ := stepO_sub (T := T) (ord := ord) (w := w)
    obtain ⟨l', h'⟩ := stepAll_sub (T := T) ws (stepO T ord w)
    refine ⟨l ++ l', ?_⟩
    unfold stepAll at h' ⊢
    rw [List.foldl_cons, h', h, List.append_assoc]
theorem stepAll_nodup {T : Things} : ∀ (ws ord : List Nat), ord.Nodup → (stepAll T ord ws).Nodup
  | [], ord, h => h
  | w :: ws, ord, h => stepAll_nodup ws _ (stepO_nodup h)
theorem stepO_mem {T : Things} {ord : List Nat} {w i : Nat} : i ∈ stepO T ord w ↔ i ∈ ord ∨ findI T w = some i := by
  unfold stepO
  cases h : findI T w with
  | none => simp
  | some j =>
    simp only
    split
    · rename_i hj
      constructor
      · exact .inl
      · rintro (h | h)
        · exact h
        · cases h; exact hj
    · simp; constructor
      · rintro (h | h)
        · exact .inl h
        · exact .inr h.symm
      · rintro (h | h)
        · exact .inl h
        · exact .inr h.symm
theorem stepAll_mem {T : Things} {i : Nat} : ∀ (ws ord : List Nat), i ∈ stepAll T ord ws ↔ i ∈ ord ∨ ∃ w ∈ ws, findI T w = some i
  | [], ord => by simp [stepAll]
  | w :: ws, ord => by
    have := stepAll_mem (T := T) (i := i) ws (stepO T ord w)
    unfold stepAll at this ⊢
    rw [List.foldl_cons, this, stepO_mem]
    simp [or_assoc]

theorem nodup_le {n : Nat} : ∀ (l : List Nat), l.Nodup → (∀ x ∈ l, x < n) → l.length ≤ n := by
  induction n with
  | zero => intro l _ h; cases l with
    | nil => simp
    | cons x l => exact absurd (h x (by simp)) (by omega)
  | succ n ih =>
    intro l hn h
    by_cases hm : n ∈ l
    · have := ih (l.erase n) (hn.erase n) (fun x hx => by
        have := h x (List.mem_of_mem_erase hx)
        have : x ≠ n := fun e => by subst e; exact (List.Nodup.not_mem_erase hn) hx
        omega)
      rw [List.length_erase_of_mem hm] at this; omega
    · have := ih l hn (fun x hx => by have := h x hx; have : x ≠ n := fun e => hm (by rw [← e]; exact hx); omega)
      omega

/-- What holds of those that are brought at the head of a round. -/
structure ScanInv (T : Things) (roots : List Nat) (p : Nat) (ord : List Nat) : Prop where
  nodup : ord.Nodup
  sound : ∀ i ∈ ord, Reached T roots i
  root : ∀ w ∈ roots, ∀ i, findI T w = some i → i ∈ ord
  done : ∀ k, k < p → ∀ j, ord[k]? = some j → ∀ w ∈ wordsI T j, ∀ i, findI T w = some i → i ∈ ord

theorem reached_lt {T : Things} {roots : List Nat} {i : Nat} (h : Reached T roots i) : i < T.length := by
  cases h with
  | root w _ _ hi => exact findI_lt hi
  | next _ _ _ _ _ hi => exact findI_lt hi
theorem ScanInv.start (T : Things) (roots : List Nat) : ScanInv T roots 0 (stepAll T [] roots) := by
  refine ⟨stepAll_nodup _ _ List.nodup_nil, fun i hi => ?_, fun w hw i hi => ?_, fun k hk => by omega⟩
  · rw [stepAll_mem] at hi
    rcases hi with hi | ⟨w, hw, hi⟩
    · simp at hi
    · exact .root w i hw hi
  · rw [stepAll_mem]; exact .inr ⟨w, hw, hi⟩
theorem ScanInv.le {T : Things} {roots : List Nat} {p : Nat} {ord : List Nat} (h : ScanInv T roots p ord) : ord.length ≤ T.length := nodup_le ord h.nodup (fun i hi => reached_lt (h.sound i hi))
theorem ScanInv.next {T : Things} {roots : List Nat} {p : Nat} {ord : List Nat} (h : ScanInv T roots p ord) {i : Nat} (hi : ord[p]? = some i) : ScanInv T roots (p + 1) (stepAll T ord (wordsI T i)) := by
  obtain ⟨l, hl⟩ := stepAll_sub (T := T) (wordsI T i) ord
  have hp : p < ord.length := (List.getElem?_eq_some_iff.1 hi).1
  have him : i ∈ ord := List.mem_of_getElem? hi
  refine ⟨stepAll_nodup _ _ h.nodup, fun k hk => ?_, fun w hw k hk => ?_, fun k hk j hj w hw n hn => ?_⟩
  · rw [stepAll_mem] at hk
    rcases hk with hk | ⟨w, hw, hk⟩
    · exact h.sound k hk
    · exact .next i w k (h.sound i him) hw hk
  · rw [stepAll_mem]; exact .inl (h.root w hw k hk)
  · rw [stepAll_mem]
    rw [hl, List.getElem?_append_left (by omega)] at hj
    by_cases hkp : k = p
    · subst hkp; rw [hi] at hj; cases hj; exact .inr ⟨w, hw, hn⟩
    · exact .inl (h.done k (by omega) j hj w hw n hn)

theorem scan_spec {T : Things} {roots : List Nat} : ∀ (f p : Nat) (ord : List Nat), ScanInv T roots p ord → p ≤ ord.length → T.length + 1 ≤ f + p → ScanInv T roots (scan T f p ord).length (scan T f p ord) := by
  intro f
  induction f with
  | zero => intro p ord h hp hf; have := h.le; exact absurd hp (by omega)
  | succ f ih =>
    intro p ord h hp hf
    rw [scan]
    cases hi : ord[p]? with
    | none =>
      simp only
      have : ord.length ≤ p := by rw [List.getElem?_eq_none_iff] at hi; exact hi
      rw [show ord.length = p by omega]; exact h
    | some i =>
      simp only
      have hp' : p < ord.length := (List.getElem?_eq_some_iff.1 hi).1
      refine ih (p + 1) _ (h.next hi) ?_ (by omega)
      obtain ⟨l, hl⟩ := stepAll_sub (T := T) (wordsI T i) ord
      rw [hl, List.length_append]; omega

theorem bfs_inv (T : Things) (roots : List Nat) : ScanInv T roots (bfs T roots).length (bfs T roots) := scan_spec _ 0 _ (ScanInv.start T roots) (by omega) (by omega)
theorem bfs_nodup (T : Things) (roots : List Nat) : (bfs T roots).Nodup := (bfs_inv T roots).nodup
theorem bfs_mem (T : Things) (roots : List Nat) (i : Nat) : i ∈ bfs T roots ↔ Reached T roots i := by
  have h := bfs_inv T roots
  refine ⟨h.sound i, fun hr => ?_⟩
  induction hr with
  | root w i hw hi => exact h.root w hw i hi
  | next j w i _ hw hi ih =>
    obtain ⟨k, hk⟩ := List.getElem?_of_mem ih
    exact h.done k (List.getElem?_eq_some_iff.1 hk).1 j hk w hw i hi
/-- How the loop goes on. -/
theorem scan_step {T : Things} {f p : Nat} {ord : List Nat} {i : Nat} (hi : ord[p]? = some i) : scan T (f + 1) p ord = scan T f (p + 1) (stepAll T ord (wordsI T i)) := by rw [scan, hi]
theorem scan_stop {T : Things} {f p : Nat} {ord : List Nat} (h : ord.length ≤ p) : scan T f p ord = ord := by
  cases f with
  | zero => rfl
  | succ f => rw [scan, List.getElem?_eq_none_iff.2 h]
end Go.HL
/-
  The order of what is brought, and what lies where while it is: plain Lean.
-/
namespace Go.HL

def sumR (T : Things) (ord : List Nat) : Nat := (ord.map (roomI T)).sum

theorem sumR_append (T : Things) (a b : List Nat) : sumR T (a ++ b) = sumR T a + sumR T b := by simp [sumR]
theorem sumR_one (T : Things) (i : Nat) : sumR T [i] = roomI T i := by simp [sumR]

theorem usedOf_take_succ (T : Things) (n : Nat) (h : n < T.length) : usedOf (T.take (n + 1)) = usedOf (T.take n) + roomI T n := by
  rw [List.take_add_one, usedOf_append, List.getElem?_eq_getElem h]
  simp [usedOf, roomI, h]

theorem sumR_le_take (T : Things) : ∀ (n : Nat), n ≤ T.length → ∀ ord : List Nat, ord.Nodup → (∀ x ∈ ord, x < n) → sumR T ord ≤ usedOf (T.take n) := by
  intro n
  induction n with
  | zero => intro _ ord _ h; cases ord with
    | nil => simp [sumR]
    | cons x l => exact absurd (h x (by simp)) (by omega)
  | succ n ih =>
    intro hn ord hnd h
    rw [usedOf_take_succ T n (by omega)]
    by_cases hm : n ∈ ord
    · have hp := List.perm_cons_erase hm
      have e : sumR T ord = roomI T n + sumR T (ord.erase n) := by
        unfold sumR
        rw [(hp.map (roomI T)).sum_nat]; simp
      have := ih (by omega) (ord.erase n) (hnd.erase n) (fun x hx => by
        have h1 := h x (List.mem_of_mem_erase hx)
        have : x ≠ n := fun e => by subst e; exact (List.Nodup.not_mem_erase hnd) hx
        omega)
      omega
    · have := ih (by omega) ord hnd (fun x hx => by have := h x hx; have : x ≠ n := fun e => hm (by rw [← e]; exact hx); omega)
      omega
theorem sumR_le (T : Things) (ord : List Nat) (hn : ord.Nodup) (h : ∀ x ∈ ord, x < T.length) : sumR T ord ≤ usedOf T := by
  have := sumR_le_take T T.length (by omega) ord hn h
  rwa [List.take_of_length_le (by omega)] at this

theorem placeIn_new (T : Things) (i : Nat) (l : List Nat) : ∀ ord : List Nat, i ∉ ord → placeIn T (ord ++ i :: l) i = sumR T ord
  | [], _ => by simp [placeIn, sumR]
  | j :: ord, h => by
    simp only [List.mem_cons, not_or] at h
    rw [List.cons_append, placeIn, if_neg h.1, placeIn_new T i l ord h.2]
    simp [sumR]

/-- A thing of those that are brought, while it is gone through. -/
def midThing (T : Things) (F : List Nat) (p q k j : Nat) : Thing :=
  match T[j]? with
  | some t => ⟨t.kind, (t.l.take (if k < p then t.l.length else if k = p then q else 0)).map (tr T F) ++ t.l.drop (if k < p then t.l.length else if k = p then q else 0)⟩
  | none => ⟨1, []⟩
def midT (T : Things) (F : List Nat) (p q : Nat) : Nat → List Nat → Things
  | _, [] => []
  | k, j :: ord => midThing T F p q k j :: midT T F p q (k + 1) ord

theorem midThing_room (T : Things) (F : List Nat) (p q k j : Nat) : (midThing T F p q k j).room = roomI T j := by
  unfold midThing roomI
  cases T[j]? with
  | none => rfl
  | some t => simp [Thing.room]; omega
theorem midT_used (T : Things) (F : List Nat) (p q : Nat) : ∀ (ord : List Nat) (k : Nat), usedOf (midT T F p q k ord) = sumR T ord
  | [], _ => rfl
  | j :: ord, k => by simp [midT, usedOf, midThing_room, midT_used T F p q ord, sumR]
theorem midT_length (T : Things) (F : List Nat) (p q : Nat) : ∀ (ord : List Nat) (k : Nat), (midT T F p q k ord).length = ord.length
  | [], _ => rfl
  | j :: ord, k => by simp [midT, midT_length T F p q ord]
theorem midT_append (T : Things) (F : List Nat) (p q : Nat) (b : List Nat) : ∀ (a : List Nat) (k : Nat), midT T F p q k (a ++ b) = midT T F p q k a ++ midT T F p q (k + a.length) b
  | [], k => by simp [midT]
  | j :: a, k => by
    rw [List.cons_append, midT, midT, midT_append T F p q b a, List.cons_append, List.length_cons]
    congr 3; omega
theorem midT_get (T : Things) (F : List Nat) (p q : Nat) : ∀ (ord : List Nat) (k n j : Nat), ord[n]? = some j → (midT T F p q k ord)[n]? = some (midThing T F p q (k + n) j)
  | [], _, _, _, h => by simp at h
  | x :: ord, k, 0, j, h => by simp at h; subst h; simp [midT]
  | x :: ord, k, n + 1, j, h => by
    rw [midT, List.getElem?_cons_succ, midT_get T F p q ord (k + 1) n j (by simpa using h)]
    congr 2; omega
/-- A new one is not gone through yet. -/
theorem midThing_new {T : Things} {F : List Nat} {p q k j : Nat} {t : Thing} (h : T[j]? = some t) (hk : p < k ∨ p = k ∧ q = 0) : midThing T F p q k j = t := by
  unfold midThing
  rw [h]
  simp only
  have : (if k < p then t.l.length else if k = p then q else 0) = 0 := by
    rcases hk with hk | ⟨hk, hq⟩
    · rw [if_neg (by omega), if_neg (by omega)]
    · subst hk; simp [hq]
  rw [this]; simp

def wentO (T : Things) (F ord : List Nat) : List (Nat × Nat) := ord.map fun i => (wordAt (placeOf T i), wordAt (placeIn T F i))
def madeO (T : Things) (F ord : List Nat) : List Nat := ord.map fun i => wordAt (placeIn T F i)

theorem findI_word {T : Things} {w i : Nat} (h : findI T w = some i) : w = wordAt (placeOf T i) ∧ i < T.length := by
  unfold findI at h; split at h
  · obtain ⟨k1, k2⟩ := place_ixP T _ _ h
    exact ⟨by rw [k2]; unfold wordAt; omega, k1⟩
  · cases h
theorem word_findI {T : Things} {i : Nat} (h : i < T.length) : findI T (wordAt (placeOf T i)) = some i := by
  unfold findI wordAt
  rw [if_pos (by omega), show (placeOf T i * 8 + 1) / 8 = placeOf T i by omega]
  exact ixP_place T i h
theorem placeOf_inj {T : Things} {i j : Nat} (hi : i < T.length) (hj : j < T.length) (h : wordAt (placeOf T i) = wordAt (placeOf T j)) : i = j := by
  have h1 := word_findI hi
  have h2 := word_findI hj
  rw [h, h2] at h1; cases h1; rfl
theorem wentO_lookup {T : Things} {F : List Nat} {w i : Nat} (h : findI T w = some i) : ∀ (ord : List Nat), (∀ x ∈ ord, x < T.length) → (wentO T F ord).lookup w = if i ∈ ord then some (wordAt (placeIn T F i)) else none
  | [], _ => rfl
  | j :: ord, hl => by
    obtain ⟨hw, hi⟩ := findI_word h
    have hj := hl j (by simp)
    simp only [wentO, List.map_cons, List.lookup_cons]
    by_cases e : i = j
    · subst e; rw [hw]; simp
    · have : (w == wordAt (placeOf T j)) = false := by
        simp only [beq_eq_false_iff_ne]; intro e'; exact e (placeOf_inj hi hj (by rw [← hw, e']))
      rw [this]
      have ih := wentO_lookup (F := F) h ord (fun x hx => hl x (by simp [hx]))
      unfold wentO at ih
      simp only [ih, List.mem_cons, e, false_or]

theorem scan_sub {T : Things} : ∀ (f p : Nat) (ord : List Nat), ∃ l, scan T f p ord = ord ++ l
  | 0, _, ord => ⟨[], by simp [scan]⟩
  | f + 1, p, ord => by
    rw [scan]
    cases ord[p]? with
    | none => exact ⟨[], by simp⟩
    | some i =>
      obtain ⟨l, hl⟩ := stepAll_sub (T := T) (wordsI T i) ord
      obtain ⟨l', hl'⟩ := scan_sub (T := T) f (p + 1) (stepAll T ord (wordsI T i))
      exact ⟨l ++ l', by simp only; rw [hl', hl, List.append_assoc]⟩
end Go.HL
/-
  What lies where while it is brought: plain Lean, on.
-/
namespace Go.HL

/-- A thing that is brought, done. -/
def fullThing (T : Things) (F : List Nat) (j : Nat) : Thing :=
  match T[j]? with
  | some t => ⟨t.kind, t.l.map (tr T F)⟩
  | none => ⟨1, []⟩
def outT (T : Things) (F : List Nat) : Things := F.map (fullThing T F)

theorem midThing_done {T : Things} {F : List Nat} {p q k j : Nat} (h : k < p) : midThing T F p q k j = fullThing T F j := by
  unfold midThing fullThing
  cases T[j]? with
  | none => rfl
  | some t => simp [h]
theorem midT_done (T : Things) (F : List Nat) (p q : Nat) : ∀ (ord : List Nat) (k : Nat), k + ord.length ≤ p → midT T F p q k ord = ord.map (fullThing T F)
  | [], _, _ => rfl
  | j :: ord, k, h => by
    simp only [List.length_cons] at h
    rw [midT, midThing_done (by omega), midT_done T F p q ord (k + 1) (by omega), List.map_cons]
/-- The next one's turn. -/
theorem midThing_turn {T : Things} {F : List Nat} {p q k j : Nat} (h : k = p → q = (wordsI T j).length) : midThing T F p q k j = midThing T F (p + 1) 0 k j := by
  unfold midThing
  unfold wordsI at h
  cases hj : T[j]? with
  | none => rfl
  | some t =>
    rw [hj] at h
    simp only at h ⊢
    have : (if k < p then t.l.length else if k = p then q else 0) = (if k < p + 1 then t.l.length else if k = p + 1 then 0 else 0) := by
      by_cases h1 : k < p
      · rw [if_pos h1, if_pos (by omega)]
      · rw [if_neg h1]
        by_cases h2 : k = p
        · rw [if_pos h2, if_pos (by omega), h h2]
        · rw [if_neg h2, if_neg (by omega)]; simp
    rw [this]
theorem midT_turn (T : Things) (F : List Nat) (p q : Nat) : ∀ (ord : List Nat) (k : Nat), (∀ n j, ord[n]? = some j → k + n = p → q = (wordsI T j).length) → midT T F p q k ord = midT T F (p + 1) 0 k ord
  | [], _, _ => rfl
  | j :: ord, k, h => by
    rw [midT, midT, midThing_turn (fun e => h 0 j rfl (by omega)), midT_turn T F p q ord (k + 1) (fun n j' hn e => h (n + 1) j' (by simpa using hn) (by omega))]

theorem placeOf_midT (T : Things) (F : List Nat) (p q : Nat) : ∀ (ord : List Nat) (k n : Nat), placeOf (midT T F p q k ord) n = sumR T (ord.take n)
  | [], _, n => by simp [midT, placeOf, sumR, usedOf]
  | j :: ord, k, 0 => by simp [placeOf, sumR, usedOf]
  | j :: ord, k, n + 1 => by
    have := placeOf_midT T F p q ord (k + 1) n
    unfold placeOf at this ⊢
    rw [midT, List.take_succ_cons, usedOf, midThing_room, this]
    simp [sumR]
/-- Where one of them is. -/
theorem placeIn_get {T : Things} {F ord l : List Nat} (hF : F = ord ++ l) (hnd : ord.Nodup) {n j : Nat} (h : ord[n]? = some j) : placeIn T F j = sumR T (ord.take n) := by
  have hn := (List.getElem?_eq_some_iff.1 h).1
  have e : ord = ord.take n ++ j :: ord.drop (n + 1) := by
    have h' := (List.getElem?_eq_some_iff.1 h).2
    rw [← h', ← List.drop_eq_getElem_cons hn, List.take_append_drop]
  have hj : j ∉ ord.take n := by
    intro hm
    rw [e] at hnd
    exact (List.nodup_append.1 hnd).2.2 j hm j (by simp) rfl
  rw [hF]
  conv => lhs; rw [e]
  rw [List.append_assoc, List.cons_append]
  exact placeIn_new T j _ _ hj
theorem midT_find {T : Things} {F ord l : List Nat} (hF : F = ord ++ l) (hnd : ord.Nodup) (p q : Nat) {n j : Nat} (h : ord[n]? = some j) :
    findT (midT T F p q 0 ord) (wordAt (placeIn T F j)) = some (midThing T F p q n j) := by
  have hn := (List.getElem?_eq_some_iff.1 h).1
  have e : placeIn T F j = placeOf (midT T F p q 0 ord) n := by rw [placeOf_midT]; exact placeIn_get hF hnd h
  rw [findT_findI, e, word_findI (by rw [midT_length]; exact hn)]
  have := midT_get T F p q ord 0 n j h
  rw [Option.bind_some, this, Nat.zero_add]

/-- One word of one thing is set. -/
theorem wordsOf_set : ∀ (T : Things) (n i x : Nat) (t : Thing), T[n]? = some t → i < t.l.length → (wordsOf T).set (placeOf T n + 1 + i) x = wordsOf (T.set n ⟨t.kind, t.l.set i x⟩)
  | [], n, i, x, t, h, _ => by simp at h
  | u :: T, 0, i, x, t, h, hi => by
    simp at h; subst h
    simp only [placeOf, List.take_zero, usedOf, Nat.zero_add, List.set_cons_zero, wordsOf, List.length_set]
    rw [Nat.add_comm 1 i, List.cons_append, List.set_cons_succ, List.set_append_left _ _ hi, List.cons_append]
  | u :: T, n + 1, i, x, t, h, hi => by
    have ih := wordsOf_set T n i x t (by simpa using h) hi
    have e : placeOf (u :: T) (n + 1) = u.room + placeOf T n := by simp [placeOf, usedOf]
    have hl : ((u.l.length * 256 + u.kind) :: u.l).length = u.room := by simp [Thing.room]; omega
    rw [e, List.set_cons_succ, wordsOf, wordsOf, List.set_append_right _ _ (by rw [hl]; omega), hl, ← ih]
    congr 2; omega
theorem headsOf_congr : ∀ (T T' : Things), T.map (fun t => t.l.length) = T'.map (fun t => t.l.length) → headsOf T = headsOf T'
  | [], [], _ => rfl
  | [], _ :: _, h => by simp at h
  | _ :: _, [], h => by simp at h
  | t :: T, t' :: T', h => by
    simp only [List.map_cons, List.cons.injEq] at h
    rw [headsOf, headsOf, h.1, headsOf_congr T T' h.2]
theorem usedOf_congr : ∀ (T T' : Things), T.map (fun t => t.l.length) = T'.map (fun t => t.l.length) → usedOf T = usedOf T'
  | [], [], _ => rfl
  | [], _ :: _, h => by simp at h
  | _ :: _, [], h => by simp at h
  | t :: T, t' :: T', h => by
    simp only [List.map_cons, List.cons.injEq] at h
    rw [usedOf, usedOf, Thing.room, Thing.room, h.1, usedOf_congr T T' h.2]
theorem lens_set (T : Things) (n : Nat) (t u : Thing) (h : T[n]? = some t) (hu : u.l.length = t.l.length) : (T.set n u).map (fun t => t.l.length) = T.map (fun t => t.l.length) := by
  rw [List.map_set]
  apply List.ext_getElem?
  intro i
  rw [List.getElem?_set]
  split
  · rename_i e; subst e
    rw [List.getElem?_map, h]; simp [hu, (List.getElem?_eq_some_iff.1 h).1]
  · rfl
theorem set_words {n p q j w : Nat} {T : Things} {F : List Nat} {t : Thing} (hj : T[j]? = some t) (hw : t.l[q]? = some w) (hp : n = p) :
    (⟨(midThing T F p q n j).kind, (midThing T F p q n j).l.set q (tr T F w)⟩ : Thing) = midThing T F p (q + 1) n j := by
  have hq := (List.getElem?_eq_some_iff.1 hw).1
  unfold midThing
  rw [hj]
  subst hp
  simp only [Nat.lt_irrefl, if_false, if_true, Thing.mk.injEq, true_and]
  rw [List.set_append_right _ _ (by simp; omega)]
  simp only [List.length_map, List.length_take, Nat.min_eq_left (Nat.le_of_lt hq), Nat.sub_self]
  have h' := (List.getElem?_eq_some_iff.1 hw).2
  rw [List.drop_eq_getElem_cons hq, List.set_cons_zero, List.take_add_one, hw, Option.toList_some, List.map_append, List.append_assoc]; rfl
theorem midT_set (T : Things) (F : List Nat) (p q : Nat) {t : Thing} {j w : Nat} (hj : T[j]? = some t) (hw : t.l[q]? = some w) : ∀ (ord : List Nat) (k n : Nat), ord[n]? = some j → k + n = p →
    (midT T F p q k ord).set n ⟨(midThing T F p q p j).kind, (midThing T F p q p j).l.set q (tr T F w)⟩ = midT T F p (q + 1) k ord
  | [], _, _, h, _ => by simp at h
  | x :: ord, k, 0, h, e => by
    simp at h; subst h
    have e' : k = p := by omega
    subst e'
    rw [midT, midT, List.set_cons_zero, set_words hj hw rfl]
    congr 1
    -- the others stay
    have : ∀ (l : List Nat) (m : Nat), k < m → midT T F k q m l = midT T F k (q + 1) m l := by
      intro l
      induction l with
      | nil => intro m _; rfl
      | cons y l ih =>
        intro m hm
        rw [midT, midT, ih (m + 1) (by omega)]
        congr 1
        unfold midThing
        cases T[y]? with
        | none => rfl
        | some u => simp only [if_neg (show ¬ m < k by omega), if_neg (show ¬ m = k by omega)]
    exact this ord (k + 1) (by omega)
  | x :: ord, k, n + 1, h, e => by
    rw [midT, midT, List.set_cons_succ, midT_set T F p q hj hw ord (k + 1) n (by simpa using h) (by omega)]
    congr 1
    unfold midThing
    cases T[x]? with
    | none => rfl
    | some u => simp only; rw [if_pos (by omega), if_pos (by omega)]
end Go.HL
/-
  What was brought, gone through again: plain Lean.
-/
namespace Go.HL
set_option linter.unusedSimpArgs false
set_option linter.unusedVariables false

/-- A set of things from which nothing leads out. -/
structure Closed (T : Things) (F : List Nat) : Prop where
  nodup : F.Nodup
  lt : ∀ i ∈ F, i < T.length
  step : ∀ i ∈ F, ∀ w ∈ wordsI T i, ∀ j, findI T w = some j → j ∈ F
theorem bfs_closed (T : Things) (roots : List Nat) : Closed T (bfs T roots) :=
  ⟨bfs_nodup T roots, fun i hi => reached_lt ((bfs_mem T roots i).1 hi), fun i hi w hw j hj => (bfs_mem T roots j).2 (.next i w j ((bfs_mem T roots i).1 hi) hw hj)⟩
theorem idxOf_mem {F : List Nat} {i : Nat} (h : i ∈ F) : F[F.idxOf i]? = some i := by
  have h1 := List.idxOf_lt_length_iff.2 h
  rw [List.getElem?_eq_getElem h1, List.getElem_idxOf h1]

theorem outT_length (T : Things) (F : List Nat) : (outT T F).length = F.length := by simp [outT]
theorem outT_get {T : Things} {F : List Nat} {n j : Nat} (h : F[n]? = some j) : (outT T F)[n]? = some (fullThing T F j) := by simp [outT, h]
theorem outT_mid (T : Things) (F : List Nat) : outT T F = midT T F F.length 0 0 F := (midT_done T F F.length 0 F 0 (by omega)).symm
theorem outT_place (T : Things) (F : List Nat) (n : Nat) : placeOf (outT T F) n = sumR T (F.take n) := by rw [outT_mid, placeOf_midT]
theorem outT_used (T : Things) (F : List Nat) : usedOf (outT T F) = sumR T F := by rw [outT_mid, midT_used]
theorem findI_used {T : Things} {w i : Nat} (h : findI T w = some i) : w / 8 < usedOf T := by
  obtain ⟨hw, hl⟩ := findI_word h
  subst hw
  have h2 : placeOf T i + roomI T i ≤ usedOf T := by
    have := usedOf_take_succ T i hl
    have h3 : usedOf (T.take (i + 1)) ≤ usedOf T := by
      conv => rhs; rw [← List.take_append_drop (i + 1) T]
      rw [usedOf_append]; omega
    unfold placeOf; omega
  have : 0 < roomI T i := by unfold roomI; split <;> simp [Thing.room]; omega
  unfold wordAt; omega
theorem bare_none {T : Things} {w : Nat} (hu : usedOf T ≤ 65536) (h : ¬ (w % 8 = 1 ∧ w / 8 < 1099511627776)) : findI T w = none := by
  cases e : findI T w with
  | none => rfl
  | some i =>
    have h1 := findI_used e
    have h2 : w % 8 = 1 := by unfold findI at e; split at e; assumption; cases e
    exact absurd ⟨h2, by omega⟩ h
/-- A word that is brought finds what it found. -/
theorem tr_find {T : Things} {F : List Nat} (hF : Closed T F) (hu : usedOf T ≤ 65536) {w : Nat} (hw : ∀ i, findI T w = some i → i ∈ F) : findI (outT T F) (tr T F w) = (findI T w).map F.idxOf := by
  have hu' : usedOf (outT T F) ≤ 65536 := by rw [outT_used]; have := sumR_le T F hF.nodup hF.lt; omega
  unfold tr
  cases h : findI T w with
  | some i =>
    simp only [Option.map_some]
    have hi := hw i h
    have hg := idxOf_mem hi
    have e := placeIn_get (T := T) (F := F) (ord := F) (l := []) (by simp) hF.nodup hg
    rw [e, ← outT_place]
    exact word_findI (by rw [outT_length]; exact List.idxOf_lt_length_iff.2 hi)
  | none =>
    simp only [Option.map_none]
    split
    · exact bare_none hu' (by omega)
    · rename_i hh; exact bare_none hu' hh

end Go.HL
