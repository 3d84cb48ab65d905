/-
  Joined: A3.
-/
import Derived.Test.YtkflilieljojfaaL19
/-
  What is reached, and in which order it is brought: plain Lean.
-/
namespace Go.HL
set_option linter.unusedSimpArgs false
set_option linter.unusedVariables false

/-- One word: which thing joins those that are brought. -/
def stepO (T : Things) (ord : List Nat) (w : Nat) : List Nat :=
  match findI T w with
  | some i => if i ∈ ord then ord else ord ++ [i]
  | none => ord
def stepAll (T : Things) (ord ws : List Nat) : List Nat := ws.foldl (stepO T) ord
def wordsI (T : Things) (i : Nat) : List Nat := match T[i]? with | some t => t.l | none => []
def scan (T : Things) : Nat → Nat → List Nat → List Nat
  | 0, _, ord => ord
  | f + 1, p, ord => match ord[p]? with
    | some i => scan T f (p + 1) (stepAll T ord (wordsI T i))
    | none => ord
/-- The things that are reached, in the order in which they are. -/
def bfs (T : Things) (roots : List Nat) : List Nat := scan T (T.length + 1) 0 (stepAll T [] roots)

/-- Is a thing reached? -/
inductive Reached (T : Things) (roots : List Nat) : Nat → Prop where
  | root (w i : Nat) (h : w ∈ roots) (hi : findI T w = some i) : Reached T roots i
  | next (j w i : Nat) (hj : Reached T roots j) (h : w ∈ wordsI T j) (hi : findI T w = some i) : Reached T roots i

theorem findI_lt {T : Things} {w i : Nat} (h : findI T w = some i) : i < T.length := by
  unfold findI at h; split at h
  · exact (place_ixP T _ _ h).1
  · cases h

/-- The places of those that are brought. -/
def roomI (T : Things) (i : Nat) : Nat := match T[i]? with | some t => t.room | none => 1
def placeIn (T : Things) : List Nat → Nat → Nat
  | [], _ => 0
  | j :: ord, i => if i = j then 0 else roomI T j + placeIn T ord i
/-- A word, as it is brought. -/
def tr (T : Things) (ord : List Nat) (w : Nat) : Nat :=
  match findI T w with
  | some i => wordAt (placeIn T ord i)
  | none => if w % 8 = 1 ∧ w / 8 < 1099511627776 then 26 else w

theorem stepO_nodup {T : Things} {ord : List Nat} {w : Nat} (h : ord.Nodup) : (stepO T ord w).Nodup := by
  unfold stepO; split
  · split
    · exact h
    · rename_i i _ hi
      exact List.nodup_append.2 ⟨h, by simp, fun a ha b hb => by simp at hb; subst hb; exact fun e => hi (by rw [← e]; exact ha)⟩
  · exact h
theorem stepO_sub {T : Things} {ord : List Nat} {w : Nat} : ∃ l, stepO T ord w = ord ++ l := by
  unfold stepO; split
  · split
    · exact ⟨[], by simp⟩
    · exact ⟨_, rfl⟩
  · exact ⟨[], by simp⟩
theorem stepAll_sub {T : Things} : ∀ (ws ord : List Nat), ∃ l, stepAll T ord ws = ord ++ l
  | [], ord => ⟨[], by simp [stepAll]⟩
  | w :: ws, ord => by
    obtain ⟨l, h⟩ := stepO_sub (T := T) (ord := ord) (w := w)
    obtain ⟨l', h'⟩ := stepAll_sub (T := T) ws (stepO T ord w)
    refine ⟨l ++ l', ?_⟩
    unfold stepAll at h' ⊢
    rw [List.foldl_cons, h', h, List.append_assoc]
theorem stepAll_nodup {T : Things} : ∀ (ws ord : List Nat), ord.Nodup → (stepAll T ord ws).Nodup
  | [], ord, h => h
  | w :: ws, ord, h => stepAll_nodup ws _ (stepO_nodup h)
theorem stepO_mem {T : Things} {ord : List Nat} {w i : Nat} : i ∈ stepO T ord w ↔ i ∈ ord ∨ findI T w = some i := by
  unfold stepO
  cases h : findI T w with
  | none => simp
  | some j =>
    simp only
    split
    · rename_i hj
      constructor
      · exact .inl
      · rintro (h | h)
        · exact h
        · cases h; exact hj
    · simp; constructor
      · rintro (h | h)
        · exact .inl h
        · exact .inr h.symm
      · rintro (h | h)
        · exact .inl h
        · exact .inr h.symm
theorem stepAll_mem {T : Things} {i : Nat} : ∀ (ws ord : List Nat), i ∈ stepAll T ord ws ↔ i ∈ ord ∨ ∃ w ∈ ws, findI T w = some i
  | [], ord => by simp [stepAll]
  | w :: ws, ord => by
    have := stepAll_mem (T := T) (i := i) ws (stepO T ord w)
    unfold stepAll at this ⊢
    rw [List.foldl_cons, this, stepO_mem]
    simp [or_assoc]

theorem nodup_le {n : Nat} : ∀ (l : List Nat), l.Nodup → (∀ x ∈ l, x < n) → l.length ≤ n := by
  induction n with
  | zero => intro l _ h; cases l with
    | nil => simp
    | cons x l => exact absurd (h x (by simp)) (by omega)
  | succ n ih =>
    intro l hn h
    by_cases hm : n ∈ l
    · have := ih (l.erase n) (hn.erase n) (fun x hx => by
        have := h x (List.mem_of_mem_erase hx)
        have : x ≠ n := fun e => by subst e; exact (List.Nodup.not_mem_erase hn) hx
        omega)
      rw [List.length_erase_of_mem hm] at this; omega
    · have := ih l hn (fun x hx => by have := h x hx; have : x ≠ n := fun e => hm (by rw [← e]; exact hx); omega)
      omega

/-- What holds of those that are brought at the head of a round. -/
structure ScanInv (T : Things) (roots : List Nat) (p : Nat) (ord : List Nat) : Prop where
  nodup : ord.Nodup
  sound : ∀ i ∈ ord, Reached T roots i
  root : ∀ w ∈ roots, ∀ i, findI T w = some i → i ∈ ord
  done : ∀ k, k < p → ∀ j, ord[k]? = some j → ∀ w ∈ wordsI T j, ∀ i, findI T w = some i → i ∈ ord

theorem reached_lt {T : Things} {roots : List Nat} {i : Nat} (h : Reached T roots i) : i < T.length := by
  cases h with
  | root w _ _ hi => exact findI_lt hi
  | next _ _ _ _ _ hi => exact findI_lt hi
theorem ScanInv.start (T : Things) (roots : List Nat) : ScanInv T roots 0 (stepAll T [] roots) := by
  refine ⟨stepAll_nodup _ _ List.nodup_nil, fun i hi => ?_, fun w hw i hi => ?_, fun k hk => by omega⟩
  · rw [stepAll_mem] at hi
    rcases hi with hi | ⟨w, hw, hi⟩
    · simp at hi
    · exact .root w i hw hi
  · rw [stepAll_mem]; exact .inr ⟨w, hw, hi⟩
theorem ScanInv.le {T : Things} {roots : List Nat} {p : Nat} {ord : List Nat} (h : ScanInv T roots p ord) : ord.length ≤ T.length := nodup_le ord h.nodup (fun i hi => reached_lt (h.sound i hi))
theorem ScanInv.next {T : Things} {roots : List Nat} {p : Nat} {ord : List Nat} (h : ScanInv T roots p ord) {i : Nat} (hi : ord[p]? = some i) : ScanInv T roots (p + 1) (stepAll T ord (wordsI T i)) := by
  obtain ⟨l, hl⟩ := stepAll_sub (T := T) (wordsI T i) ord
  have hp : p < ord.length := (List.getElem?_eq_some_iff.1 hi).1
  have him : i ∈ ord := List.mem_of_getElem? hi
  refine ⟨stepAll_nodup _ _ h.nodup, fun k hk => ?_, fun w hw k hk => ?_, fun k hk j hj w hw n hn => ?_⟩
  · rw [stepAll_mem] at hk
    rcases hk with hk | ⟨w, hw, hk⟩
    · exact h.sound k hk
    · exact .next i w k (h.sound i him) hw hk
  · rw [stepAll_mem]; exact .inl (h.root w hw k hk)
  · rw [stepAll_mem]
    rw [hl, List.getElem?_append_left (by omega)] at hj
    by_cases hkp : k = p
    · subst hkp; rw [hi] at hj; cases hj; exact .inr ⟨w, hw, hn⟩
    · exact .inl (h.done k (by omega) j hj w hw n hn)

theorem scan_spec {T : Things} {roots : List Nat} : ∀ (f p : Nat) (ord : List Nat), ScanInv T roots p ord → p ≤ ord.length → T.length + 1 ≤ f + p → ScanInv T roots (scan T f p ord).length (scan T f p ord) := by
  intro f
  induction f with
  | zero => intro p ord h hp hf; have := h.le; exact absurd hp (by omega)
  | succ f ih =>
    intro p ord h hp hf
    rw [scan]
    cases hi : ord[p]? with
    | none =>
      simp only
      have : ord.length ≤ p := by rw [List.getElem?_eq_none_iff] at hi; exact hi
      rw [show ord.length = p by omega]; exact h
    | some i =>
      simp only
      have hp' : p < ord.length := (List.getElem?_eq_some_iff.1 hi).1
      refine ih (p + 1) _ (h.next hi) ?_ (by omega)
      obtain ⟨l, hl⟩ := stepAll_sub (T := T) (wordsI T i) ord
      rw [hl, List.length_append]; omega

theorem bfs_inv (T : Things) (roots : List Nat) : ScanInv T roots (bfs T roots).length (bfs T roots) := scan_spec _ 0 _ (ScanInv.start T roots) (by omega) (by omega)
theorem bfs_nodup (T : Things) (roots : List Nat) : (bfs T roots).Nodup := (bfs_inv T roots).nodup
theorem bfs_mem (T : Things) (roots : List Nat) (i : Nat) : i ∈ bfs T roots ↔ Reached T roots i := by
  have h := bfs_inv T roots
  refine ⟨h.sound i, fun hr => ?_⟩
  induction hr with
  | root w i hw hi => exact h.root w hw i hi
  | next j w i _ hw hi ih =>
    obtain ⟨k, hk⟩ := List.getElem?_of_mem ih
    exact h.done k (List.getElem?_eq_some_iff.1 hk).1 j hk w hw i hi
/-- How the loop goes on. -/
theorem scan_step {T : Things} {f p : Nat} {ord : List Nat} {i : Nat} (hi : ord[p]? = some i) : scan T (f + 1) p ord = scan T f (p + 1) (stepAll T ord (wordsI T i)) := by rw [scan, hi]
theorem scan_stop {T : Things} {f p : Nat} {ord : List Nat} (h : ord.length ≤ p) : scan T f p ord = ord := by
  cases f with
  | zero => rfl
  | succ f => rw [scan, List.getElem?_eq_none_iff.2 h]
end Go.HL
