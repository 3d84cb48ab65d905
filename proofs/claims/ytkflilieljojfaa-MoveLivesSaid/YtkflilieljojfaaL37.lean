/-
  Joined: A10.
-/
import Derived.Test.YtkflilieljojfaaL36
/-
  What was brought, gone through again: plain Lean.
-/
namespace Go.HL
set_option linter.unusedSimpArgs false
set_option linter.unusedVariables false

/-- A set of things from which nothing leads out. -/
structure Closed (T : Things) (F : List Nat) : Prop where
  nodup : F.Nodup
  lt : ∀ i ∈ F, i < T.length
  step : ∀ i ∈ F, ∀ w ∈ wordsI T i, ∀ j, findI T w = some j → j ∈ F
theorem bfs_closed (T : Things) (roots : List Nat) : Closed T (bfs T roots) :=
  ⟨bfs_nodup T roots, fun i hi => reached_lt ((bfs_mem T roots i).1 hi), fun i hi w hw j hj => (bfs_mem T roots j).2 (.next i w j ((bfs_mem T roots i).1 hi) hw hj)⟩
theorem bfs_root {T : Things} {roots : List Nat} {w i : Nat} (hw : w ∈ roots) (hi : findI T w = some i) : i ∈ bfs T roots := (bfs_mem T roots i).2 (.root w i hw hi)
theorem bfs_min {T : Things} {roots F : List Nat} (hF : Closed T F) (hr : ∀ w ∈ roots, ∀ i, findI T w = some i → i ∈ F) : ∀ i ∈ bfs T roots, i ∈ F := by
  intro i hi
  have := (bfs_mem T roots i).1 hi
  clear hi
  induction this with
  | root w i hw hi' => exact hr w hw i hi'
  | next j w i hj hw hi' ih => exact hF.step j ih w hw i hi'

theorem idxOf_get {F : List Nat} (hn : F.Nodup) {n j : Nat} (h : F[n]? = some j) : F.idxOf j = n := by
  obtain ⟨h1, h2⟩ := List.getElem?_eq_some_iff.1 h
  rw [← h2]; exact hn.idxOf_getElem n h1
theorem idxOf_mem {F : List Nat} {i : Nat} (h : i ∈ F) : F[F.idxOf i]? = some i := by
  have h1 := List.idxOf_lt_length_iff.2 h
  rw [List.getElem?_eq_getElem h1, List.getElem_idxOf h1]

theorem outT_length (T : Things) (F : List Nat) : (outT T F).length = F.length := by simp [outT]
theorem outT_get {T : Things} {F : List Nat} {n j : Nat} (h : F[n]? = some j) : (outT T F)[n]? = some (fullThing T F j) := by simp [outT, h]
theorem outT_mid (T : Things) (F : List Nat) : outT T F = midT T F F.length 0 0 F := (midT_done T F F.length 0 F 0 (by omega)).symm
theorem outT_place (T : Things) (F : List Nat) (n : Nat) : placeOf (outT T F) n = sumR T (F.take n) := by rw [outT_mid, placeOf_midT]
theorem outT_used (T : Things) (F : List Nat) : usedOf (outT T F) = sumR T F := by rw [outT_mid, midT_used]
theorem outT_words {T : Things} {F : List Nat} {n j : Nat} (h : F[n]? = some j) : wordsI (outT T F) n = (wordsI T j).map (tr T F) := by
  unfold wordsI; rw [outT_get h]; simp only [fullThing]
  cases T[j]? <;> rfl
theorem outT_room {T : Things} {F : List Nat} {n j : Nat} (h : F[n]? = some j) : roomI (outT T F) n = roomI T j := by
  unfold roomI; rw [outT_get h]; simp only [fullThing]
  cases T[j]? <;> simp [Thing.room]
theorem findI_used {T : Things} {w i : Nat} (h : findI T w = some i) : w / 8 < usedOf T := by
  obtain ⟨hw, hl⟩ := findI_word h
  subst hw
  have h2 : placeOf T i + roomI T i ≤ usedOf T := by
    have := usedOf_take_succ T i hl
    have h3 : usedOf (T.take (i + 1)) ≤ usedOf T := by
      conv => rhs; rw [← List.take_append_drop (i + 1) T]
      rw [usedOf_append]; omega
    unfold placeOf; omega
  have : 0 < roomI T i := by unfold roomI; split <;> simp [Thing.room]; omega
  unfold wordAt; omega
theorem bare_none {T : Things} {w : Nat} (hu : usedOf T ≤ 65536) (h : ¬ (w % 8 = 1 ∧ w / 8 < 1099511627776)) : findI T w = none := by
  cases e : findI T w with
  | none => rfl
  | some i =>
    have h1 := findI_used e
    have h2 : w % 8 = 1 := by unfold findI at e; split at e; assumption; cases e
    exact absurd ⟨h2, by omega⟩ h
/-- A word that is brought finds what it found. -/
theorem tr_find {T : Things} {F : List Nat} (hF : Closed T F) (hu : usedOf T ≤ 65536) {w : Nat} (hw : ∀ i, findI T w = some i → i ∈ F) : findI (outT T F) (tr T F w) = (findI T w).map F.idxOf := by
  have hu' : usedOf (outT T F) ≤ 65536 := by rw [outT_used]; have := sumR_le T F hF.nodup hF.lt; omega
  unfold tr
  cases h : findI T w with
  | some i =>
    simp only [Option.map_some]
    have hi := hw i h
    have hg := idxOf_mem hi
    have e := placeIn_get (T := T) (F := F) (ord := F) (l := []) (by simp) hF.nodup hg
    rw [e, ← outT_place]
    exact word_findI (by rw [outT_length]; exact List.idxOf_lt_length_iff.2 hi)
  | none =>
    simp only [Option.map_none]
    split
    · exact bare_none hu' (by omega)
    · rename_i hh; exact bare_none hu' hh

theorem tr_stepO {T : Things} {F : List Nat} (hF : Closed T F) (hu : usedOf T ≤ 65536) {w : Nat} (hw : ∀ i, findI T w = some i → i ∈ F) {ord : List Nat} (ho : ∀ i ∈ ord, i ∈ F) :
    stepO (outT T F) (ord.map F.idxOf) (tr T F w) = (stepO T ord w).map F.idxOf := by
  unfold stepO
  rw [tr_find hF hu hw]
  cases h : findI T w with
  | none => rfl
  | some i =>
    simp only [Option.map_some]
    have hi := hw i h
    have hm : F.idxOf i ∈ ord.map F.idxOf ↔ i ∈ ord := by
      refine ⟨fun hm => ?_, fun hm => List.mem_map.2 ⟨i, hm, rfl⟩⟩
      obtain ⟨j, hj, e⟩ := List.mem_map.1 hm
      have e1 := idxOf_mem hi
      have e2 := idxOf_mem (ho j hj)
      rw [e, e1] at e2; cases e2; exact hj
    by_cases h1 : i ∈ ord
    · rw [if_pos h1, if_pos (hm.2 h1)]
    · rw [if_neg h1, if_neg (fun h => h1 (hm.1 h))]; simp
theorem stepAll_in {T : Things} {F : List Nat} {ws ord : List Nat} (hw : ∀ w ∈ ws, ∀ i, findI T w = some i → i ∈ F) (ho : ∀ i ∈ ord, i ∈ F) : ∀ i ∈ stepAll T ord ws, i ∈ F := by
  intro i hi
  rw [stepAll_mem] at hi
  rcases hi with hi | ⟨w, hw', hi⟩
  · exact ho i hi
  · exact hw w hw' i hi
theorem tr_stepAll {T : Things} {F : List Nat} (hF : Closed T F) (hu : usedOf T ≤ 65536) : ∀ (ws ord : List Nat), (∀ w ∈ ws, ∀ i, findI T w = some i → i ∈ F) → (∀ i ∈ ord, i ∈ F) →
    stepAll (outT T F) (ord.map F.idxOf) (ws.map (tr T F)) = (stepAll T ord ws).map F.idxOf
  | [], ord, _, _ => rfl
  | w :: ws, ord, hw, ho => by
    have h1 := tr_stepO hF hu (hw w (by simp)) ho
    have h2 := tr_stepAll hF hu ws (stepO T ord w) (fun x hx => hw x (by simp [hx])) (stepAll_in (ws := [w]) (fun x hx => hw x (by simp at hx; simp [hx])) ho)
    unfold stepAll at h2 ⊢
    rw [List.map_cons, List.foldl_cons, List.foldl_cons, h1, h2]
theorem tr_scan {T : Things} {F : List Nat} (hF : Closed T F) (hu : usedOf T ≤ 65536) : ∀ (f p : Nat) (ord : List Nat), (∀ i ∈ ord, i ∈ F) → scan (outT T F) f p (ord.map F.idxOf) = (scan T f p ord).map F.idxOf
  | 0, _, _, _ => rfl
  | f + 1, p, ord, ho => by
    rw [scan, scan, List.getElem?_map]
    cases h : ord[p]? with
    | none => rfl
    | some i =>
      simp only [Option.map_some]
      have hi := ho i (List.mem_of_getElem? h)
      have hs := hF.step i hi
      rw [outT_words (idxOf_mem hi), tr_stepAll hF hu _ _ hs ho]
      exact tr_scan hF hu f (p + 1) _ (stepAll_in hs ho)

theorem scan_fuel {T : Things} {roots : List Nat} : ∀ (f p : Nat) (ord : List Nat), ScanInv T roots p ord → p ≤ ord.length → T.length + 1 ≤ f + p → scan T (f + 1) p ord = scan T f p ord := by
  intro f
  induction f with
  | zero => intro p ord h hp hf; have := h.le; exact absurd hp (by omega)
  | succ f ih =>
    intro p ord h hp hf
    rw [scan, scan]
    cases hi : ord[p]? with
    | none => rfl
    | some i =>
      simp only
      have hp' : p < ord.length := (List.getElem?_eq_some_iff.1 hi).1
      obtain ⟨l, hl⟩ := stepAll_sub (T := T) (wordsI T i) ord
      exact ih (p + 1) _ (h.next hi) (by rw [hl, List.length_append]; omega) (by omega)
theorem bfs_fuel (T : Things) (roots : List Nat) : ∀ (k : Nat), scan T (T.length + 1 + k) 0 (stepAll T [] roots) = bfs T roots
  | 0 => rfl
  | k + 1 => by
    rw [← bfs_fuel T roots k, ← Nat.add_assoc]
    exact scan_fuel _ 0 _ (ScanInv.start T roots) (by omega) (by omega)
/-- What is reached of what was brought. -/
theorem tr_bfs {T : Things} {F : List Nat} (hF : Closed T F) (hu : usedOf T ≤ 65536) {rs : List Nat} (hr : ∀ w ∈ rs, ∀ i, findI T w = some i → i ∈ F) : bfs (outT T F) (rs.map (tr T F)) = (bfs T rs).map F.idxOf := by
  have hle : F.length ≤ T.length := nodup_le F hF.nodup hF.lt
  have h1 := tr_stepAll hF hu rs [] hr (by simp)
  rw [List.map_nil] at h1
  have h2 := tr_scan hF hu (T.length + 1) 0 (stepAll T [] rs) (stepAll_in hr (by simp))
  have h3 := bfs_fuel (outT T F) (rs.map (tr T F)) (T.length - F.length)
  rw [outT_length, show F.length + 1 + (T.length - F.length) = T.length + 1 by omega, h1, h2] at h3
  rw [← h3]; rfl
theorem tr_sumR {T : Things} {F : List Nat} : ∀ (ord : List Nat), (∀ i ∈ ord, i ∈ F) → sumR (outT T F) (ord.map F.idxOf) = sumR T ord
  | [], _ => rfl
  | i :: ord, h => by
    have := tr_sumR (T := T) ord (fun j hj => h j (by simp [hj]))
    unfold sumR at this ⊢
    rw [List.map_cons, List.map_cons, List.sum_cons, this, outT_room (idxOf_mem (h i (by simp))), List.map_cons, List.sum_cons]
theorem idxOf_range {F : List Nat} (hn : F.Nodup) : F.map F.idxOf = List.range F.length := by
  apply List.ext_getElem?
  intro n
  rw [List.getElem?_map]
  cases h : F[n]? with
  | none =>
    have : F.length ≤ n := List.getElem?_eq_none_iff.1 h
    simp [this]
  | some j =>
    have h1 := (List.getElem?_eq_some_iff.1 h).1
    rw [Option.map_some, idxOf_get hn h, List.getElem?_range h1]
theorem sumR_mono {T : Things} : ∀ (A B : List Nat), A.Nodup → (∀ x ∈ A, x ∈ B) → sumR T A ≤ sumR T B
  | [], B, _, _ => by simp [sumR]
  | a :: A, B, hn, h => by
    rw [List.nodup_cons] at hn
    have ha := h a (by simp)
    have hp := List.perm_cons_erase ha
    have e : sumR T B = roomI T a + sumR T (B.erase a) := by unfold sumR; rw [(hp.map (roomI T)).sum_nat]; simp
    have := sumR_mono (T := T) A (B.erase a) hn.2 (fun x hx => by
      have hne : x ≠ a := fun e => hn.1 (e ▸ hx)
      exact (List.mem_erase_of_ne hne).2 (h x (by simp [hx])))
    have e2 : sumR T (a :: A) = roomI T a + sumR T A := by simp [sumR]
    omega
theorem sumR_same {T : Things} {A B : List Nat} (ha : A.Nodup) (hb : B.Nodup) (h : ∀ x, x ∈ A ↔ x ∈ B) : sumR T A = sumR T B :=
  Nat.le_antisymm (sumR_mono A B ha fun x hx => (h x).1 hx) (sumR_mono B A hb fun x hx => (h x).2 hx)
theorem bfs_mono {T : Things} {rs rs' : List Nat} (h : ∀ w ∈ rs, w ∈ rs') : ∀ i ∈ bfs T rs, i ∈ bfs T rs' :=
  bfs_min (bfs_closed T rs') (fun w hw i hi => bfs_root (h w hw) hi)
theorem bfs_union {T : Things} {a b : List Nat} : ∀ i ∈ bfs T (a ++ b), i ∈ bfs T a ∨ i ∈ bfs T b := by
  intro i hi
  have := (bfs_mem T (a ++ b) i).1 hi
  clear hi
  induction this with
  | root w i hw hi' =>
    rcases List.mem_append.1 hw with hw | hw
    · exact .inl (bfs_root hw hi')
    · exact .inr (bfs_root hw hi')
  | next j w i hj hw hi' ih =>
    rcases ih with h | h
    · exact .inl ((bfs_closed T a).step j h w hw i hi')
    · exact .inr ((bfs_closed T b).step j h w hw i hi')
theorem sumR_union {T : Things} {a b : List Nat} : sumR T (bfs T (a ++ b)) ≤ sumR T (bfs T a) + sumR T (bfs T b) := by
  rw [← sumR_append]
  exact sumR_mono _ _ (bfs_nodup _ _) (fun x hx => List.mem_append.2 (bfs_union x hx))
/-- Words that are no places but those of things. -/
def Clean (T : Things) (w : Nat) : Prop := findI T w = none → ¬ (w % 8 = 1 ∧ w / 8 < 1099511627776)
theorem tr_clean {T : Things} {F : List Nat} (hF : Closed T F) (hu : usedOf T ≤ 65536) {w : Nat} (hw : ∀ i, findI T w = some i → i ∈ F) : Clean (outT T F) (tr T F w) := by
  intro h
  rw [tr_find hF hu hw] at h
  have h' : findI T w = none := by cases e : findI T w with
    | none => rfl
    | some i => rw [e] at h; cases h
  unfold tr; rw [h']; simp only
  split
  · omega
  · rename_i hh; exact hh
theorem placeIn_range {T : Things} {n : Nat} (l : List Nat) {i : Nat} (h : i < n) : placeIn T (List.range n ++ l) i = sumR T (List.range i) := by
  rw [placeIn_get (ord := List.range n) (l := l) rfl List.nodup_range (n := i) (j := i) (by simp [h]), List.take_range, Nat.min_eq_left (by omega)]
theorem sumR_range (T : Things) : ∀ (n : Nat), n ≤ T.length → sumR T (List.range n) = placeOf T n
  | 0, _ => by simp [sumR, placeOf, usedOf]
  | n + 1, h => by
    rw [List.range_succ, sumR_append, sumR_one, sumR_range T n (by omega)]
    unfold placeOf
    rw [usedOf_take_succ T n (by omega)]
/-- A word of a first row of things stays. -/
theorem tr_stay {T : Things} {n : Nat} (l : List Nat) (hn : n ≤ T.length) {w : Nat} (hc : Clean T w) (hw : ∀ i, findI T w = some i → i < n) : tr T (List.range n ++ l) w = w := by
  unfold tr
  cases h : findI T w with
  | none => simp only; rw [if_neg (hc h)]
  | some i =>
    simp only
    have hi := hw i h
    rw [placeIn_range l hi, sumR_range T i (by omega)]
    exact (findI_word h).1.symm
/-- All of it is reached, in its order: it stays as it is. -/
theorem live_id {T : Things} (hc : ∀ t ∈ T, ∀ w ∈ t.l, Clean T w) : outT T (List.range T.length) = T := by
  apply List.ext_getElem?
  intro n
  rcases Nat.lt_or_ge n T.length with h | h
  · have hg : (List.range T.length)[n]? = some n := by simp [h]
    rw [outT_get hg]
    unfold fullThing
    rw [List.getElem?_eq_getElem h]
    simp only
    have : (T[n].l.map (tr T (List.range T.length))) = T[n].l := by
      conv => rhs; rw [← List.map_id T[n].l]
      apply List.map_congr_left
      intro w hw
      have := tr_stay (T := T) (n := T.length) [] (Nat.le_refl _) (hc _ (List.getElem_mem h) w hw) (fun i hi => findI_lt hi)
      rw [List.append_nil] at this
      rw [this]; rfl
    rw [this]
  · rw [List.getElem?_eq_none_iff.2 (by rw [outT_length]; simpa using h), List.getElem?_eq_none_iff.2 h]
theorem outT_clean {T : Things} {F : List Nat} (hF : Closed T F) (hu : usedOf T ≤ 65536) : ∀ t ∈ outT T F, ∀ w ∈ t.l, Clean (outT T F) w := by
  intro t ht w hw
  obtain ⟨i, hi, rfl⟩ := List.mem_map.1 ht
  unfold fullThing at hw
  cases hT : T[i]? with
  | none => rw [hT] at hw; simp at hw
  | some u =>
    rw [hT] at hw
    simp only [List.mem_map] at hw
    obtain ⟨x, hx, rfl⟩ := hw
    exact tr_clean hF hu (hF.step i hi x (by unfold wordsI; rw [hT]; exact hx))
end Go.HL
