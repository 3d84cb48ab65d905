/-
  Joined: A11.
-/
import Derived.Test.YtkflilieljojfaaL38
/-
  A thing more behind what was brought: plain Lean.
-/
namespace Go.HL
set_option linter.unusedSimpArgs false
set_option linter.unusedVariables false

theorem ixP_append : ∀ (T T' : Things) (p i : Nat), ixP T p = some i → ixP (T ++ T') p = some i
  | [], _, _, _, h => by simp [ixP] at h
  | t :: T, T', p, i, h => by
    rw [ixP] at h
    rw [List.cons_append, ixP]
    by_cases h0 : p = 0
    · rw [if_pos h0] at h ⊢; exact h
    · rw [if_neg h0] at h ⊢
      by_cases h1 : p < t.room
      · rw [if_pos h1] at h; cases h
      · rw [if_neg h1] at h ⊢
        rw [Option.map_eq_some_iff] at h ⊢
        obtain ⟨j, hj, rfl⟩ := h
        exact ⟨j, ixP_append T T' _ j hj, rfl⟩
theorem findI_append {T T' : Things} {w i : Nat} (h : findI T w = some i) : findI (T ++ T') w = some i := by
  unfold findI at h ⊢
  split at h
  · rename_i h8; rw [if_pos h8]; exact ixP_append _ _ _ _ h
  · cases h
theorem findI_more {T T' : Things} {w : Nat} (hu : usedOf (T ++ T') ≤ 65536) (hc : Clean T w) : findI (T ++ T') w = findI T w := by
  cases h : findI T w with
  | some i => exact findI_append h
  | none => exact bare_none hu (hc h)
theorem wordsI_append {T T' : Things} {i : Nat} (h : i < T.length) : wordsI (T ++ T') i = wordsI T i := by unfold wordsI; rw [List.getElem?_append_left h]
theorem wordsI_mem {T : Things} {i w : Nat} (h : w ∈ wordsI T i) : ∃ t ∈ T, w ∈ t.l := by
  unfold wordsI at h
  cases e : T[i]? with
  | none => rw [e] at h; simp at h
  | some t => rw [e] at h; exact ⟨t, List.mem_of_getElem? e, h⟩

theorem more_thing {T : Things} {l : List Nat} {t : Thing} (hu : usedOf (T ++ [t]) ≤ 65536) (hr : bfs T l = List.range T.length) (hc : ∀ w ∈ l, Clean T w) (hcT : ∀ u ∈ T, ∀ w ∈ u.l, Clean T w) (ht : ∀ w ∈ t.l, w % 8 ≠ 1) :
    sumR (T ++ [t]) (bfs (T ++ [t]) (l ++ [wordAt (usedOf T)])) = usedOf (T ++ [t]) ∧
    l.map (tr (T ++ [t]) (bfs (T ++ [t]) (l ++ [wordAt (usedOf T)]))) = l ∧
    kindN (outT (T ++ [t]) (bfs (T ++ [t]) (l ++ [wordAt (usedOf T)]))) (tr (T ++ [t]) (bfs (T ++ [t]) (l ++ [wordAt (usedOf T)])) (wordAt (usedOf T))) = t.kind := by
  have hlen : (T ++ [t]).length = T.length + 1 := by simp
  have hpl : placeOf (T ++ [t]) T.length = usedOf T := by unfold placeOf; rw [List.take_left]
  have hfn : findI (T ++ [t]) (wordAt (usedOf T)) = some T.length := by rw [← hpl]; exact word_findI (by omega)
  have hcl := bfs_closed (T ++ [t]) (l ++ [wordAt (usedOf T)])
  have hfl : ∀ w ∈ l, findI (T ++ [t]) w = findI T w := fun w hw => findI_more hu (hc w hw)
  have hall : ∀ i, i < T.length + 1 → i ∈ bfs (T ++ [t]) (l ++ [wordAt (usedOf T)]) := by
    intro i hi
    rcases Nat.lt_or_ge i T.length with h | h
    · have hm : i ∈ bfs T l := by rw [hr]; simpa using h
      have hre := (bfs_mem T l i).1 hm
      clear hm h hi
      induction hre with
      | root w i hw hi => exact bfs_root (List.mem_append_left _ hw) (findI_append hi)
      | next j w i hj hw hi ih => exact hcl.step j ih w (by rw [wordsI_append (reached_lt hj)]; exact hw) i (findI_append hi)
    · rw [show i = T.length by omega]
      exact bfs_root (by simp) hfn
  refine ⟨?_, ?_, ?_⟩
  · have : sumR (T ++ [t]) (bfs (T ++ [t]) (l ++ [wordAt (usedOf T)])) = sumR (T ++ [t]) (List.range (T ++ [t]).length) := by
      refine sumR_same hcl.nodup List.nodup_range (fun x => ⟨fun hx => by have := hcl.lt x hx; simpa using this, fun hx => hall x (by simpa [hlen] using hx)⟩)
    rw [this, sumR_range _ _ (Nat.le_refl _)]
    unfold placeOf; rw [List.take_length]
  · -- the first ones
    have hst : stepAll (T ++ [t]) [] l = stepAll T [] l := by
      have : ∀ (ws ord : List Nat), (∀ w ∈ ws, w ∈ l) → stepAll (T ++ [t]) ord ws = stepAll T ord ws := by
        intro ws
        induction ws with
        | nil => intro ord _; rfl
        | cons w ws ih =>
          intro ord h
          have := ih (stepO T ord w) (fun x hx => h x (by simp [hx]))
          unfold stepAll at this ⊢
          rw [List.foldl_cons, List.foldl_cons, ← this]
          unfold stepO
          rw [hfl w (h w (by simp))]
      exact this l [] (fun _ h => h)
    obtain ⟨e1, he1⟩ := scan_sub (T := T) (T.length + 1) 0 (stepAll T [] l)
    have hpre : stepAll T [] l ++ e1 = List.range T.length := by rw [← he1]; exact hr
    obtain ⟨r, hr1, hr2⟩ : ∃ r, stepAll T [] l = List.range r ∧ r ≤ T.length := by
      refine ⟨(stepAll T [] l).length, ?_, ?_⟩
      · have := congrArg (List.take (stepAll T [] l).length) hpre
        rw [List.take_left] at this
        rw [this, List.take_range, List.length_range]
      · have := congrArg List.length hpre
        simp at this; omega
    have hF : ∃ e2, bfs (T ++ [t]) (l ++ [wordAt (usedOf T)]) = List.range r ++ e2 := by
      unfold bfs
      obtain ⟨e2, he2⟩ := scan_sub (T := T ++ [t]) ((T ++ [t]).length + 1) 0 (stepAll (T ++ [t]) [] (l ++ [wordAt (usedOf T)]))
      rw [he2]
      obtain ⟨e3, he3⟩ := stepAll_sub (T := T ++ [t]) [wordAt (usedOf T)] (stepAll (T ++ [t]) [] l)
      have : stepAll (T ++ [t]) [] (l ++ [wordAt (usedOf T)]) = stepAll (T ++ [t]) (stepAll (T ++ [t]) [] l) [wordAt (usedOf T)] := by unfold stepAll; rw [List.foldl_append]
      rw [this, he3, hst, hr1, List.append_assoc]
      exact ⟨_, rfl⟩
    obtain ⟨e2, hF⟩ := hF
    rw [hF]
    conv => rhs; rw [← List.map_id l]
    apply List.map_congr_left
    intro w hw
    refine tr_stay e2 (by omega) (fun hn => hc w hw (by rw [← hfl w hw]; exact hn)) (fun i hi => ?_)
    rw [hfl w hw] at hi
    have : i ∈ stepAll T [] l := by rw [stepAll_mem]; exact .inr ⟨w, hw, hi⟩
    rw [hr1] at this; simpa using this
  · have h1 := tr_find hcl hu (w := wordAt (usedOf T)) (fun i hi => by rw [hfn] at hi; cases hi; exact hall _ (by omega))
    rw [hfn, Option.map_some] at h1
    unfold kindN
    rw [findT_findI, h1, Option.bind_some, outT_get (idxOf_mem (hall T.length (by omega)))]
    unfold fullThing
    rw [List.getElem?_append_right (Nat.le_refl _), Nat.sub_self]; rfl
end Go.HL
