/-
  Walks: what is brought, by the order in which it is.
-/
import Derived.Test.YtakjligkeplohaaGreatDoorPFC4
import Derived.Test.YtakjligkeplohaaGreatDoorPFA5
set_option linter.unusedVariables false
set_option linter.unusedSimpArgs false
namespace Go.HL
open Go.RowKit Go.Proofs
set_option maxHeartbeats 4000000
set_option maxRecDepth 100000
set_option linter.unusedSimpArgs false
set_option linter.unusedVariables false

abbrev LvAt (H : HHeap) (m g' gw' gh' mm g size : Nat) (T : Things) (F ord : List Nat) (p q : Nat) (mv : Value) : Prop :=
  MvAt H m g' gw' gh' mm g size (midT T F p q 0 ord) (wentO T F ord) (madeO T F ord) mv

/-- What else there is stays. -/
structure Stays (H H' : HHeap) (m g' gw' gh' mm : Nat) (mv mv' : Value) : Prop where
  next : H.next ≤ H'.next
  same : ∀ b, b < H.next → b ≠ m → b ≠ g' → b ≠ gw' → b ≠ gh' → b ≠ mm → b ∉ vblk mv → H'.get b = H.get b
  mine : ∀ b ∈ vblk mv', b ∈ vblk mv ∨ H.next ≤ b
theorem Stays.refl (H : HHeap) (m g' gw' gh' mm : Nat) (mv : Value) : Stays H H m g' gw' gh' mm mv mv := ⟨Nat.le_refl _, fun _ _ _ _ _ _ _ _ => rfl, fun _ h => .inl h⟩
theorem Stays.trans {H H' H'' : HHeap} {m g' gw' gh' mm : Nat} {mv mv' mv'' : Value} (a : Stays H H' m g' gw' gh' mm mv mv') (b : Stays H' H'' m g' gw' gh' mm mv' mv'') : Stays H H'' m g' gw' gh' mm mv mv'' := by
  refine ⟨Nat.le_trans a.next b.next, fun x h0 h1 h2 h3 h4 h5 h6 => ?_, fun x hx => ?_⟩
  · rw [b.same x (Nat.lt_of_lt_of_le h0 a.next) h1 h2 h3 h4 h5 (fun hm => by
      rcases a.mine x hm with h | h
      · exact h6 h
      · omega), a.same x h0 h1 h2 h3 h4 h5 h6]
  · rcases b.mine x hx with h | h
    · exact a.mine x h
    · have := a.next; right; omega

theorem findI_none {T : Things} {w : Nat} (h : findT T w = none) : findI T w = none := by
  cases hi : findI T w with
  | none => rfl
  | some i =>
    have hl := findI_lt hi
    rw [findT_findI, hi] at h
    simp [hl] at h
theorem findI_some {T : Things} {w : Nat} {t : Thing} (h : findT T w = some t) : ∃ i, findI T w = some i ∧ T[i]? = some t := by
  rw [findT_findI] at h
  cases hi : findI T w with
  | none => rw [hi] at h; simp at h
  | some i => rw [hi] at h; exact ⟨i, rfl, by simpa using h⟩

theorem bringO (H : HHeap) (m g' gw' gh' mm g gw gh size0 size : Nat) (T : Things) (F ord : List Nat) (p q : Nat) (mv : Value) (hM : LvAt H m g' gw' gh' mm g size T F ord p q mv)
    (hA : AtA H g gw gh size0 T) (hAlt : g < H.next ∧ gw < H.next ∧ gh < H.next) (w : Nat) (hw : w < 18446744073709551616)
    (hF : ∃ l, F = stepO T ord w ++ l) (hnd : ord.Nodup) (hlt : ∀ x ∈ ord, x < T.length) (hpq : p < ord.length ∨ p = ord.length ∧ q = 0) (hsz : usedOf T ≤ size) (R : Value → HHeap → Prop)
    (hR : ∀ H' mv', LvAt H' m g' gw' gh' mm g size T F (stepO T ord w) p q mv' → Stays H H' m g' gw' gh' mm mv mv' → R (U (tr T F w)) H') : HCalls Tryz.prog 152 [ptr m 0, U w] H R := by
  obtain ⟨l, hF⟩ := hF
  refine move_bring H m g' gw' gh' mm g gw gh size0 size T _ _ _ mv hM hA hAlt w hw ?_ R ?_ ?_ ?_
  · intro t ht hlk
    obtain ⟨i, hi, hti⟩ := findI_some ht
    rw [wentO_lookup hi ord hlt] at hlk
    have him : i ∉ ord := fun e => by simp [e] at hlk
    rw [midT_used]
    have h1 := sumR_le T (ord ++ [i]) (List.nodup_append.2 ⟨hnd, by simp, fun a ha b hb => by simp at hb; subst hb; exact fun e => him (by rw [← e]; exact ha)⟩) (fun x hx => by
      rcases List.mem_append.1 hx with hx | hx
      · exact hlt x hx
      · rw [List.mem_singleton.1 hx]; exact findI_lt hi)
    rw [sumR_append, sumR_one] at h1
    have : roomI T i = t.room := by unfold roomI; rw [hti]
    omega
  · intro hn
    have hi := findI_none hn
    have e1 : stepO T ord w = ord := by unfold stepO; rw [hi]
    have e2 : tr T F w = bareN w := by unfold tr bareN; rw [hi]
    have := hR H mv (by rw [e1]; exact hM) (Stays.refl _ _ _ _ _ _ _)
    rw [e2] at this; exact this
  · intro t x ht hlk
    obtain ⟨i, hi, hti⟩ := findI_some ht
    rw [wentO_lookup hi ord hlt] at hlk
    have him : i ∈ ord := by
      by_cases e : i ∈ ord
      · exact e
      · simp [e] at hlk
    rw [if_pos him] at hlk
    cases hlk
    have e1 : stepO T ord w = ord := by unfold stepO; rw [hi]; simp [him]
    have e2 : tr T F w = wordAt (placeIn T F i) := by unfold tr; rw [hi]
    have := hR H mv (by rw [e1]; exact hM) (Stays.refl _ _ _ _ _ _ _)
    rw [e2] at this; exact this
  · intro t H' mv' ht hlk hM' f1 f2 f3
    obtain ⟨i, hi, hti⟩ := findI_some ht
    rw [wentO_lookup hi ord hlt] at hlk
    have him : i ∉ ord := fun e => by simp [e] at hlk
    have e1 : stepO T ord w = ord ++ [i] := by unfold stepO; rw [hi]; simp [him]
    have e2 : tr T F w = wordAt (placeIn T F i) := by unfold tr; rw [hi]
    have e3 : placeIn T F i = sumR T ord := by rw [hF, e1, List.append_assoc]; exact placeIn_new T i l ord him
    rw [midT_used, ← e3] at hM' ⊢
    have e4 : midT T F p q 0 (ord ++ [i]) = midT T F p q 0 ord ++ [t] := by
      rw [midT_append]; simp only [midT]
      rw [midThing_new hti (by omega)]
    have e5 : wentO T F (ord ++ [i]) = wentO T F ord ++ [(w, wordAt (placeIn T F i))] := by
      unfold wentO; rw [List.map_append, List.map_cons, List.map_nil, ← (findI_word hi).1]
    have e6 : madeO T F (ord ++ [i]) = madeO T F ord ++ [wordAt (placeIn T F i)] := by simp [madeO]
    rw [← e2]
    refine hR H' mv' ?_ ⟨f1, f2, f3⟩
    rw [e1]
    show MvAt _ _ _ _ _ _ _ _ _ _ _ _
    rw [e4, e5, e6]; exact hM'
end Go.HL
