/-
  Joined: C6.
-/
import Derived.Test.YtkflilieljojfaaL23
/-
  Walks: helps for what is kept.
-/
namespace Go.HL
open Go.RowKit Go.Proofs
set_option maxHeartbeats 4000000
set_option maxRecDepth 100000
set_option linter.unusedSimpArgs false
set_option linter.unusedVariables false

theorem wcells_set {size : Nat} {T : Things} {n i x : Nat} {t : Thing} (h : T[n]? = some t) (hi : i < t.l.length) :
    (wcells size T).set (placeOf T n + 1 + i) (U x) = wcells size (T.set n ⟨t.kind, t.l.set i x⟩) := by
  have hlen := lens_set T n t ⟨t.kind, t.l.set i x⟩ h (by simp)
  have hu : usedOf (T.set n ⟨t.kind, t.l.set i x⟩) = usedOf T := usedOf_congr _ _ hlen
  have hp : placeOf T n + 1 + i < usedOf T := by
    have hn := (List.getElem?_eq_some_iff.1 h).1
    have e : atP T (placeOf T n) = some t := by rw [atP_ixP, ixP_place T n hn]; simpa using h
    have := (atP_words T _ t e).1
    unfold Thing.room at this; omega
  unfold wcells
  rw [hu, ← wordsOf_set T n i x t h hi, List.set_append_left _ _ (by simpa [wordsOf_length] using hp), List.map_set]
theorem AtA.set {H : HHeap} {g gw gh size : Nat} {T : Things} (hA : AtA H g gw gh size T) {n i x : Nat} {t : Thing} (h : T[n]? = some t) (hi : i < t.l.length) (hx : x < 18446744073709551616) :
    AtA (H.set gw (.cells ((wcells size T).set (placeOf T n + 1 + i) (U x)) true)) g gw gh size (T.set n ⟨t.kind, t.l.set i x⟩) := by
  have hlen := lens_set T n t ⟨t.kind, t.l.set i x⟩ h (by simp)
  have hu : usedOf (T.set n ⟨t.kind, t.l.set i x⟩) = usedOf T := usedOf_congr _ _ hlen
  have hh : headsOf (T.set n ⟨t.kind, t.l.set i x⟩) = headsOf T := headsOf_congr _ _ hlen
  have n1 := hA.ne1
  have n2 := hA.ne2
  have n3 := hA.ne3
  refine ⟨?_, ?_, ?_, by rw [hu]; exact hA.room, hA.big, hA.pos, ?_, n1, n2, n3⟩
  · simp (disch := first | omega | (simp only [nx_push, nx_set, nx_kill]; done) | (simp only [nx_push, nx_set, nx_kill]; omega)) only [get_push_ne, get_push_eq, get_set_ne, get_set_eq, get_kill_ne, nx_push, nx_set, nx_kill]; rw [hA.a]; simp only [acells, hu]
  · simp (disch := first | omega | (simp only [nx_push, nx_set, nx_kill]; done) | (simp only [nx_push, nx_set, nx_kill]; omega)) only [get_push_ne, get_push_eq, get_set_ne, get_set_eq, get_kill_ne, nx_push, nx_set, nx_kill]; rw [wcells_set h hi]
  · simp (disch := first | omega | (simp only [nx_push, nx_set, nx_kill]; done) | (simp only [nx_push, nx_set, nx_kill]; omega)) only [get_push_ne, get_push_eq, get_set_ne, get_set_eq, get_kill_ne, nx_push, nx_set, nx_kill]; rw [hA.h]; simp only [hcells, hh, hu]
  · intro u hu'
    rcases List.mem_or_eq_of_mem_set hu' with h1 | h1
    · exact hA.ok u h1
    · subst h1
      have hk := hA.ok t (List.mem_of_getElem? h)
      refine ⟨hk.k1, hk.k9, by simpa using hk.len, fun y hy => ?_⟩
      rcases List.mem_or_eq_of_mem_set hy with h2 | h2
      · exact hk.words y h2
      · rw [h2]; exact hx

theorem arena_Set1 (H : HHeap) (g gw gh size : Nat) (T : Things) (hA : AtA H g gw gh size T) (n i x : Nat) (t : Thing) (h : T[n]? = some t) (hi : i < t.l.length) (hx : x < 18446744073709551616) (R : Value → HHeap → Prop)
   (hR : R (I 0) (H.set gw (.cells ((wcells size T).set (placeOf T n + 1 + i) (U x)) true))) : HCalls Try.prog 26 [ptr g 0, U (wordAt (placeOf T n)), I i, U x] H R := by
  have hn := (List.getElem?_eq_some_iff.1 h).1
  have hroom := hA.room
  have hbig := hA.big
  have hf : findT T (wordAt (placeOf T n)) = some t := by rw [findT_findI, word_findI hn]; simpa using h
  have ha : atP T (placeOf T n) = some t := by rw [atP_ixP, ixP_place T n hn]; simpa using h
  have hp := (atP_words T _ t ha).1
  unfold Thing.room at hp
  have hd : wordAt (placeOf T n) / 8 = placeOf T n := by unfold wordAt; omega
  refine HCalls.of_hw Try.func26 rfl _ Try.ntmps26 _ (by rw [Try.results26]) ?_
  rw [hframe0_eq _ _ (by simp)]
  simp only [List.zipIdx_cons, List.zipIdx_nil, List.map_cons, List.map_nil, Nat.reduceAdd]
  simp (disch := first | omega | (show allOne _ = true; simp [allOne, Value.oneCell']) | (simp only [List.length_cons, List.length_nil, List.length_set, List.length_map, List.length_replicate, List.length_append, List.length_take, List.length_drop, Int.toNat_natCast, Int.toNat_of_nonneg, nx_push, nx_set, nx_kill]; done) | (simp only [List.length_cons, List.length_nil, List.length_set, List.length_map, List.length_replicate, List.length_append, List.length_take, List.length_drop, Int.toNat_natCast, Int.toNat_of_nonneg, nx_push, nx_set, nx_kill]; omega)) only [go_sem, reduceCtorEq, Nat.reduceAdd, Nat.reduceSub, Nat.reduceMul, Nat.reduceLT, Nat.reduceLeDiff, Nat.reduceEqDiff, Nat.reduceBEq, Nat.reduceBNe, Int.reduceBEq, Int.reduceEq, Int.reduceLT, Int.reduceLE, Int.reduceAdd, Int.reduceSub, ↓reduceIte, Int.reduceToNat, Nat.reduceShiftRight, Nat.reduceAnd]
  refine arena_at _ _ _ _ _ _ hA _ (by unfold wordAt; omega) i _ ?_
  have hl := wcells_length hA.room
  rw [atV, hf]
  simp only
  rw [if_pos (by omega), hd]
  simp (disch := first | omega | (show allOne _ = true; simp [allOne, Value.oneCell']) | (simp only [List.length_cons, List.length_nil, List.length_set, List.length_map, List.length_replicate, List.length_append, List.length_take, List.length_drop, Int.toNat_natCast, Int.toNat_of_nonneg, nx_push, nx_set, nx_kill]; done) | (simp only [List.length_cons, List.length_nil, List.length_set, List.length_map, List.length_replicate, List.length_append, List.length_take, List.length_drop, Int.toNat_natCast, Int.toNat_of_nonneg, nx_push, nx_set, nx_kill]; omega)) only [go_sem, reduceCtorEq, Nat.reduceAdd, Nat.reduceSub, Nat.reduceMul, Nat.reduceLT, Nat.reduceLeDiff, Nat.reduceEqDiff, Nat.reduceBEq, Nat.reduceBNe, Int.reduceBEq, Int.reduceEq, Int.reduceLT, Int.reduceLE, Int.reduceAdd, Int.reduceSub, ↓reduceIte, Int.reduceToNat, Nat.reduceShiftRight, Nat.reduceAnd, hA.w, stc_cells]
  exact hR

/-- A word more, behind a row that grew by append alone. -/
theorem append_one (H : HHeap) (v : Value) (l : List Nat) (x : Nat) (hv : MadeAt H v l) (hl : l.length ≤ 1073741824) :
    ∃ v' H', apd (H.push (.cells [U x] true)) 1 8 v ([U x], 1) = some (v', H') ∧ MadeAt H' v' (l ++ [x]) ∧ H.next ≤ H'.next ∧ (∀ b, b < H.next → b ∉ vblk v → H'.get b = H.get b) ∧ (∀ b ∈ vblk v', H.next ≤ b) := by
  rcases hv with ⟨rfl, rfl⟩ | ⟨mb, md, rfl, mbl, mbg⟩
  · refine ⟨.slice (some ⟨H.next + 1, 0, some 2⟩) 1 1, (H.push (.cells [U x] true)).push (.cells [U x] true), ?_, ?_, ?_, ?_, ?_⟩
    · rw [apd_nil _ _ _ _ (by omega) (by omega) (by omega)]; rfl
    · exact .inr ⟨H.next + 1, by simp, by simp, by simp (disch := first | omega | (simp only [nx_push, nx_set, nx_kill]; done) | (simp only [nx_push, nx_set, nx_kill]; omega)) only [get_push_ne, get_push_eq, get_set_ne, get_set_eq, get_kill_ne, nx_push, nx_set, nx_kill]; omega, by simp (disch := first | omega | (simp only [nx_push, nx_set, nx_kill]; done) | (simp only [nx_push, nx_set, nx_kill]; omega)) only [get_push_ne, get_push_eq, get_set_ne, get_set_eq, get_kill_ne, nx_push, nx_set, nx_kill]; rfl⟩
    · simp (disch := first | omega | (simp only [nx_push, nx_set, nx_kill]; done) | (simp only [nx_push, nx_set, nx_kill]; omega)) only [get_push_ne, get_push_eq, get_set_ne, get_set_eq, get_kill_ne, nx_push, nx_set, nx_kill]; omega
    · intro b hb _; simp (disch := first | omega | (simp only [nx_push, nx_set, nx_kill]; done) | (simp only [nx_push, nx_set, nx_kill]; omega)) only [get_push_ne, get_push_eq, get_set_ne, get_set_eq, get_kill_ne, nx_push, nx_set, nx_kill]
    · intro b hb; simp [vblk] at hb; omega
  · refine ⟨.slice (some ⟨H.next + 1, 0, some 2⟩) (l.length + 1) (l.length + 1), ((H.push (.cells [U x] true)).kill mb).push (.cells (l.map U ++ [U x]) true), ?_, ?_, ?_, ?_, ?_⟩
    · rw [apd_some _ _ _ _ _ _ _ _ _ (by omega) (by omega) (by omega)]
      have : (H.push (HObj.cells [U x] true)).get mb = some (.cells (l.map U) true) := by simp (disch := first | omega | (simp only [nx_push, nx_set, nx_kill]; done) | (simp only [nx_push, nx_set, nx_kill]; omega)) only [get_push_ne, get_push_eq, get_set_ne, get_set_eq, get_kill_ne, nx_push, nx_set, nx_kill]; exact mbg
      rw [this, apo_grow1 _ _ _ _ _ (by omega) (by simp)]
      simp (disch := first | omega | (simp only [nx_push, nx_set, nx_kill]; done) | (simp only [nx_push, nx_set, nx_kill]; omega)) only [get_push_ne, get_push_eq, get_set_ne, get_set_eq, get_kill_ne, nx_push, nx_set, nx_kill]
    · exact .inr ⟨H.next + 1, by simp, by simp, by simp (disch := first | omega | (simp only [nx_push, nx_set, nx_kill]; done) | (simp only [nx_push, nx_set, nx_kill]; omega)) only [get_push_ne, get_push_eq, get_set_ne, get_set_eq, get_kill_ne, nx_push, nx_set, nx_kill]; omega, by simp (disch := first | omega | (simp only [nx_push, nx_set, nx_kill]; done) | (simp only [nx_push, nx_set, nx_kill]; omega)) only [get_push_ne, get_push_eq, get_set_ne, get_set_eq, get_kill_ne, nx_push, nx_set, nx_kill]; simp⟩
    · simp (disch := first | omega | (simp only [nx_push, nx_set, nx_kill]; done) | (simp only [nx_push, nx_set, nx_kill]; omega)) only [get_push_ne, get_push_eq, get_set_ne, get_set_eq, get_kill_ne, nx_push, nx_set, nx_kill]; omega
    · intro b hb hb2
      have : b ≠ mb := fun e => hb2 (by simp [vblk, e])
      simp (disch := first | omega | (simp only [nx_push, nx_set, nx_kill]; done) | (simp only [nx_push, nx_set, nx_kill]; omega)) only [get_push_ne, get_push_eq, get_set_ne, get_set_eq, get_kill_ne, nx_push, nx_set, nx_kill]
    · intro b hb; simp [vblk] at hb; omega

/-- A row of values that is only read. -/
def RowAt (H : HHeap) (s : Value) (vs : List Value) : Prop :=
  ∃ a c, s = .slice a vs.length c ∧ ((vs = [] ∧ (a = none → c = 0)) ∨ ∃ b o k cs rw, a = some ⟨b, o, k⟩ ∧ b < H.next ∧ H.get b = some (.cells cs rw) ∧ ∀ (i : Nat) v, vs[i]? = some v → cs[o + i]? = some v)
end Go.HL
