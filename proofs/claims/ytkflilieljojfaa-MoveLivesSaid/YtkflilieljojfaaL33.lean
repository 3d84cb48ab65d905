/-
  Joined: C10.
-/
import Derived.Test.YtkflilieljojfaaL32
/-
  Walks: the examples.
-/
namespace Go.HL
open Go.RowKit Go.Proofs
set_option maxHeartbeats 4000000
set_option maxRecDepth 100000
set_option linter.unusedSimpArgs false
set_option linter.unusedVariables false

/-- A thing is made, where there is room. -/
theorem arena_Alloc_ok (H : HHeap) (g gw gh size : Nat) (T : Things) (hA : AtA H g gw gh size T) (t : Thing) (ht : t.Ok) (a : Option Addr) (c : Nat) (hroom : usedOf T + t.room ≤ size)
    (hsrc : ∀ H' : HHeap, (∀ b, b ≠ g → b ≠ gw → b ≠ gh → H'.get b = H.get b) → hsource H' 1 (.slice a t.l.length c) = some (t.l.map U, t.l.length)) (R : Value → HHeap → Prop)
    (hR : ∀ H', AtA H' g gw gh size (T ++ [t]) → (∀ b, b ≠ g → b ≠ gw → b ≠ gh → H'.get b = H.get b) → H'.next = H.next → R (.tuple #[U (wordAt (usedOf T)), I 0]) H') : HCalls Try.prog 25 [ptr g 0, I t.kind, .slice a t.l.length c] H R := by
  have n1 := hA.ne1
  have n2 := hA.ne2
  have n3 := hA.ne3
  have k1 := ht.k1
  have k9 := ht.k9
  have kl := ht.len
  unfold Thing.room at hroom
  refine arena_Alloc _ _ _ _ _ _ hA _ _ t.l t.l.length rfl ht.words a c rfl hsrc _ ?_ ?_ ?_
  · intro _ _ _
    have et : (⟨(t.kind : Int).toNat, t.l⟩ : Thing) = t := by cases t; rfl
    rw [et]
    refine hR _ ⟨by unfold putT; simp (disch := first | omega | (simp only [nx_push, nx_set, nx_kill]; done) | (simp only [nx_push, nx_set, nx_kill]; omega)) only [get_push_ne, get_push_eq, get_set_ne, get_set_eq, get_kill_ne, nx_push, nx_set, nx_kill], by unfold putT; simp (disch := first | omega | (simp only [nx_push, nx_set, nx_kill]; done) | (simp only [nx_push, nx_set, nx_kill]; omega)) only [get_push_ne, get_push_eq, get_set_ne, get_set_eq, get_kill_ne, nx_push, nx_set, nx_kill], by unfold putT; simp (disch := first | omega | (simp only [nx_push, nx_set, nx_kill]; done) | (simp only [nx_push, nx_set, nx_kill]; omega)) only [get_push_ne, get_push_eq, get_set_ne, get_set_eq, get_kill_ne, nx_push, nx_set, nx_kill], ?_, hA.big, hA.pos, ?_, n1, n2, n3⟩ ?_ ?_
    · rw [usedOf_append]; simp [usedOf, Thing.room]; omega
    · intro u hu
      rcases List.mem_append.1 hu with hu | hu
      · exact hA.ok u hu
      · rw [List.mem_singleton.1 hu]; exact ht
    · intro b b1 b2 b3; unfold putT; simp (disch := first | omega | (simp only [nx_push, nx_set, nx_kill]; done) | (simp only [nx_push, nx_set, nx_kill]; omega)) only [get_push_ne, get_push_eq, get_set_ne, get_set_eq, get_kill_ne, nx_push, nx_set, nx_kill]
    · unfold putT; simp (disch := first | omega | (simp only [nx_push, nx_set, nx_kill]; done) | (simp only [nx_push, nx_set, nx_kill]; omega)) only [get_push_ne, get_push_eq, get_set_ne, get_set_eq, get_kill_ne, nx_push, nx_set, nx_kill]
  · intro _ _ hh; omega
  · intro hh; exact absurd ⟨⟨by omega, by omega⟩, kl⟩ hh
theorem RowAt.one {H : HHeap} {b w : Nat} (hb : b < H.next) (hg : H.get b = some (.cells [U w] true)) : RowAt H (.slice (some ⟨b, 0, none⟩) 1 1) ([w].map U) :=
  ⟨some ⟨b, 0, none⟩, 1, rfl, .inr ⟨b, 0, none, [U w], true, rfl, hb, hg, fun i v h => by simpa using h⟩⟩

theorem law_shown (H : HHeap) (R : Value → HHeap → Prop) (hR : ∀ H', (∀ b, b < H.next → H'.get b = H.get b) → H.next ≤ H'.next → R (.bool true) H') : HCalls Try.prog 10 [] H R := by
  refine HCalls.of_hw Try.func10 rfl _ Try.ntmps10 _ (by rw [Try.results10]) ?_
  rw [hframe0_eq _ _ (by simp)]
  simp only [List.zipIdx_cons, List.zipIdx_nil, List.map_cons, List.map_nil, Nat.reduceAdd]
  simp (disch := first | omega | (show allOne _ = true; simp [allOne, Value.oneCell']) | (simp only [List.length_cons, List.length_nil, List.length_set, List.length_map, List.length_replicate, List.length_append, List.length_take, List.length_drop, Int.toNat_natCast, Int.toNat_of_nonneg, nx_push, nx_set, nx_kill]; done) | (simp only [List.length_cons, List.length_nil, List.length_set, List.length_map, List.length_replicate, List.length_append, List.length_take, List.length_drop, Int.toNat_natCast, Int.toNat_of_nonneg, nx_push, nx_set, nx_kill]; omega)) only [go_sem, reduceCtorEq, Nat.reduceAdd, Nat.reduceSub, Nat.reduceMul, Nat.reduceLT, Nat.reduceLeDiff, Nat.reduceEqDiff, Nat.reduceBEq, Nat.reduceBNe, Int.reduceBEq, Int.reduceEq, Int.reduceLT, Int.reduceLE, Int.reduceAdd, Int.reduceSub, ↓reduceIte, Int.reduceToNat, Nat.reduceShiftRight, Nat.reduceAnd]
  refine arena_New 9 (by omega) (by omega) _ _ ?_
  intro H1 g gw gh b1 b2 b3 b4 b5 b6 b7 hA1
  have n1 := hA1.ne1
  have n2 := hA1.ne2
  have n3 := hA1.ne3
  simp (disch := first | omega | (show allOne _ = true; simp [allOne, Value.oneCell']) | (simp only [List.length_cons, List.length_nil, List.length_set, List.length_map, List.length_replicate, List.length_append, List.length_take, List.length_drop, Int.toNat_natCast, Int.toNat_of_nonneg, nx_push, nx_set, nx_kill]; done) | (simp only [List.length_cons, List.length_nil, List.length_set, List.length_map, List.length_replicate, List.length_append, List.length_take, List.length_drop, Int.toNat_natCast, Int.toNat_of_nonneg, nx_push, nx_set, nx_kill]; omega)) only [go_sem, reduceCtorEq, Nat.reduceAdd, Nat.reduceSub, Nat.reduceMul, Nat.reduceLT, Nat.reduceLeDiff, Nat.reduceEqDiff, Nat.reduceBEq, Nat.reduceBNe, Int.reduceBEq, Int.reduceEq, Int.reduceLT, Int.reduceLE, Int.reduceAdd, Int.reduceSub, ↓reduceIte, Int.reduceToNat, Nat.reduceShiftRight, Nat.reduceAnd]
  have hA2 : AtA (H1.push (.cells [.int .u64 17] true)) g gw gh 9 [] := hA1.frame (by rintro b (rfl | rfl | rfl) <;> simp (disch := first | omega | (simp only [nx_push, nx_set, nx_kill]; done) | (simp only [nx_push, nx_set, nx_kill]; omega)) only [get_push_ne, get_push_eq, get_set_ne, get_set_eq, get_kill_ne, nx_push, nx_set, nx_kill])
  refine arena_Alloc_ok _ _ _ _ _ _ hA2 ⟨1, [17]⟩ ⟨by decide, by decide, by decide, by simp⟩ _ _ (by decide) ?_ _ ?_
  · intro H' hH'
    rw [hsource_slice, hH' _ (by omega) (by omega) (by omega)]
    simp (disch := first | omega | (simp only [nx_push, nx_set, nx_kill]; done) | (simp only [nx_push, nx_set, nx_kill]; omega)) only [get_push_ne, get_push_eq, get_set_ne, get_set_eq, get_kill_ne, nx_push, nx_set, nx_kill]
    rfl
  · intro H2 hA3 f2 n2'
    rw [nx_push] at n2'
    simp (disch := first | omega | (show allOne _ = true; simp [allOne, Value.oneCell']) | (simp only [List.length_cons, List.length_nil, List.length_set, List.length_map, List.length_replicate, List.length_append, List.length_take, List.length_drop, Int.toNat_natCast, Int.toNat_of_nonneg, nx_push, nx_set, nx_kill]; done) | (simp only [List.length_cons, List.length_nil, List.length_set, List.length_map, List.length_replicate, List.length_append, List.length_take, List.length_drop, Int.toNat_natCast, Int.toNat_of_nonneg, nx_push, nx_set, nx_kill]; omega)) only [go_sem, reduceCtorEq, Nat.reduceAdd, Nat.reduceSub, Nat.reduceMul, Nat.reduceLT, Nat.reduceLeDiff, Nat.reduceEqDiff, Nat.reduceBEq, Nat.reduceBNe, Int.reduceBEq, Int.reduceEq, Int.reduceLT, Int.reduceLE, Int.reduceAdd, Int.reduceSub, ↓reduceIte, Int.reduceToNat, Nat.reduceShiftRight, Nat.reduceAnd]
    have hA4 : AtA (H2.push (.cells [.int .u64 2] true)) g gw gh 9 [⟨1, [17]⟩] := hA3.frame (by rintro b (rfl | rfl | rfl) <;> simp (disch := first | omega | (simp only [nx_push, nx_set, nx_kill]; done) | (simp only [nx_push, nx_set, nx_kill]; omega)) only [get_push_ne, get_push_eq, get_set_ne, get_set_eq, get_kill_ne, nx_push, nx_set, nx_kill])
    refine arena_Alloc_ok _ _ _ _ _ _ hA4 ⟨1, [2]⟩ ⟨by decide, by decide, by decide, by simp⟩ _ _ (by decide) ?_ _ ?_
    · intro H' hH'
      rw [hsource_slice, hH' _ (by omega) (by omega) (by omega)]
      simp (disch := first | omega | (simp only [nx_push, nx_set, nx_kill]; done) | (simp only [nx_push, nx_set, nx_kill]; omega)) only [get_push_ne, get_push_eq, get_set_ne, get_set_eq, get_kill_ne, nx_push, nx_set, nx_kill]
      rfl
    · intro H3 hA5 f3 n3'
      rw [nx_push] at n3'
      have hA6 : AtA H3 g gw gh 9 [⟨1, [17]⟩, ⟨1, [2]⟩] := hA5
      clear hA5 hA4 hA3 hA2
      rw [show wordAt (usedOf [⟨1, [17]⟩]) = 17 from rfl]
      simp (disch := first | omega | (show allOne _ = true; simp [allOne, Value.oneCell']) | (simp only [List.length_cons, List.length_nil, List.length_set, List.length_map, List.length_replicate, List.length_append, List.length_take, List.length_drop, Int.toNat_natCast, Int.toNat_of_nonneg, nx_push, nx_set, nx_kill]; done) | (simp only [List.length_cons, List.length_nil, List.length_set, List.length_map, List.length_replicate, List.length_append, List.length_take, List.length_drop, Int.toNat_natCast, Int.toNat_of_nonneg, nx_push, nx_set, nx_kill]; omega)) only [go_sem, reduceCtorEq, Nat.reduceAdd, Nat.reduceSub, Nat.reduceMul, Nat.reduceLT, Nat.reduceLeDiff, Nat.reduceEqDiff, Nat.reduceBEq, Nat.reduceBNe, Int.reduceBEq, Int.reduceEq, Int.reduceLT, Int.reduceLE, Int.reduceAdd, Int.reduceSub, ↓reduceIte, Int.reduceToNat, Nat.reduceShiftRight, Nat.reduceAnd]
      have hA7 : AtA (H3.push (.cells [U 17] true)) g gw gh 9 [⟨1, [17]⟩, ⟨1, [2]⟩] := hA6.frame (by rintro b (rfl | rfl | rfl) <;> simp (disch := first | omega | (simp only [nx_push, nx_set, nx_kill]; done) | (simp only [nx_push, nx_set, nx_kill]; omega)) only [get_push_ne, get_push_eq, get_set_ne, get_set_eq, get_kill_ne, nx_push, nx_set, nx_kill])
      refine move_Live _ _ _ _ _ _ hA7 ⟨by simp (disch := first | omega | (simp only [nx_push, nx_set, nx_kill]; done) | (simp only [nx_push, nx_set, nx_kill]; omega)) only [get_push_ne, get_push_eq, get_set_ne, get_set_eq, get_kill_ne, nx_push, nx_set, nx_kill]; omega, by simp (disch := first | omega | (simp only [nx_push, nx_set, nx_kill]; done) | (simp only [nx_push, nx_set, nx_kill]; omega)) only [get_push_ne, get_push_eq, get_set_ne, get_set_eq, get_kill_ne, nx_push, nx_set, nx_kill]; omega, by simp (disch := first | omega | (simp only [nx_push, nx_set, nx_kill]; done) | (simp only [nx_push, nx_set, nx_kill]; omega)) only [get_push_ne, get_push_eq, get_set_ne, get_set_eq, get_kill_ne, nx_push, nx_set, nx_kill]; omega⟩ _ [17] (RowAt.one (by simp (disch := first | omega | (simp only [nx_push, nx_set, nx_kill]; done) | (simp only [nx_push, nx_set, nx_kill]; omega)) only [get_push_ne, get_push_eq, get_set_ne, get_set_eq, get_kill_ne, nx_push, nx_set, nx_kill]; omega) (by simp (disch := first | omega | (simp only [nx_push, nx_set, nx_kill]; done) | (simp only [nx_push, nx_set, nx_kill]; omega)) only [get_push_ne, get_push_eq, get_set_ne, get_set_eq, get_kill_ne, nx_push, nx_set, nx_kill])) (by simp) (by simp) _ ?_
      intro H4 g' gw' gh' v hB hV hk hn hnew hlt hvb
      rw [show bfs [⟨1, [17]⟩, ⟨1, [2]⟩] [17] = [1] by decide] at hB hV
      have hB' : AtA H4 g' gw' gh' 9 [⟨1, [2]⟩] := hB
      have hV' : MadeAt H4 v [1] := hV
      clear hB hV
      rw [nx_push] at hk hn hnew
      rcases hV' with ⟨hh, _⟩ | ⟨ob, _, hv, hob, hog⟩
      · simp at hh
      · subst hv
        simp (disch := first | omega | (show allOne _ = true; simp [allOne, Value.oneCell']) | (simp only [List.length_cons, List.length_nil, List.length_set, List.length_map, List.length_replicate, List.length_append, List.length_take, List.length_drop, Int.toNat_natCast, Int.toNat_of_nonneg, nx_push, nx_set, nx_kill]; done) | (simp only [List.length_cons, List.length_nil, List.length_set, List.length_map, List.length_replicate, List.length_append, List.length_take, List.length_drop, Int.toNat_natCast, Int.toNat_of_nonneg, nx_push, nx_set, nx_kill]; omega)) only [go_sem, reduceCtorEq, Nat.reduceAdd, Nat.reduceSub, Nat.reduceMul, Nat.reduceLT, Nat.reduceLeDiff, Nat.reduceEqDiff, Nat.reduceBEq, Nat.reduceBNe, Int.reduceBEq, Int.reduceEq, Int.reduceLT, Int.reduceLE, Int.reduceAdd, Int.reduceSub, ↓reduceIte, Int.reduceToNat, Nat.reduceShiftRight, Nat.reduceAnd, List.length_cons, List.length_nil, ixa_ok, ldc_cells, hog, List.map_cons, List.map_nil]
        refine arena_Get _ _ _ _ _ _ hB' 1 (by omega) 0 _ ?_
        rw [show getV [⟨1, [2]⟩] 1 0 = .tuple #[U 2, I 0] from rfl]
        simp (disch := first | omega | (show allOne _ = true; simp [allOne, Value.oneCell']) | (simp only [List.length_cons, List.length_nil, List.length_set, List.length_map, List.length_replicate, List.length_append, List.length_take, List.length_drop, Int.toNat_natCast, Int.toNat_of_nonneg, nx_push, nx_set, nx_kill]; done) | (simp only [List.length_cons, List.length_nil, List.length_set, List.length_map, List.length_replicate, List.length_append, List.length_take, List.length_drop, Int.toNat_natCast, Int.toNat_of_nonneg, nx_push, nx_set, nx_kill]; omega)) only [go_sem, reduceCtorEq, Nat.reduceAdd, Nat.reduceSub, Nat.reduceMul, Nat.reduceLT, Nat.reduceLeDiff, Nat.reduceEqDiff, Nat.reduceBEq, Nat.reduceBNe, Int.reduceBEq, Int.reduceEq, Int.reduceLT, Int.reduceLE, Int.reduceAdd, Int.reduceSub, ↓reduceIte, Int.reduceToNat, Nat.reduceShiftRight, Nat.reduceAnd, ixa_ok, ldc_cells, hog, List.map_cons, List.map_nil]
        refine arena_Used _ _ _ _ _ _ hB' _ ?_
        rw [show usedOf [⟨1, [2]⟩] = 2 from rfl]
        simp (disch := first | omega | (show allOne _ = true; simp [allOne, Value.oneCell']) | (simp only [List.length_cons, List.length_nil, List.length_set, List.length_map, List.length_replicate, List.length_append, List.length_take, List.length_drop, Int.toNat_natCast, Int.toNat_of_nonneg, nx_push, nx_set, nx_kill]; done) | (simp only [List.length_cons, List.length_nil, List.length_set, List.length_map, List.length_replicate, List.length_append, List.length_take, List.length_drop, Int.toNat_natCast, Int.toNat_of_nonneg, nx_push, nx_set, nx_kill]; omega)) only [go_sem, reduceCtorEq, Nat.reduceAdd, Nat.reduceSub, Nat.reduceMul, Nat.reduceLT, Nat.reduceLeDiff, Nat.reduceEqDiff, Nat.reduceBEq, Nat.reduceBNe, Int.reduceBEq, Int.reduceEq, Int.reduceLT, Int.reduceLE, Int.reduceAdd, Int.reduceSub, ↓reduceIte, Int.reduceToNat, Nat.reduceShiftRight, Nat.reduceAnd]
        have hA8 : AtA H4 g gw gh 9 [⟨1, [17]⟩, ⟨1, [2]⟩] := hA7.frame (by rintro b (rfl | rfl | rfl) <;> exact hk _ (by omega))
        refine arena_Used _ _ _ _ _ _ hA8 _ ?_
        rw [show usedOf [⟨1, [17]⟩, ⟨1, [2]⟩] = 4 from rfl]
        simp (disch := first | omega | (show allOne _ = true; simp [allOne, Value.oneCell']) | (simp only [List.length_cons, List.length_nil, List.length_set, List.length_map, List.length_replicate, List.length_append, List.length_take, List.length_drop, Int.toNat_natCast, Int.toNat_of_nonneg, nx_push, nx_set, nx_kill]; done) | (simp only [List.length_cons, List.length_nil, List.length_set, List.length_map, List.length_replicate, List.length_append, List.length_take, List.length_drop, Int.toNat_natCast, Int.toNat_of_nonneg, nx_push, nx_set, nx_kill]; omega)) only [go_sem, reduceCtorEq, Nat.reduceAdd, Nat.reduceSub, Nat.reduceMul, Nat.reduceLT, Nat.reduceLeDiff, Nat.reduceEqDiff, Nat.reduceBEq, Nat.reduceBNe, Int.reduceBEq, Int.reduceEq, Int.reduceLT, Int.reduceLE, Int.reduceAdd, Int.reduceSub, ↓reduceIte, Int.reduceToNat, Nat.reduceShiftRight, Nat.reduceAnd]
        have hA9 : AtA (H4.push (.cells [U 17] true)) g gw gh 9 [⟨1, [17]⟩, ⟨1, [2]⟩] := hA8.frame (by rintro b (rfl | rfl | rfl) <;> simp (disch := first | omega | (simp only [nx_push, nx_set, nx_kill]; done) | (simp only [nx_push, nx_set, nx_kill]; omega)) only [get_push_ne, get_push_eq, get_set_ne, get_set_eq, get_kill_ne, nx_push, nx_set, nx_kill])
        refine move_Reach _ _ _ _ _ _ hA9 ⟨by simp (disch := first | omega | (simp only [nx_push, nx_set, nx_kill]; done) | (simp only [nx_push, nx_set, nx_kill]; omega)) only [get_push_ne, get_push_eq, get_set_ne, get_set_eq, get_kill_ne, nx_push, nx_set, nx_kill]; omega, by simp (disch := first | omega | (simp only [nx_push, nx_set, nx_kill]; done) | (simp only [nx_push, nx_set, nx_kill]; omega)) only [get_push_ne, get_push_eq, get_set_ne, get_set_eq, get_kill_ne, nx_push, nx_set, nx_kill]; omega, by simp (disch := first | omega | (simp only [nx_push, nx_set, nx_kill]; done) | (simp only [nx_push, nx_set, nx_kill]; omega)) only [get_push_ne, get_push_eq, get_set_ne, get_set_eq, get_kill_ne, nx_push, nx_set, nx_kill]; omega⟩ _ [17] (RowAt.one (by simp (disch := first | omega | (simp only [nx_push, nx_set, nx_kill]; done) | (simp only [nx_push, nx_set, nx_kill]; omega)) only [get_push_ne, get_push_eq, get_set_ne, get_set_eq, get_kill_ne, nx_push, nx_set, nx_kill]; omega) (by simp (disch := first | omega | (simp only [nx_push, nx_set, nx_kill]; done) | (simp only [nx_push, nx_set, nx_kill]; omega)) only [get_push_ne, get_push_eq, get_set_ne, get_set_eq, get_kill_ne, nx_push, nx_set, nx_kill])) (by simp) (by simp) _ ?_
        intro H5 hk5 hn5
        rw [nx_push] at hk5 hn5
        rw [show sumR [⟨1, [17]⟩, ⟨1, [2]⟩] (bfs [⟨1, [17]⟩, ⟨1, [2]⟩] [17]) = 2 by decide]
        simp (disch := first | omega | (show allOne _ = true; simp [allOne, Value.oneCell']) | (simp only [List.length_cons, List.length_nil, List.length_set, List.length_map, List.length_replicate, List.length_append, List.length_take, List.length_drop, Int.toNat_natCast, Int.toNat_of_nonneg, nx_push, nx_set, nx_kill]; done) | (simp only [List.length_cons, List.length_nil, List.length_set, List.length_map, List.length_replicate, List.length_append, List.length_take, List.length_drop, Int.toNat_natCast, Int.toNat_of_nonneg, nx_push, nx_set, nx_kill]; omega)) only [go_sem, reduceCtorEq, Nat.reduceAdd, Nat.reduceSub, Nat.reduceMul, Nat.reduceLT, Nat.reduceLeDiff, Nat.reduceEqDiff, Nat.reduceBEq, Nat.reduceBNe, Int.reduceBEq, Int.reduceEq, Int.reduceLT, Int.reduceLE, Int.reduceAdd, Int.reduceSub, ↓reduceIte, Int.reduceToNat, Nat.reduceShiftRight, Nat.reduceAnd]
        refine hR H5 (fun b hb => ?_) (by omega)
        rw [hk5 b (by omega), get_push_ne _ _ (by omega), hk b (by omega), get_push_ne _ _ (by omega), f3 b (by omega) (by omega) (by omega), get_push_ne _ _ (by omega), f2 b (by omega) (by omega) (by omega), get_push_ne _ _ (by omega)]
        exact b7 b hb
end Go.HL
