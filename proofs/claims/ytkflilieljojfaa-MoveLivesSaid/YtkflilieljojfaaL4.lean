/-
  Joined: C2, C3, C4, A3, A4, C5, A5, C6, G1, D1.
-/
import Derived.Test.YtkflilieljojfaaL3
/-
  Walks: arenas (making).
-/
namespace Go.HL
open Go.RowKit Go.Proofs
set_option maxHeartbeats 4000000
set_option maxRecDepth 100000
set_option linter.unusedSimpArgs false
set_option linter.unusedVariables false
theorem arena_New (n : Nat) (h1 : 1 ≤ n) (h2 : n ≤ 65536) (H : HHeap) (R : Value → HHeap → Prop)
    (hR : ∀ H' g gw gh, H.next ≤ g → H.next ≤ gw → H.next ≤ gh → g < H'.next → gw < H'.next → gh < H'.next → (∀ b, b < H.next → H'.get b = H.get b) → AtA H' g gw gh n [] → R (.tuple #[ptr g 0, I 0]) H') : HCalls Try.prog 24 [I n] H R := by
  refine HCalls.of_hw Try.func24 rfl _ Try.ntmps24 _ (by rw [Try.results24]) ?_
  rw [hframe0_eq _ _ (by simp)]
  simp only [List.zipIdx_cons, List.zipIdx_nil, List.map_cons, List.map_nil, Nat.reduceAdd]
  simp (disch := first | omega | (show allOne _ = true; simp [allOne, Value.oneCell']) | (simp only [List.length_cons, List.length_nil, List.length_set, List.length_map, List.length_replicate, List.length_append, List.length_take, List.length_drop, Int.toNat_natCast, Int.toNat_of_nonneg, nx_push, nx_set, nx_kill]; done) | (simp only [List.length_cons, List.length_nil, List.length_set, List.length_map, List.length_replicate, List.length_append, List.length_take, List.length_drop, Int.toNat_natCast, Int.toNat_of_nonneg, nx_push, nx_set, nx_kill]; omega)) only [go_sem, reduceCtorEq, Nat.reduceAdd, Nat.reduceSub, Nat.reduceMul, Nat.reduceLT, Nat.reduceLeDiff, Nat.reduceEqDiff, Nat.reduceBEq, Nat.reduceBNe, Int.reduceBEq, Int.reduceEq, Int.reduceLT, Int.reduceLE, Int.reduceAdd, Int.reduceSub, ↓reduceIte, Int.reduceToNat, Nat.reduceShiftRight, Nat.reduceAnd]
  refine Hwp.drawn mixed [0, 1, 0, 4, 15, 31, 63, 127] (.op 0 (.op 2 (.eff 1 (.eff 3 (.op 4 (.eff 5 (.op 6 (.op 7 .done)) .stop)) .stop) (.eff 3 (.eff 1 (.op 4 (.eff 5 (.op 6 (.op 7 .done)) .stop)) .stop) .stop)))) (by kernel_rfl) ?_
  simp (disch := first | omega | (show allOne _ = true; simp [allOne, Value.oneCell']) | (simp only [List.length_cons, List.length_nil, List.length_set, List.length_map, List.length_replicate, List.length_append, List.length_take, List.length_drop, Int.toNat_natCast, Int.toNat_of_nonneg, nx_push, nx_set, nx_kill]; done) | (simp only [List.length_cons, List.length_nil, List.length_set, List.length_map, List.length_replicate, List.length_append, List.length_take, List.length_drop, Int.toNat_natCast, Int.toNat_of_nonneg, nx_push, nx_set, nx_kill]; omega)) only [go_sem, reduceCtorEq, Nat.reduceAdd, Nat.reduceSub, Nat.reduceMul, Nat.reduceLT, Nat.reduceLeDiff, Nat.reduceEqDiff, Nat.reduceBEq, Nat.reduceBNe, Int.reduceBEq, Int.reduceEq, Int.reduceLT, Int.reduceLE, Int.reduceAdd, Int.reduceSub, ↓reduceIte, Int.reduceToNat, Nat.reduceShiftRight, Nat.reduceAnd, mks_ok, hbox_agg]
  constructor
  · refine hR _ (H.next + 1 + 1) H.next (H.next + 1) (by omega) (by omega) (by omega) ?_ ?_ ?_ ?_ ?_
    · simp (disch := first | omega | (simp only [nx_push, nx_set, nx_kill]; done) | (simp only [nx_push, nx_set, nx_kill]; omega)) only [get_push_ne, get_push_eq, get_set_ne, get_set_eq, get_kill_ne, nx_push, nx_set, nx_kill]; omega
    · simp (disch := first | omega | (simp only [nx_push, nx_set, nx_kill]; done) | (simp only [nx_push, nx_set, nx_kill]; omega)) only [get_push_ne, get_push_eq, get_set_ne, get_set_eq, get_kill_ne, nx_push, nx_set, nx_kill]; omega
    · simp (disch := first | omega | (simp only [nx_push, nx_set, nx_kill]; done) | (simp only [nx_push, nx_set, nx_kill]; omega)) only [get_push_ne, get_push_eq, get_set_ne, get_set_eq, get_kill_ne, nx_push, nx_set, nx_kill]; omega
    · intro b hb; simp (disch := first | omega | (simp only [nx_push, nx_set, nx_kill]; done) | (simp only [nx_push, nx_set, nx_kill]; omega)) only [get_push_ne, get_push_eq, get_set_ne, get_set_eq, get_kill_ne, nx_push, nx_set, nx_kill]
    · exact ⟨by simp (disch := first | omega | (simp only [nx_push, nx_set, nx_kill]; done) | (simp only [nx_push, nx_set, nx_kill]; omega)) only [get_push_ne, get_push_eq, get_set_ne, get_set_eq, get_kill_ne, nx_push, nx_set, nx_kill]; rfl, by simp (disch := first | omega | (simp only [nx_push, nx_set, nx_kill]; done) | (simp only [nx_push, nx_set, nx_kill]; omega)) only [get_push_ne, get_push_eq, get_set_ne, get_set_eq, get_kill_ne, nx_push, nx_set, nx_kill]; rfl, by simp (disch := first | omega | (simp only [nx_push, nx_set, nx_kill]; done) | (simp only [nx_push, nx_set, nx_kill]; omega)) only [get_push_ne, get_push_eq, get_set_ne, get_set_eq, get_kill_ne, nx_push, nx_set, nx_kill]; rfl, by simp [usedOf], h2, h1, by simp [TOk], by omega, by omega, by omega⟩
  · refine hR _ (H.next + 1 + 1) (H.next + 1) H.next (by omega) (by omega) (by omega) ?_ ?_ ?_ ?_ ?_
    · simp (disch := first | omega | (simp only [nx_push, nx_set, nx_kill]; done) | (simp only [nx_push, nx_set, nx_kill]; omega)) only [get_push_ne, get_push_eq, get_set_ne, get_set_eq, get_kill_ne, nx_push, nx_set, nx_kill]; omega
    · simp (disch := first | omega | (simp only [nx_push, nx_set, nx_kill]; done) | (simp only [nx_push, nx_set, nx_kill]; omega)) only [get_push_ne, get_push_eq, get_set_ne, get_set_eq, get_kill_ne, nx_push, nx_set, nx_kill]; omega
    · simp (disch := first | omega | (simp only [nx_push, nx_set, nx_kill]; done) | (simp only [nx_push, nx_set, nx_kill]; omega)) only [get_push_ne, get_push_eq, get_set_ne, get_set_eq, get_kill_ne, nx_push, nx_set, nx_kill]; omega
    · intro b hb; simp (disch := first | omega | (simp only [nx_push, nx_set, nx_kill]; done) | (simp only [nx_push, nx_set, nx_kill]; omega)) only [get_push_ne, get_push_eq, get_set_ne, get_set_eq, get_kill_ne, nx_push, nx_set, nx_kill]
    · exact ⟨by simp (disch := first | omega | (simp only [nx_push, nx_set, nx_kill]; done) | (simp only [nx_push, nx_set, nx_kill]; omega)) only [get_push_ne, get_push_eq, get_set_ne, get_set_eq, get_kill_ne, nx_push, nx_set, nx_kill]; rfl, by simp (disch := first | omega | (simp only [nx_push, nx_set, nx_kill]; done) | (simp only [nx_push, nx_set, nx_kill]; omega)) only [get_push_ne, get_push_eq, get_set_ne, get_set_eq, get_kill_ne, nx_push, nx_set, nx_kill]; rfl, by simp (disch := first | omega | (simp only [nx_push, nx_set, nx_kill]; done) | (simp only [nx_push, nx_set, nx_kill]; omega)) only [get_push_ne, get_push_eq, get_set_ne, get_set_eq, get_kill_ne, nx_push, nx_set, nx_kill]; rfl, by simp [usedOf], h2, h1, by simp [TOk], by omega, by omega, by omega⟩
theorem arena_Set (H : HHeap) (g gw gh size : Nat) (T : Things) (hA : AtA H g gw gh size T) (w : Nat) (hw : w < 18446744073709551616) (i x : Nat) (hx : x < 18446744073709551616) (R : Value → HHeap → Prop) 
   (hR : ∀ t, findT T w = some t → i < t.l.length → R (I 0) (H.set gw (.cells ((wcells size T).set (w / 8 + 1 + i) (U x)) true))) (hR1 : R (I 1) H) (hR2 : R (I 2) H) : HCalls Try.prog 26 [ptr g 0, U w, I i, U x] H R := by
  refine HCalls.of_hw Try.func26 rfl _ Try.ntmps26 _ (by rw [Try.results26]) ?_
  rw [hframe0_eq _ _ (by simp)]
  simp only [List.zipIdx_cons, List.zipIdx_nil, List.map_cons, List.map_nil, Nat.reduceAdd]
  simp (disch := first | omega | (show allOne _ = true; simp [allOne, Value.oneCell']) | (simp only [List.length_cons, List.length_nil, List.length_set, List.length_map, List.length_replicate, List.length_append, List.length_take, List.length_drop, Int.toNat_natCast, Int.toNat_of_nonneg, nx_push, nx_set, nx_kill]; done) | (simp only [List.length_cons, List.length_nil, List.length_set, List.length_map, List.length_replicate, List.length_append, List.length_take, List.length_drop, Int.toNat_natCast, Int.toNat_of_nonneg, nx_push, nx_set, nx_kill]; omega)) only [go_sem, reduceCtorEq, Nat.reduceAdd, Nat.reduceSub, Nat.reduceMul, Nat.reduceLT, Nat.reduceLeDiff, Nat.reduceEqDiff, Nat.reduceBEq, Nat.reduceBNe, Int.reduceBEq, Int.reduceEq, Int.reduceLT, Int.reduceLE, Int.reduceAdd, Int.reduceSub, ↓reduceIte, Int.reduceToNat, Nat.reduceShiftRight, Nat.reduceAnd]
  refine arena_at _ _ _ _ _ _ hA w hw i _ ?_
  rw [atV]
  have hl := wcells_length hA.room
  cases h : findT T w with
  | none => simp (disch := first | omega | (show allOne _ = true; simp [allOne, Value.oneCell']) | (simp only [List.length_cons, List.length_nil, List.length_set, List.length_map, List.length_replicate, List.length_append, List.length_take, List.length_drop, Int.toNat_natCast, Int.toNat_of_nonneg, nx_push, nx_set, nx_kill]; done) | (simp only [List.length_cons, List.length_nil, List.length_set, List.length_map, List.length_replicate, List.length_append, List.length_take, List.length_drop, Int.toNat_natCast, Int.toNat_of_nonneg, nx_push, nx_set, nx_kill]; omega)) only [go_sem, reduceCtorEq, Nat.reduceAdd, Nat.reduceSub, Nat.reduceMul, Nat.reduceLT, Nat.reduceLeDiff, Nat.reduceEqDiff, Nat.reduceBEq, Nat.reduceBNe, Int.reduceBEq, Int.reduceEq, Int.reduceLT, Int.reduceLE, Int.reduceAdd, Int.reduceSub, ↓reduceIte, Int.reduceToNat, Nat.reduceShiftRight, Nat.reduceAnd]; exact hR2
  | some t =>
    simp only
    by_cases h1 : 0 ≤ (i : Int) ∧ (i : Int) < t.l.length
    · rw [if_pos h1]
      have ha : atP T (w / 8) = some t := by unfold findT at h; split at h <;> first | exact h | cases h
      obtain ⟨k1, k2, k3, k4⟩ := atP_words T _ t ha
      unfold Thing.room at k1
      have hroom := hA.room
      simp (disch := first | omega | (show allOne _ = true; simp [allOne, Value.oneCell']) | (simp only [List.length_cons, List.length_nil, List.length_set, List.length_map, List.length_replicate, List.length_append, List.length_take, List.length_drop, Int.toNat_natCast, Int.toNat_of_nonneg, nx_push, nx_set, nx_kill]; done) | (simp only [List.length_cons, List.length_nil, List.length_set, List.length_map, List.length_replicate, List.length_append, List.length_take, List.length_drop, Int.toNat_natCast, Int.toNat_of_nonneg, nx_push, nx_set, nx_kill]; omega)) only [go_sem, reduceCtorEq, Nat.reduceAdd, Nat.reduceSub, Nat.reduceMul, Nat.reduceLT, Nat.reduceLeDiff, Nat.reduceEqDiff, Nat.reduceBEq, Nat.reduceBNe, Int.reduceBEq, Int.reduceEq, Int.reduceLT, Int.reduceLE, Int.reduceAdd, Int.reduceSub, ↓reduceIte, Int.reduceToNat, Nat.reduceShiftRight, Nat.reduceAnd, hA.w, stc_cells]
      exact hR t h (by omega)
    · rw [if_neg h1]
      simp (disch := first | omega | (show allOne _ = true; simp [allOne, Value.oneCell']) | (simp only [List.length_cons, List.length_nil, List.length_set, List.length_map, List.length_replicate, List.length_append, List.length_take, List.length_drop, Int.toNat_natCast, Int.toNat_of_nonneg, nx_push, nx_set, nx_kill]; done) | (simp only [List.length_cons, List.length_nil, List.length_set, List.length_map, List.length_replicate, List.length_append, List.length_take, List.length_drop, Int.toNat_natCast, Int.toNat_of_nonneg, nx_push, nx_set, nx_kill]; omega)) only [go_sem, reduceCtorEq, Nat.reduceAdd, Nat.reduceSub, Nat.reduceMul, Nat.reduceLT, Nat.reduceLeDiff, Nat.reduceEqDiff, Nat.reduceBEq, Nat.reduceBNe, Int.reduceBEq, Int.reduceEq, Int.reduceLT, Int.reduceLE, Int.reduceAdd, Int.reduceSub, ↓reduceIte, Int.reduceToNat, Nat.reduceShiftRight, Nat.reduceAnd]
      exact hR1

def putT (H : HHeap) (g gw gh size : Nat) (T : Things) : HHeap := ((H.set gw (.cells (wcells size T) true)).set gh (.cells (hcells size T) true)).set g (.cells (acells gw gh size T) true)
theorem arena_Alloc (H : HHeap) (g gw gh size : Nat) (T : Things) (hA : AtA H g gw gh size T) (k : Int) (s : Value) (l : List Nat) (n : Nat) (hn : n = l.length) (hl : ∀ x ∈ l, x < 18446744073709551616) (a : Option Addr) (c : Nat) (hs : s = .slice a n c) (hsrc : ∀ H' : HHeap, (∀ b, b ≠ g → b ≠ gw → b ≠ gh → H'.get b = H.get b) → hsource H' 1 s = some (l.map U, n)) (R : Value → HHeap → Prop) 
    (h1 : (1 ≤ k ∧ k ≤ 9) → n ≤ 255 → usedOf T + n + 1 ≤ size → R (.tuple #[U (wordAt (usedOf T)), I 0]) (putT H g gw gh size (T ++ [⟨k.toNat, l⟩])))
    (h2 : (1 ≤ k ∧ k ≤ 9) → n ≤ 255 → size < usedOf T + n + 1 → R (.tuple #[U 0, I 20]) H)
    (h3 : ¬ ((1 ≤ k ∧ k ≤ 9) ∧ n ≤ 255) → R (.tuple #[U 0, I 1]) H) : HCalls Try.prog 25 [ptr g 0, I k, s] H R := by
  subst hs
  refine HCalls.of_hw Try.func25 rfl _ Try.ntmps25 _ (by rw [Try.results25]) ?_
  rw [hframe0_eq _ _ (by simp)]
  simp only [List.zipIdx_cons, List.zipIdx_nil, List.map_cons, List.map_nil, Nat.reduceAdd]
  by_cases hk1 : 1 ≤ k
  · by_cases hk2 : k ≤ 9
    · by_cases hn2 : n ≤ 255
      · have hroom := hA.room
        have hbig := hA.big
        simp (disch := first | omega | (show allOne _ = true; simp [allOne, Value.oneCell']) | (simp only [List.length_cons, List.length_nil, List.length_set, List.length_map, List.length_replicate, List.length_append, List.length_take, List.length_drop, Int.toNat_natCast, Int.toNat_of_nonneg, nx_push, nx_set, nx_kill]; done) | (simp only [List.length_cons, List.length_nil, List.length_set, List.length_map, List.length_replicate, List.length_append, List.length_take, List.length_drop, Int.toNat_natCast, Int.toNat_of_nonneg, nx_push, nx_set, nx_kill]; omega)) only [go_sem, reduceCtorEq, Nat.reduceAdd, Nat.reduceSub, Nat.reduceMul, Nat.reduceLT, Nat.reduceLeDiff, Nat.reduceEqDiff, Nat.reduceBEq, Nat.reduceBNe, Int.reduceBEq, Int.reduceEq, Int.reduceLT, Int.reduceLE, Int.reduceAdd, Int.reduceSub, ↓reduceIte, Int.reduceToNat, Nat.reduceShiftRight, Nat.reduceAnd]
        refine arena_Size _ _ _ _ _ _ hA _ ?_
        simp (disch := first | omega | (show allOne _ = true; simp [allOne, Value.oneCell']) | (simp only [List.length_cons, List.length_nil, List.length_set, List.length_map, List.length_replicate, List.length_append, List.length_take, List.length_drop, Int.toNat_natCast, Int.toNat_of_nonneg, nx_push, nx_set, nx_kill]; done) | (simp only [List.length_cons, List.length_nil, List.length_set, List.length_map, List.length_replicate, List.length_append, List.length_take, List.length_drop, Int.toNat_natCast, Int.toNat_of_nonneg, nx_push, nx_set, nx_kill]; omega)) only [go_sem, reduceCtorEq, Nat.reduceAdd, Nat.reduceSub, Nat.reduceMul, Nat.reduceLT, Nat.reduceLeDiff, Nat.reduceEqDiff, Nat.reduceBEq, Nat.reduceBNe, Int.reduceBEq, Int.reduceEq, Int.reduceLT, Int.reduceLE, Int.reduceAdd, Int.reduceSub, ↓reduceIte, Int.reduceToNat, Nat.reduceShiftRight, Nat.reduceAnd]
        refine arena_Used _ _ _ _ _ _ hA _ ?_
        by_cases hr : usedOf T + n + 1 ≤ size
        · simp (disch := first | omega | (show allOne _ = true; simp [allOne, Value.oneCell']) | (simp only [List.length_cons, List.length_nil, List.length_set, List.length_map, List.length_replicate, List.length_append, List.length_take, List.length_drop, Int.toNat_natCast, Int.toNat_of_nonneg, nx_push, nx_set, nx_kill]; done) | (simp only [List.length_cons, List.length_nil, List.length_set, List.length_map, List.length_replicate, List.length_append, List.length_take, List.length_drop, Int.toNat_natCast, Int.toNat_of_nonneg, nx_push, nx_set, nx_kill]; omega)) only [go_sem, reduceCtorEq, Nat.reduceAdd, Nat.reduceSub, Nat.reduceMul, Nat.reduceLT, Nat.reduceLeDiff, Nat.reduceEqDiff, Nat.reduceBEq, Nat.reduceBNe, Int.reduceBEq, Int.reduceEq, Int.reduceLT, Int.reduceLE, Int.reduceAdd, Int.reduceSub, ↓reduceIte, Int.reduceToNat, Nat.reduceShiftRight, Nat.reduceAnd, hA.a, ldc_cells, acells]
          refine Hwp.drawn mixed [0, 1, 3, 7, 0, 0, 32, 96, 224, 0, 0, 1024, 3072, 0, 15360, 31744, 65023, 130559, 262143, 524287] (.op 0 (.op 1 (.op 2 (.op 3 (.op 4 (.op 5 (.op 6 (.op 7 (.op 8 (.op 9 (.op 10 (.op 11 (.op 12 (.op 13 (.op 14 (.op 15 (.op 16 (.eff 17 (.op 18 (.eff 19 .done .stop)) .stop)))))))))))))))))) (by kernel_rfl) ?_
          have hwl := wcells_length hA.room
          have hhl := hcells_length hA.room
          have n1 := hA.ne1
          have n2 := hA.ne2
          have n3 := hA.ne3
          simp (disch := first | omega | (show allOne _ = true; simp [allOne, Value.oneCell']) | (simp only [List.length_cons, List.length_nil, List.length_set, List.length_map, List.length_replicate, List.length_append, List.length_take, List.length_drop, Int.toNat_natCast, Int.toNat_of_nonneg, nx_push, nx_set, nx_kill]; done) | (simp only [List.length_cons, List.length_nil, List.length_set, List.length_map, List.length_replicate, List.length_append, List.length_take, List.length_drop, Int.toNat_natCast, Int.toNat_of_nonneg, nx_push, nx_set, nx_kill]; omega)) only [go_sem, reduceCtorEq, Nat.reduceAdd, Nat.reduceSub, Nat.reduceMul, Nat.reduceLT, Nat.reduceLeDiff, Nat.reduceEqDiff, Nat.reduceBEq, Nat.reduceBNe, Int.reduceBEq, Int.reduceEq, Int.reduceLT, Int.reduceLE, Int.reduceAdd, Int.reduceSub, ↓reduceIte, Int.reduceToNat, Nat.reduceShiftRight, Nat.reduceAnd, hA.a, hA.w, hA.h, ldc_cells, acells, ixa_ok, stc_cells]
          refine Hwp.drawn mixed [0, 1, 3, 7, 0, 16, 48, 112, 0, 256, 1008, 0, 4080, 8176, 16383, 32767, 65535, 131071] (.op 0 (.op 1 (.op 2 (.op 3 (.op 4 (.op 5 (.op 6 (.op 7 (.op 8 (.op 9 (.op 10 (.op 11 (.eff 12 (.op 13 (.op 14 (.op 15 (.op 16 (.eff 17 .done .stop))))) .stop))))))))))))) (by kernel_rfl) ?_
          have s1 : ∀ cs cs', hsource ((H.set gw cs).set gh cs') 1 (.slice a n c) = some (l.map U, n) := fun cs cs' => hsrc _ fun b b1 b2 b3 => by simp (disch := first | omega | (simp only [nx_push, nx_set, nx_kill]; done) | (simp only [nx_push, nx_set, nx_kill]; omega)) only [get_push_ne, get_push_eq, get_set_ne, get_set_eq, get_kill_ne, nx_push, nx_set, nx_kill]
          have s2 : ∀ cs cs', hsource ((H.set gh cs).set gw cs') 1 (.slice a n c) = some (l.map U, n) := fun cs cs' => hsrc _ fun b b1 b2 b3 => by simp (disch := first | omega | (simp only [nx_push, nx_set, nx_kill]; done) | (simp only [nx_push, nx_set, nx_kill]; omega)) only [get_push_ne, get_push_eq, get_set_ne, get_set_eq, get_kill_ne, nx_push, nx_set, nx_kill]
          have hroom2 : usedOf T + (Thing.mk k.toNat l).room ≤ size := by unfold Thing.room; simp only; omega
          have ew := wcells_push hroom2
          have eh := hcells_push hroom2
          have ek : (((Thing.mk k.toNat l).l.length * 256 + (Thing.mk k.toNat l).kind : Nat) : Int) = (n : Int) * 256 + k := by simp only; omega
          rw [ek] at ew
          have eu : usedOf (T ++ [⟨k.toNat, l⟩]) = usedOf T + n + 1 := by rw [usedOf_append]; simp [usedOf, Thing.room]; omega
          have fin : ∀ H', H'.next = H.next → (∀ b, b ≠ g → b ≠ gw → b ≠ gh → H'.get b = H.get b) → H'.get g = some (.cells (acells gw gh size (T ++ [⟨k.toNat, l⟩])) true) → H'.get gw = some (.cells (wcells size (T ++ [⟨k.toNat, l⟩])) true) → H'.get gh = some (.cells (hcells size (T ++ [⟨k.toNat, l⟩])) true) → H' = putT H g gw gh size (T ++ [⟨k.toNat, l⟩]) := by
            intro H' f1 f2 f3 f4 f5
            refine HHeap.ext' f1 fun b => ?_
            unfold putT
            by_cases b1 : b = g
            · subst b1; rw [f3]; simp (disch := first | omega | (simp only [nx_push, nx_set, nx_kill]; done) | (simp only [nx_push, nx_set, nx_kill]; omega)) only [get_push_ne, get_push_eq, get_set_ne, get_set_eq, get_kill_ne, nx_push, nx_set, nx_kill]
            · by_cases b2 : b = gh
              · subst b2; rw [f5]; simp (disch := first | omega | (simp only [nx_push, nx_set, nx_kill]; done) | (simp only [nx_push, nx_set, nx_kill]; omega)) only [get_push_ne, get_push_eq, get_set_ne, get_set_eq, get_kill_ne, nx_push, nx_set, nx_kill]
              · by_cases b3 : b = gw
                · subst b3; rw [f4]; simp (disch := first | omega | (simp only [nx_push, nx_set, nx_kill]; done) | (simp only [nx_push, nx_set, nx_kill]; omega)) only [get_push_ne, get_push_eq, get_set_ne, get_set_eq, get_kill_ne, nx_push, nx_set, nx_kill]
                · rw [f2 b b1 b3 b2]; simp (disch := first | omega | (simp only [nx_push, nx_set, nx_kill]; done) | (simp only [nx_push, nx_set, nx_kill]; omega)) only [get_push_ne, get_push_eq, get_set_ne, get_set_eq, get_kill_ne, nx_push, nx_set, nx_kill]
          by_cases h0 : n = 0
          · subst h0
            have hl0 : l = [] := by cases l with | nil => rfl | cons x l => simp at hn
            subst hl0
            simp (disch := first | omega | (show allOne _ = true; simp [allOne, Value.oneCell']) | (simp only [List.length_cons, List.length_nil, List.length_set, List.length_map, List.length_replicate, List.length_append, List.length_take, List.length_drop, Int.toNat_natCast, Int.toNat_of_nonneg, nx_push, nx_set, nx_kill]; done) | (simp only [List.length_cons, List.length_nil, List.length_set, List.length_map, List.length_replicate, List.length_append, List.length_take, List.length_drop, Int.toNat_natCast, Int.toNat_of_nonneg, nx_push, nx_set, nx_kill]; omega)) only [go_sem, reduceCtorEq, Nat.reduceAdd, Nat.reduceSub, Nat.reduceMul, Nat.reduceLT, Nat.reduceLeDiff, Nat.reduceEqDiff, Nat.reduceBEq, Nat.reduceBNe, Int.reduceBEq, Int.reduceEq, Int.reduceLT, Int.reduceLE, Int.reduceAdd, Int.reduceSub, ↓reduceIte, Int.reduceToNat, Nat.reduceShiftRight, Nat.reduceAnd, hA.a, hA.w, hA.h, ldc_cells, acells, ixa_ok, stc_cells, slx_lo, s1, s2, hcp_zero]
            refine word_Of (usedOf T) (by omega) _ _ ?_
            simp (disch := first | omega | (show allOne _ = true; simp [allOne, Value.oneCell']) | (simp only [List.length_cons, List.length_nil, List.length_set, List.length_map, List.length_replicate, List.length_append, List.length_take, List.length_drop, Int.toNat_natCast, Int.toNat_of_nonneg, nx_push, nx_set, nx_kill]; done) | (simp only [List.length_cons, List.length_nil, List.length_set, List.length_map, List.length_replicate, List.length_append, List.length_take, List.length_drop, Int.toNat_natCast, Int.toNat_of_nonneg, nx_push, nx_set, nx_kill]; omega)) only [go_sem, reduceCtorEq, Nat.reduceAdd, Nat.reduceSub, Nat.reduceMul, Nat.reduceLT, Nat.reduceLeDiff, Nat.reduceEqDiff, Nat.reduceBEq, Nat.reduceBNe, Int.reduceBEq, Int.reduceEq, Int.reduceLT, Int.reduceLE, Int.reduceAdd, Int.reduceSub, ↓reduceIte, Int.reduceToNat, Nat.reduceShiftRight, Nat.reduceAnd]
            refine Eq.mp (congrArg (R _) (Eq.symm (fin _ ?_ ?_ ?_ ?_ ?_))) (h1 ⟨hk1, hk2⟩ hn2 hr)
            · simp (disch := first | omega | (simp only [nx_push, nx_set, nx_kill]; done) | (simp only [nx_push, nx_set, nx_kill]; omega)) only [get_push_ne, get_push_eq, get_set_ne, get_set_eq, get_kill_ne, nx_push, nx_set, nx_kill]
            · intro b b1 b2 b3; simp (disch := first | omega | (simp only [nx_push, nx_set, nx_kill]; done) | (simp only [nx_push, nx_set, nx_kill]; omega)) only [get_push_ne, get_push_eq, get_set_ne, get_set_eq, get_kill_ne, nx_push, nx_set, nx_kill]
            · simp (disch := first | omega | (simp only [nx_push, nx_set, nx_kill]; done) | (simp only [nx_push, nx_set, nx_kill]; omega)) only [get_push_ne, get_push_eq, get_set_ne, get_set_eq, get_kill_ne, nx_push, nx_set, nx_kill]; rw [acells, eu]; rfl
            · simp (disch := first | omega | (simp only [nx_push, nx_set, nx_kill]; done) | (simp only [nx_push, nx_set, nx_kill]; omega)) only [get_push_ne, get_push_eq, get_set_ne, get_set_eq, get_kill_ne, nx_push, nx_set, nx_kill]; rw [← ew]; rfl
            · simp (disch := first | omega | (simp only [nx_push, nx_set, nx_kill]; done) | (simp only [nx_push, nx_set, nx_kill]; omega)) only [get_push_ne, get_push_eq, get_set_ne, get_set_eq, get_kill_ne, nx_push, nx_set, nx_kill]; rw [← eh]
          · simp (disch := first | omega | (show allOne _ = true; simp [allOne, Value.oneCell']) | (simp only [List.length_cons, List.length_nil, List.length_set, List.length_map, List.length_replicate, List.length_append, List.length_take, List.length_drop, Int.toNat_natCast, Int.toNat_of_nonneg, nx_push, nx_set, nx_kill]; done) | (simp only [List.length_cons, List.length_nil, List.length_set, List.length_map, List.length_replicate, List.length_append, List.length_take, List.length_drop, Int.toNat_natCast, Int.toNat_of_nonneg, nx_push, nx_set, nx_kill]; omega)) only [go_sem, reduceCtorEq, Nat.reduceAdd, Nat.reduceSub, Nat.reduceMul, Nat.reduceLT, Nat.reduceLeDiff, Nat.reduceEqDiff, Nat.reduceBEq, Nat.reduceBNe, Int.reduceBEq, Int.reduceEq, Int.reduceLT, Int.reduceLE, Int.reduceAdd, Int.reduceSub, ↓reduceIte, Int.reduceToNat, Nat.reduceShiftRight, Nat.reduceAnd, hA.a, hA.w, hA.h, ldc_cells, acells, ixa_ok, stc_cells, slx_lo, s1, s2, hcp_some, hcpo_ok]
            rw [if_neg (by omega)]
            simp (disch := first | omega | (show allOne _ = true; simp [allOne, Value.oneCell']) | (simp only [List.length_cons, List.length_nil, List.length_set, List.length_map, List.length_replicate, List.length_append, List.length_take, List.length_drop, Int.toNat_natCast, Int.toNat_of_nonneg, nx_push, nx_set, nx_kill]; done) | (simp only [List.length_cons, List.length_nil, List.length_set, List.length_map, List.length_replicate, List.length_append, List.length_take, List.length_drop, Int.toNat_natCast, Int.toNat_of_nonneg, nx_push, nx_set, nx_kill]; omega)) only [go_sem, reduceCtorEq, Nat.reduceAdd, Nat.reduceSub, Nat.reduceMul, Nat.reduceLT, Nat.reduceLeDiff, Nat.reduceEqDiff, Nat.reduceBEq, Nat.reduceBNe, Int.reduceBEq, Int.reduceEq, Int.reduceLT, Int.reduceLE, Int.reduceAdd, Int.reduceSub, ↓reduceIte, Int.reduceToNat, Nat.reduceShiftRight, Nat.reduceAnd, hA.a, hA.w, hA.h, ldc_cells, acells, ixa_ok, stc_cells, slx_lo, s1, s2, hcp_some, hcpo_ok]
            refine word_Of (usedOf T) (by omega) _ _ ?_
            simp (disch := first | omega | (show allOne _ = true; simp [allOne, Value.oneCell']) | (simp only [List.length_cons, List.length_nil, List.length_set, List.length_map, List.length_replicate, List.length_append, List.length_take, List.length_drop, Int.toNat_natCast, Int.toNat_of_nonneg, nx_push, nx_set, nx_kill]; done) | (simp only [List.length_cons, List.length_nil, List.length_set, List.length_map, List.length_replicate, List.length_append, List.length_take, List.length_drop, Int.toNat_natCast, Int.toNat_of_nonneg, nx_push, nx_set, nx_kill]; omega)) only [go_sem, reduceCtorEq, Nat.reduceAdd, Nat.reduceSub, Nat.reduceMul, Nat.reduceLT, Nat.reduceLeDiff, Nat.reduceEqDiff, Nat.reduceBEq, Nat.reduceBNe, Int.reduceBEq, Int.reduceEq, Int.reduceLT, Int.reduceLE, Int.reduceAdd, Int.reduceSub, ↓reduceIte, Int.reduceToNat, Nat.reduceShiftRight, Nat.reduceAnd]
            refine Eq.mp (congrArg (R _) (Eq.symm (fin _ ?_ ?_ ?_ ?_ ?_))) (h1 ⟨hk1, hk2⟩ hn2 hr)
            · simp (disch := first | omega | (simp only [nx_push, nx_set, nx_kill]; done) | (simp only [nx_push, nx_set, nx_kill]; omega)) only [get_push_ne, get_push_eq, get_set_ne, get_set_eq, get_kill_ne, nx_push, nx_set, nx_kill]
            · intro b b1 b2 b3; simp (disch := first | omega | (simp only [nx_push, nx_set, nx_kill]; done) | (simp only [nx_push, nx_set, nx_kill]; omega)) only [get_push_ne, get_push_eq, get_set_ne, get_set_eq, get_kill_ne, nx_push, nx_set, nx_kill]
            · simp (disch := first | omega | (simp only [nx_push, nx_set, nx_kill]; done) | (simp only [nx_push, nx_set, nx_kill]; omega)) only [get_push_ne, get_push_eq, get_set_ne, get_set_eq, get_kill_ne, nx_push, nx_set, nx_kill]; rw [acells, eu, show ((usedOf T : Int) + (1 + (n : Int))) = ((usedOf T + n + 1 : Nat) : Int) by omega]
            · simp (disch := first | omega | (simp only [nx_push, nx_set, nx_kill]; done) | (simp only [nx_push, nx_set, nx_kill]; omega)) only [get_push_ne, get_push_eq, get_set_ne, get_set_eq, get_kill_ne, nx_push, nx_set, nx_kill]; rw [← ew, List.take_of_length_le (by simp; omega)]
            · simp (disch := first | omega | (simp only [nx_push, nx_set, nx_kill]; done) | (simp only [nx_push, nx_set, nx_kill]; omega)) only [get_push_ne, get_push_eq, get_set_ne, get_set_eq, get_kill_ne, nx_push, nx_set, nx_kill]; rw [← eh]
        · simp (disch := first | omega | (show allOne _ = true; simp [allOne, Value.oneCell']) | (simp only [List.length_cons, List.length_nil, List.length_set, List.length_map, List.length_replicate, List.length_append, List.length_take, List.length_drop, Int.toNat_natCast, Int.toNat_of_nonneg, nx_push, nx_set, nx_kill]; done) | (simp only [List.length_cons, List.length_nil, List.length_set, List.length_map, List.length_replicate, List.length_append, List.length_take, List.length_drop, Int.toNat_natCast, Int.toNat_of_nonneg, nx_push, nx_set, nx_kill]; omega)) only [go_sem, reduceCtorEq, Nat.reduceAdd, Nat.reduceSub, Nat.reduceMul, Nat.reduceLT, Nat.reduceLeDiff, Nat.reduceEqDiff, Nat.reduceBEq, Nat.reduceBNe, Int.reduceBEq, Int.reduceEq, Int.reduceLT, Int.reduceLE, Int.reduceAdd, Int.reduceSub, ↓reduceIte, Int.reduceToNat, Nat.reduceShiftRight, Nat.reduceAnd, hA.a, ldc_cells, acells]
          exact h2 ⟨hk1, hk2⟩ hn2 (by omega)
      · simp (disch := first | omega | (show allOne _ = true; simp [allOne, Value.oneCell']) | (simp only [List.length_cons, List.length_nil, List.length_set, List.length_map, List.length_replicate, List.length_append, List.length_take, List.length_drop, Int.toNat_natCast, Int.toNat_of_nonneg, nx_push, nx_set, nx_kill]; done) | (simp only [List.length_cons, List.length_nil, List.length_set, List.length_map, List.length_replicate, List.length_append, List.length_take, List.length_drop, Int.toNat_natCast, Int.toNat_of_nonneg, nx_push, nx_set, nx_kill]; omega)) only [go_sem, reduceCtorEq, Nat.reduceAdd, Nat.reduceSub, Nat.reduceMul, Nat.reduceLT, Nat.reduceLeDiff, Nat.reduceEqDiff, Nat.reduceBEq, Nat.reduceBNe, Int.reduceBEq, Int.reduceEq, Int.reduceLT, Int.reduceLE, Int.reduceAdd, Int.reduceSub, ↓reduceIte, Int.reduceToNat, Nat.reduceShiftRight, Nat.reduceAnd]
        exact h3 (by omega)
    · simp (disch := first | omega | (show allOne _ = true; simp [allOne, Value.oneCell']) | (simp only [List.length_cons, List.length_nil, List.length_set, List.length_map, List.length_replicate, List.length_append, List.length_take, List.length_drop, Int.toNat_natCast, Int.toNat_of_nonneg, nx_push, nx_set, nx_kill]; done) | (simp only [List.length_cons, List.length_nil, List.length_set, List.length_map, List.length_replicate, List.length_append, List.length_take, List.length_drop, Int.toNat_natCast, Int.toNat_of_nonneg, nx_push, nx_set, nx_kill]; omega)) only [go_sem, reduceCtorEq, Nat.reduceAdd, Nat.reduceSub, Nat.reduceMul, Nat.reduceLT, Nat.reduceLeDiff, Nat.reduceEqDiff, Nat.reduceBEq, Nat.reduceBNe, Int.reduceBEq, Int.reduceEq, Int.reduceLT, Int.reduceLE, Int.reduceAdd, Int.reduceSub, ↓reduceIte, Int.reduceToNat, Nat.reduceShiftRight, Nat.reduceAnd]
      exact h3 (by omega)
  · simp (disch := first | omega | (show allOne _ = true; simp [allOne, Value.oneCell']) | (simp only [List.length_cons, List.length_nil, List.length_set, List.length_map, List.length_replicate, List.length_append, List.length_take, List.length_drop, Int.toNat_natCast, Int.toNat_of_nonneg, nx_push, nx_set, nx_kill]; done) | (simp only [List.length_cons, List.length_nil, List.length_set, List.length_map, List.length_replicate, List.length_append, List.length_take, List.length_drop, Int.toNat_natCast, Int.toNat_of_nonneg, nx_push, nx_set, nx_kill]; omega)) only [go_sem, reduceCtorEq, Nat.reduceAdd, Nat.reduceSub, Nat.reduceMul, Nat.reduceLT, Nat.reduceLeDiff, Nat.reduceEqDiff, Nat.reduceBEq, Nat.reduceBNe, Int.reduceBEq, Int.reduceEq, Int.reduceLT, Int.reduceLE, Int.reduceAdd, Int.reduceSub, ↓reduceIte, Int.reduceToNat, Nat.reduceShiftRight, Nat.reduceAnd]
    exact h3 (by omega)
end Go.HL
/-
  Walks: a thing's words.
-/
namespace Go.HL
open Go.RowKit Go.Proofs
set_option maxHeartbeats 4000000
set_option maxRecDepth 100000
set_option linter.unusedSimpArgs false
set_option linter.unusedVariables false
def wordsN (T : Things) (w : Nat) : List Nat := match findT T w with | some t => t.l | none => []
theorem wordsN_len (T : Things) (w : Nat) : (wordsN T w).length = lenN T w := by unfold wordsN lenN; cases findT T w <;> rfl
theorem getV_words {T : Things} {w i : Nat} (h : i < lenN T w) : getV T w i = .tuple #[U ((wordsN T w).getD i 0), I 0] := by
  unfold lenN at h; unfold getV wordsN
  split at h
  · rename_i t ht; rw [ht]; simp only; rw [if_pos (by omega)]; simp
  · omega
theorem move_words (H : HHeap) (g gw gh size : Nat) (T : Things) (hA : AtA H g gw gh size T) (hlt : g < H.next ∧ gw < H.next ∧ gh < H.next) (w : Nat) (hw : w < 18446744073709551616) (R : Value → HHeap → Prop)
    (hR : R (.slice (some ⟨H.next, 0, none⟩) (lenN T w) (lenN T w)) (H.push (.cells ((wordsN T w).map U) true))) : HCalls Try.prog 30 [ptr g 0, U w] H R := by
  have hlen : lenN T w ≤ 255 := by
    unfold lenN; cases h : findT T w with
    | none => simp
    | some t =>
      have ha : atP T (w / 8) = some t := by unfold findT at h; split at h <;> first | exact h | cases h
      exact (hA.ok t (atP_words T _ t ha).2.2.2).len
  refine HCalls.of_hw Try.func30 rfl _ Try.ntmps30 _ (by rw [Try.results30]) ?_
  rw [hframe0_eq _ _ (by simp)]
  simp only [List.zipIdx_cons, List.zipIdx_nil, List.map_cons, List.map_nil, Nat.reduceAdd]
  simp (disch := first | omega | (show allOne _ = true; simp [allOne, Value.oneCell']) | (simp only [List.length_cons, List.length_nil, List.length_set, List.length_map, List.length_replicate, List.length_append, List.length_take, List.length_drop, Int.toNat_natCast, Int.toNat_of_nonneg, nx_push, nx_set, nx_kill]; done) | (simp only [List.length_cons, List.length_nil, List.length_set, List.length_map, List.length_replicate, List.length_append, List.length_take, List.length_drop, Int.toNat_natCast, Int.toNat_of_nonneg, nx_push, nx_set, nx_kill]; omega)) only [go_sem, reduceCtorEq, Nat.reduceAdd, Nat.reduceSub, Nat.reduceMul, Nat.reduceLT, Nat.reduceLeDiff, Nat.reduceEqDiff, Nat.reduceBEq, Nat.reduceBNe, Int.reduceBEq, Int.reduceEq, Int.reduceLT, Int.reduceLE, Int.reduceAdd, Int.reduceSub, ↓reduceIte, Int.reduceToNat, Nat.reduceShiftRight, Nat.reduceAnd]
  refine arena_Len _ _ _ _ _ _ hA w hw _ ?_
  simp (disch := first | omega | (show allOne _ = true; simp [allOne, Value.oneCell']) | (simp only [List.length_cons, List.length_nil, List.length_set, List.length_map, List.length_replicate, List.length_append, List.length_take, List.length_drop, Int.toNat_natCast, Int.toNat_of_nonneg, nx_push, nx_set, nx_kill]; done) | (simp only [List.length_cons, List.length_nil, List.length_set, List.length_map, List.length_replicate, List.length_append, List.length_take, List.length_drop, Int.toNat_natCast, Int.toNat_of_nonneg, nx_push, nx_set, nx_kill]; omega)) only [go_sem, reduceCtorEq, Nat.reduceAdd, Nat.reduceSub, Nat.reduceMul, Nat.reduceLT, Nat.reduceLeDiff, Nat.reduceEqDiff, Nat.reduceBEq, Nat.reduceBNe, Int.reduceBEq, Int.reduceEq, Int.reduceLT, Int.reduceLE, Int.reduceAdd, Int.reduceSub, ↓reduceIte, Int.reduceToNat, Nat.reduceShiftRight, Nat.reduceAnd, mks_ok]
  refine Hwp.loop (fun m fr H' => ∃ i, m = lenN T w - i ∧ i ≤ lenN T w ∧ H' = H.push (.cells (((wordsN T w).map U).take i ++ List.replicate (lenN T w - i) (.int .u64 0)) true) ∧
     FLe (hfr 28 [(13, I i), (12, I (lenN T w)), (5, .slice (some ⟨H.next, 0, none⟩) (lenN T w) (lenN T w)), (0, ptr g 0), (1, U w)]) fr) (lenN T w) ?_ ?_
  · refine ⟨0, by omega, by omega, by simp, fle_of (by simp [flook])⟩
  rintro m fr H' ⟨i, rfl, hi, rfl, hle⟩
  refine Hwp.weaken hle (HW.sound _ _ _ _ ?_)
  by_cases hc : i < lenN T w
  · simp (disch := first | omega | (show allOne _ = true; simp [allOne, Value.oneCell']) | (simp only [List.length_cons, List.length_nil, List.length_set, List.length_map, List.length_replicate, List.length_append, List.length_take, List.length_drop, Int.toNat_natCast, Int.toNat_of_nonneg, nx_push, nx_set, nx_kill]; done) | (simp only [List.length_cons, List.length_nil, List.length_set, List.length_map, List.length_replicate, List.length_append, List.length_take, List.length_drop, Int.toNat_natCast, Int.toNat_of_nonneg, nx_push, nx_set, nx_kill]; omega)) only [go_sem, reduceCtorEq, Nat.reduceAdd, Nat.reduceSub, Nat.reduceMul, Nat.reduceLT, Nat.reduceLeDiff, Nat.reduceEqDiff, Nat.reduceBEq, Nat.reduceBNe, Int.reduceBEq, Int.reduceEq, Int.reduceLT, Int.reduceLE, Int.reduceAdd, Int.reduceSub, ↓reduceIte, Int.reduceToNat, Nat.reduceShiftRight, Nat.reduceAnd]
    have hA' : AtA (H.push (.cells (((wordsN T w).map U).take i ++ List.replicate (lenN T w - i) (.int .u64 0)) true)) g gw gh size T :=
      ⟨by simp (disch := first | omega | (simp only [nx_push, nx_set, nx_kill]; done) | (simp only [nx_push, nx_set, nx_kill]; omega)) only [get_push_ne, get_push_eq, get_set_ne, get_set_eq, get_kill_ne, nx_push, nx_set, nx_kill]; exact hA.a, by simp (disch := first | omega | (simp only [nx_push, nx_set, nx_kill]; done) | (simp only [nx_push, nx_set, nx_kill]; omega)) only [get_push_ne, get_push_eq, get_set_ne, get_set_eq, get_kill_ne, nx_push, nx_set, nx_kill]; exact hA.w, by simp (disch := first | omega | (simp only [nx_push, nx_set, nx_kill]; done) | (simp only [nx_push, nx_set, nx_kill]; omega)) only [get_push_ne, get_push_eq, get_set_ne, get_set_eq, get_kill_ne, nx_push, nx_set, nx_kill]; exact hA.h, hA.room, hA.big, hA.pos, hA.ok, hA.ne1, hA.ne2, hA.ne3⟩
    refine arena_Get _ _ _ _ _ _ hA' w hw i _ ?_
    rw [getV_words hc]
    have hl2 := wordsN_len T w
    simp (disch := first | omega | (show allOne _ = true; simp [allOne, Value.oneCell']) | (simp only [List.length_cons, List.length_nil, List.length_set, List.length_map, List.length_replicate, List.length_append, List.length_take, List.length_drop, Int.toNat_natCast, Int.toNat_of_nonneg, nx_push, nx_set, nx_kill]; done) | (simp only [List.length_cons, List.length_nil, List.length_set, List.length_map, List.length_replicate, List.length_append, List.length_take, List.length_drop, Int.toNat_natCast, Int.toNat_of_nonneg, nx_push, nx_set, nx_kill]; omega)) only [go_sem, reduceCtorEq, Nat.reduceAdd, Nat.reduceSub, Nat.reduceMul, Nat.reduceLT, Nat.reduceLeDiff, Nat.reduceEqDiff, Nat.reduceBEq, Nat.reduceBNe, Int.reduceBEq, Int.reduceEq, Int.reduceLT, Int.reduceLE, Int.reduceAdd, Int.reduceSub, ↓reduceIte, Int.reduceToNat, Nat.reduceShiftRight, Nat.reduceAnd, ixa_ok, stc_cells]
    refine ⟨_, ?_, i + 1, rfl, by omega, ?_, fle_of (by simp [flook])⟩
    · omega
    · rw [push_set, fill_step (by simpa using hl2) hc]
      rw [List.getElem?_map, List.getElem?_eq_getElem (by omega)]
      simp [List.getD, hl2, hc]
  · simp (disch := first | omega | (show allOne _ = true; simp [allOne, Value.oneCell']) | (simp only [List.length_cons, List.length_nil, List.length_set, List.length_map, List.length_replicate, List.length_append, List.length_take, List.length_drop, Int.toNat_natCast, Int.toNat_of_nonneg, nx_push, nx_set, nx_kill]; done) | (simp only [List.length_cons, List.length_nil, List.length_set, List.length_map, List.length_replicate, List.length_append, List.length_take, List.length_drop, Int.toNat_natCast, Int.toNat_of_nonneg, nx_push, nx_set, nx_kill]; omega)) only [go_sem, reduceCtorEq, Nat.reduceAdd, Nat.reduceSub, Nat.reduceMul, Nat.reduceLT, Nat.reduceLeDiff, Nat.reduceEqDiff, Nat.reduceBEq, Nat.reduceBNe, Int.reduceBEq, Int.reduceEq, Int.reduceLT, Int.reduceLE, Int.reduceAdd, Int.reduceSub, ↓reduceIte, Int.reduceToNat, Nat.reduceShiftRight, Nat.reduceAnd]
    rw [show lenN T w - i = 0 by omega, List.replicate_zero, List.append_nil, List.take_of_length_le (by simp [wordsN_len]; omega)]
    exact hR
end Go.HL
/-
  Walks: what is brought.
-/
namespace Go.HL
open Go.RowKit Go.Proofs
set_option maxHeartbeats 4000000
set_option maxRecDepth 100000
set_option linter.unusedSimpArgs false
set_option linter.unusedVariables false

def MadeAt (H : HHeap) (v : Value) (l : List Nat) : Prop :=
  (l = [] ∧ v = .slice none 0 0) ∨ (∃ b, l ≠ [] ∧ v = .slice (some ⟨b, 0, some 2⟩) l.length l.length ∧ b < H.next ∧ H.get b = some (.cells (l.map U) true))
def vblk : Value → List Nat
  | .slice (some a) _ _ => [a.block]
  | _ => []
structure MvAt (H : HHeap) (m g' gw' gh' mm g size : Nat) (T' : Things) (went : List (Nat × Nat)) (made : List Nat) (mv : Value) : Prop where
  s : H.get m = some (.cells [ptr g 0, ptr g' 0, .map (some mm), mv] true)
  to : AtA H g' gw' gh' size T'
  map : H.get mm = some (.map (mapUU went))
  mades : MadeAt H mv made
  d1 : m ≠ g' ∧ m ≠ gw' ∧ m ≠ gh' ∧ m ≠ mm
  d2 : mm ≠ g' ∧ mm ≠ gw' ∧ mm ≠ gh'
  lt : m < H.next ∧ g' < H.next ∧ gw' < H.next ∧ gh' < H.next ∧ mm < H.next
  mlen : made.length = T'.length
  mvn : ∀ b ∈ vblk mv, b ≠ m ∧ b ≠ g' ∧ b ≠ gw' ∧ b ≠ gh' ∧ b ≠ mm

def bareN (w : Nat) : Nat := if w % 8 = 1 ∧ w / 8 < 1099511627776 then 26 else w

theorem length_le_used : ∀ (T : Things), T.length ≤ usedOf T
  | [] => by simp
  | t :: T => by have := length_le_used T; simp [usedOf, Thing.room]; omega
theorem lk40_some {H : HHeap} {b : Nat} {m : List (Nat × Nat)} (hg : H.get b = some (.map (mapUU m))) {w v : Nat} (hl : m.lookup w = some v) : hlookup Try.prog H 40 (.map (some b)) (.int .u64 (w : Int)) true = some (.tuple #[.int .u64 (v : Int), .bool true]) :=
  x_lookup_some Try.underlying40 Try.underlying42 hg hl
theorem lk40_none {H : HHeap} {b : Nat} {m : List (Nat × Nat)} (hg : H.get b = some (.map (mapUU m))) {w : Nat} (hl : m.lookup w = none) : hlookup Try.prog H 40 (.map (some b)) (.int .u64 (w : Int)) true = some (.tuple #[.int .u64 0, .bool false]) :=
  x_lookup_none Try.underlying40 Try.underlying42 (by kernel_rfl) hg hl

theorem mu40 {H : HHeap} {b w v : Nat} {m : List (Nat × Nat)} (hg : H.get b = some (.map (mapUU m))) (hl : m.lookup w = none) : hmapUpdate Try.prog H 40 (.map (some b)) (.int .u64 (w : Int)) (.int .u64 (v : Int)) = some (H.set b (.map (mapUU (m ++ [(w, v)])))) :=
  x_update_new Try.underlying40 Try.underlying42 hg hl v
theorem AtA.frame {H H' : HHeap} {g gw gh size : Nat} {T : Things} (h : AtA H g gw gh size T) (f : ∀ b, b = g ∨ b = gw ∨ b = gh → H'.get b = H.get b) : AtA H' g gw gh size T :=
  ⟨by rw [f _ (.inl rfl)]; exact h.a, by rw [f _ (.inr (.inl rfl))]; exact h.w, by rw [f _ (.inr (.inr rfl))]; exact h.h, h.room, h.big, h.pos, h.ok, h.ne1, h.ne2, h.ne3⟩

theorem move_bring (H : HHeap) (m g' gw' gh' mm g gw gh size0 size : Nat) (T T' : Things) (went : List (Nat × Nat)) (made : List Nat) (mv : Value) (hM : MvAt H m g' gw' gh' mm g size T' went made mv)
    (hA : AtA H g gw gh size0 T) (hAlt : g < H.next ∧ gw < H.next ∧ gh < H.next) (w : Nat) (hw : w < 18446744073709551616)
    (hroom : ∀ t, findT T w = some t → went.lookup w = none → usedOf T' + t.room ≤ size) (R : Value → HHeap → Prop)
    (h1 : findT T w = none → R (U (bareN w)) H)
    (h2 : ∀ t x, findT T w = some t → went.lookup w = some x → R (U x) H)
    (h3 : ∀ t H' mv', findT T w = some t → went.lookup w = none → MvAt H' m g' gw' gh' mm g size (T' ++ [t]) (went ++ [(w, wordAt (usedOf T'))]) (made ++ [wordAt (usedOf T')]) mv' →
      H.next ≤ H'.next → (∀ b, b < H.next → b ≠ m → b ≠ g' → b ≠ gw' → b ≠ gh' → b ≠ mm → b ∉ vblk mv → H'.get b = H.get b) → (∀ b ∈ vblk mv', b ∈ vblk mv ∨ H.next ≤ b) → R (U (wordAt (usedOf T'))) H') : HCalls Try.prog 29 [ptr m 0, U w] H R := by
  refine HCalls.of_hw Try.func29 rfl _ Try.ntmps29 _ (by rw [Try.results29]) ?_
  rw [hframe0_eq _ _ (by simp)]
  simp only [List.zipIdx_cons, List.zipIdx_nil, List.map_cons, List.map_nil, Nat.reduceAdd]
  obtain ⟨d1, d2, d3, d4⟩ := hM.d1
  obtain ⟨e1, e2, e3⟩ := hM.d2
  obtain ⟨l1, l2, l3, l4, l5⟩ := hM.lt
  have t1 := hM.to.ne1
  have t2 := hM.to.ne2
  have t3 := hM.to.ne3
  simp (disch := first | omega | (show allOne _ = true; simp [allOne, Value.oneCell']) | (simp only [List.length_cons, List.length_nil, List.length_set, List.length_map, List.length_replicate, List.length_append, List.length_take, List.length_drop, Int.toNat_natCast, Int.toNat_of_nonneg, nx_push, nx_set, nx_kill]; done) | (simp only [List.length_cons, List.length_nil, List.length_set, List.length_map, List.length_replicate, List.length_append, List.length_take, List.length_drop, Int.toNat_natCast, Int.toNat_of_nonneg, nx_push, nx_set, nx_kill]; omega)) only [go_sem, reduceCtorEq, Nat.reduceAdd, Nat.reduceSub, Nat.reduceMul, Nat.reduceLT, Nat.reduceLeDiff, Nat.reduceEqDiff, Nat.reduceBEq, Nat.reduceBNe, Int.reduceBEq, Int.reduceEq, Int.reduceLT, Int.reduceLE, Int.reduceAdd, Int.reduceSub, ↓reduceIte, Int.reduceToNat, Nat.reduceShiftRight, Nat.reduceAnd, hM.s, ldc_cells]
  refine arena_Kind _ _ _ _ _ _ hA w hw _ ?_
  cases hf : findT T w with
  | none =>
    have hk : kindN T w = 0 := by unfold kindN; rw [hf]
    rw [hk]
    simp (disch := first | omega | (show allOne _ = true; simp [allOne, Value.oneCell']) | (simp only [List.length_cons, List.length_nil, List.length_set, List.length_map, List.length_replicate, List.length_append, List.length_take, List.length_drop, Int.toNat_natCast, Int.toNat_of_nonneg, nx_push, nx_set, nx_kill]; done) | (simp only [List.length_cons, List.length_nil, List.length_set, List.length_map, List.length_replicate, List.length_append, List.length_take, List.length_drop, Int.toNat_natCast, Int.toNat_of_nonneg, nx_push, nx_set, nx_kill]; omega)) only [go_sem, reduceCtorEq, Nat.reduceAdd, Nat.reduceSub, Nat.reduceMul, Nat.reduceLT, Nat.reduceLeDiff, Nat.reduceEqDiff, Nat.reduceBEq, Nat.reduceBNe, Int.reduceBEq, Int.reduceEq, Int.reduceLT, Int.reduceLE, Int.reduceAdd, Int.reduceSub, ↓reduceIte, Int.reduceToNat, Nat.reduceShiftRight, Nat.reduceAnd]
    refine word_To w hw _ _ ?_
    have := h1 hf
    rw [bareN] at this
    rw [toV]
    split
    · rename_i hh; rw [if_pos hh] at this
      simp (disch := first | omega | (show allOne _ = true; simp [allOne, Value.oneCell']) | (simp only [List.length_cons, List.length_nil, List.length_set, List.length_map, List.length_replicate, List.length_append, List.length_take, List.length_drop, Int.toNat_natCast, Int.toNat_of_nonneg, nx_push, nx_set, nx_kill]; done) | (simp only [List.length_cons, List.length_nil, List.length_set, List.length_map, List.length_replicate, List.length_append, List.length_take, List.length_drop, Int.toNat_natCast, Int.toNat_of_nonneg, nx_push, nx_set, nx_kill]; omega)) only [go_sem, reduceCtorEq, Nat.reduceAdd, Nat.reduceSub, Nat.reduceMul, Nat.reduceLT, Nat.reduceLeDiff, Nat.reduceEqDiff, Nat.reduceBEq, Nat.reduceBNe, Int.reduceBEq, Int.reduceEq, Int.reduceLT, Int.reduceLE, Int.reduceAdd, Int.reduceSub, ↓reduceIte, Int.reduceToNat, Nat.reduceShiftRight, Nat.reduceAnd]
      exact this
    · rename_i hh; rw [if_neg hh] at this
      simp (disch := first | omega | (show allOne _ = true; simp [allOne, Value.oneCell']) | (simp only [List.length_cons, List.length_nil, List.length_set, List.length_map, List.length_replicate, List.length_append, List.length_take, List.length_drop, Int.toNat_natCast, Int.toNat_of_nonneg, nx_push, nx_set, nx_kill]; done) | (simp only [List.length_cons, List.length_nil, List.length_set, List.length_map, List.length_replicate, List.length_append, List.length_take, List.length_drop, Int.toNat_natCast, Int.toNat_of_nonneg, nx_push, nx_set, nx_kill]; omega)) only [go_sem, reduceCtorEq, Nat.reduceAdd, Nat.reduceSub, Nat.reduceMul, Nat.reduceLT, Nat.reduceLeDiff, Nat.reduceEqDiff, Nat.reduceBEq, Nat.reduceBNe, Int.reduceBEq, Int.reduceEq, Int.reduceLT, Int.reduceLE, Int.reduceAdd, Int.reduceSub, ↓reduceIte, Int.reduceToNat, Nat.reduceShiftRight, Nat.reduceAnd]
      exact this
  | some t =>
    have ha : atP T (w / 8) = some t := by unfold findT at hf; split at hf <;> first | exact hf | cases hf
    have hok := hA.ok t (atP_words T _ t ha).2.2.2
    have k1 := hok.k1
    have k9 := hok.k9
    have kl := hok.len
    have hk : kindN T w = t.kind := by unfold kindN; rw [hf]
    have hl : lenN T w = t.l.length := by unfold lenN; rw [hf]
    have hws : wordsN T w = t.l := by unfold wordsN; rw [hf]
    rw [hk]
    cases hlk : went.lookup w with
    | some x =>
      simp (disch := first | omega | (show allOne _ = true; simp [allOne, Value.oneCell']) | (simp only [List.length_cons, List.length_nil, List.length_set, List.length_map, List.length_replicate, List.length_append, List.length_take, List.length_drop, Int.toNat_natCast, Int.toNat_of_nonneg, nx_push, nx_set, nx_kill]; done) | (simp only [List.length_cons, List.length_nil, List.length_set, List.length_map, List.length_replicate, List.length_append, List.length_take, List.length_drop, Int.toNat_natCast, Int.toNat_of_nonneg, nx_push, nx_set, nx_kill]; omega)) only [go_sem, reduceCtorEq, Nat.reduceAdd, Nat.reduceSub, Nat.reduceMul, Nat.reduceLT, Nat.reduceLeDiff, Nat.reduceEqDiff, Nat.reduceBEq, Nat.reduceBNe, Int.reduceBEq, Int.reduceEq, Int.reduceLT, Int.reduceLE, Int.reduceAdd, Int.reduceSub, ↓reduceIte, Int.reduceToNat, Nat.reduceShiftRight, Nat.reduceAnd, hM.s, ldc_cells, lk40_some hM.map hlk]
      exact h2 t x hf hlk
    | none =>
      have hrm := hroom t hf hlk
      have hbig := hM.to.big
      unfold Thing.room at hrm
      simp (disch := first | omega | (show allOne _ = true; simp [allOne, Value.oneCell']) | (simp only [List.length_cons, List.length_nil, List.length_set, List.length_map, List.length_replicate, List.length_append, List.length_take, List.length_drop, Int.toNat_natCast, Int.toNat_of_nonneg, nx_push, nx_set, nx_kill]; done) | (simp only [List.length_cons, List.length_nil, List.length_set, List.length_map, List.length_replicate, List.length_append, List.length_take, List.length_drop, Int.toNat_natCast, Int.toNat_of_nonneg, nx_push, nx_set, nx_kill]; omega)) only [go_sem, reduceCtorEq, Nat.reduceAdd, Nat.reduceSub, Nat.reduceMul, Nat.reduceLT, Nat.reduceLeDiff, Nat.reduceEqDiff, Nat.reduceBEq, Nat.reduceBNe, Int.reduceBEq, Int.reduceEq, Int.reduceLT, Int.reduceLE, Int.reduceAdd, Int.reduceSub, ↓reduceIte, Int.reduceToNat, Nat.reduceShiftRight, Nat.reduceAnd, hM.s, ldc_cells, lk40_none hM.map hlk]
      refine Hwp.drawn mixed [0, 1, 3, 7, 0, 0, 32, 96, 224, 0, 992, 2047, 4095, 8191, 8191, 16383, 65535] (.op 0 (.op 1 (.op 2 (.op 3 (.op 4 (.op 5 (.op 6 (.op 7 (.op 8 (.op 9 (.eff 10 (.eff 11 (.op 12 (.op 13 (.op 14 (.op 15 (.op 16 .done))))) .stop) .stop))))))))))) (by kernel_rfl) ?_
      simp (disch := first | omega | (show allOne _ = true; simp [allOne, Value.oneCell']) | (simp only [List.length_cons, List.length_nil, List.length_set, List.length_map, List.length_replicate, List.length_append, List.length_take, List.length_drop, Int.toNat_natCast, Int.toNat_of_nonneg, nx_push, nx_set, nx_kill]; done) | (simp only [List.length_cons, List.length_nil, List.length_set, List.length_map, List.length_replicate, List.length_append, List.length_take, List.length_drop, Int.toNat_natCast, Int.toNat_of_nonneg, nx_push, nx_set, nx_kill]; omega)) only [go_sem, reduceCtorEq, Nat.reduceAdd, Nat.reduceSub, Nat.reduceMul, Nat.reduceLT, Nat.reduceLeDiff, Nat.reduceEqDiff, Nat.reduceBEq, Nat.reduceBNe, Int.reduceBEq, Int.reduceEq, Int.reduceLT, Int.reduceLE, Int.reduceAdd, Int.reduceSub, ↓reduceIte, Int.reduceToNat, Nat.reduceShiftRight, Nat.reduceAnd, hM.s, ldc_cells]
      refine move_words _ _ _ _ _ _ hA hAlt w hw _ ?_
      rw [hl, hws]
      simp (disch := first | omega | (show allOne _ = true; simp [allOne, Value.oneCell']) | (simp only [List.length_cons, List.length_nil, List.length_set, List.length_map, List.length_replicate, List.length_append, List.length_take, List.length_drop, Int.toNat_natCast, Int.toNat_of_nonneg, nx_push, nx_set, nx_kill]; done) | (simp only [List.length_cons, List.length_nil, List.length_set, List.length_map, List.length_replicate, List.length_append, List.length_take, List.length_drop, Int.toNat_natCast, Int.toNat_of_nonneg, nx_push, nx_set, nx_kill]; omega)) only [go_sem, reduceCtorEq, Nat.reduceAdd, Nat.reduceSub, Nat.reduceMul, Nat.reduceLT, Nat.reduceLeDiff, Nat.reduceEqDiff, Nat.reduceBEq, Nat.reduceBNe, Int.reduceBEq, Int.reduceEq, Int.reduceLT, Int.reduceLE, Int.reduceAdd, Int.reduceSub, ↓reduceIte, Int.reduceToNat, Nat.reduceShiftRight, Nat.reduceAnd, hM.s, ldc_cells]
      have hA1 : AtA (H.push (.cells (t.l.map U) true)) g' gw' gh' size T' := hM.to.frame (by rintro b (rfl | rfl | rfl) <;> simp (disch := first | omega | (simp only [nx_push, nx_set, nx_kill]; done) | (simp only [nx_push, nx_set, nx_kill]; omega)) only [get_push_ne, get_push_eq, get_set_ne, get_set_eq, get_kill_ne, nx_push, nx_set, nx_kill])
      refine arena_Alloc _ _ _ _ _ _ hA1 _ _ t.l t.l.length rfl hok.words _ _ rfl ?_ _ ?_ ?_ ?_
      · intro H' hH'
        rw [hsource_slice, hH' _ (by omega) (by omega) (by omega)]
        simp (disch := first | omega | (simp only [nx_push, nx_set, nx_kill]; done) | (simp only [nx_push, nx_set, nx_kill]; omega)) only [get_push_ne, get_push_eq, get_set_ne, get_set_eq, get_kill_ne, nx_push, nx_set, nx_kill]
        by_cases h0 : t.l.length = 0
        · rw [h0, hsrc_zero]; rw [List.length_eq_zero_iff.1 h0]; rfl
        · rw [hsrc_cells _ _ _ _ _ (by omega) (by simp)]; rw [List.drop_zero, List.take_of_length_le (by simp)]
      · intro _ _ _
        have et : (⟨(t.kind : Int).toNat, t.l⟩ : Thing) = t := by cases t; rfl
        rw [et]
        have hA2 : AtA (putT (H.push (.cells (t.l.map U) true)) g' gw' gh' size (T' ++ [t])) g' gw' gh' size (T' ++ [t]) := by
          refine ⟨by unfold putT; simp (disch := first | omega | (simp only [nx_push, nx_set, nx_kill]; done) | (simp only [nx_push, nx_set, nx_kill]; omega)) only [get_push_ne, get_push_eq, get_set_ne, get_set_eq, get_kill_ne, nx_push, nx_set, nx_kill], by unfold putT; simp (disch := first | omega | (simp only [nx_push, nx_set, nx_kill]; done) | (simp only [nx_push, nx_set, nx_kill]; omega)) only [get_push_ne, get_push_eq, get_set_ne, get_set_eq, get_kill_ne, nx_push, nx_set, nx_kill], by unfold putT; simp (disch := first | omega | (simp only [nx_push, nx_set, nx_kill]; done) | (simp only [nx_push, nx_set, nx_kill]; omega)) only [get_push_ne, get_push_eq, get_set_ne, get_set_eq, get_kill_ne, nx_push, nx_set, nx_kill], ?_, hbig, hM.to.pos, ?_, t1, t2, t3⟩
          · rw [usedOf_append]; simp [usedOf, Thing.room]; omega
          · intro u hu
            rcases List.mem_append.1 hu with hu | hu
            · exact hM.to.ok u hu
            · rw [List.mem_singleton.1 hu]; exact hok
        generalize hH2 : putT (H.push (.cells (t.l.map U) true)) g' gw' gh' size (T' ++ [t]) = H2 at hA2 ⊢
        have f2 : ∀ b, b ≠ g' → b ≠ gw' → b ≠ gh' → b < H.next → H2.get b = H.get b := by
          intro b b1 b2 b3 b4; rw [← hH2]; unfold putT; simp (disch := first | omega | (simp only [nx_push, nx_set, nx_kill]; done) | (simp only [nx_push, nx_set, nx_kill]; omega)) only [get_push_ne, get_push_eq, get_set_ne, get_set_eq, get_kill_ne, nx_push, nx_set, nx_kill]
        have n2 : H2.next = H.next + 1 := by rw [← hH2]; unfold putT; simp (disch := first | omega | (simp only [nx_push, nx_set, nx_kill]; done) | (simp only [nx_push, nx_set, nx_kill]; omega)) only [get_push_ne, get_push_eq, get_set_ne, get_set_eq, get_kill_ne, nx_push, nx_set, nx_kill]
        have s2 := f2 m d1 d2 d3 l1
        have m2 := f2 mm e1 e2 e3 l5
        rw [hM.s] at s2
        rw [hM.map] at m2
        simp (disch := first | omega | (show allOne _ = true; simp [allOne, Value.oneCell']) | (simp only [List.length_cons, List.length_nil, List.length_set, List.length_map, List.length_replicate, List.length_append, List.length_take, List.length_drop, Int.toNat_natCast, Int.toNat_of_nonneg, nx_push, nx_set, nx_kill]; done) | (simp only [List.length_cons, List.length_nil, List.length_set, List.length_map, List.length_replicate, List.length_append, List.length_take, List.length_drop, Int.toNat_natCast, Int.toNat_of_nonneg, nx_push, nx_set, nx_kill]; omega)) only [go_sem, reduceCtorEq, Nat.reduceAdd, Nat.reduceSub, Nat.reduceMul, Nat.reduceLT, Nat.reduceLeDiff, Nat.reduceEqDiff, Nat.reduceBEq, Nat.reduceBNe, Int.reduceBEq, Int.reduceEq, Int.reduceLT, Int.reduceLE, Int.reduceAdd, Int.reduceSub, ↓reduceIte, Int.reduceToNat, Nat.reduceShiftRight, Nat.reduceAnd, s2, ldc_cells]
        generalize hx : wordAt (usedOf T') = x
        rw [mu40 m2 hlk]
        rcases hM.mades with ⟨md, rfl⟩ | ⟨mb, md, rfl, mbl, mbg⟩
        · subst md
          simp (disch := first | omega | (show allOne _ = true; simp [allOne, Value.oneCell']) | (simp only [List.length_cons, List.length_nil, List.length_set, List.length_map, List.length_replicate, List.length_append, List.length_take, List.length_drop, Int.toNat_natCast, Int.toNat_of_nonneg, nx_push, nx_set, nx_kill]; done) | (simp only [List.length_cons, List.length_nil, List.length_set, List.length_map, List.length_replicate, List.length_append, List.length_take, List.length_drop, Int.toNat_natCast, Int.toNat_of_nonneg, nx_push, nx_set, nx_kill]; omega)) only [go_sem, reduceCtorEq, Nat.reduceAdd, Nat.reduceSub, Nat.reduceMul, Nat.reduceLT, Nat.reduceLeDiff, Nat.reduceEqDiff, Nat.reduceBEq, Nat.reduceBNe, Int.reduceBEq, Int.reduceEq, Int.reduceLT, Int.reduceLE, Int.reduceAdd, Int.reduceSub, ↓reduceIte, Int.reduceToNat, Nat.reduceShiftRight, Nat.reduceAnd, s2, ldc_cells, hsource_slice, hsrc_cells, List.drop_zero, List.take_succ_cons, List.take_zero, apd_nil, stc_cells]
          subst hx
          refine h3 t _ (.slice (some ⟨H2.next + 1, 0, some 2⟩) 1 1) hf hlk ⟨?_, ?_, ?_, ?_, ⟨d1, d2, d3, d4⟩, ⟨e1, e2, e3⟩, ?_, ?_, ?_⟩ ?_ ?_ ?_
          · simp (disch := first | omega | (simp only [nx_push, nx_set, nx_kill]; done) | (simp only [nx_push, nx_set, nx_kill]; omega)) only [get_push_ne, get_push_eq, get_set_ne, get_set_eq, get_kill_ne, nx_push, nx_set, nx_kill]
          · exact hA2.frame (by rintro b (rfl | rfl | rfl) <;> simp (disch := first | omega | (simp only [nx_push, nx_set, nx_kill]; done) | (simp only [nx_push, nx_set, nx_kill]; omega)) only [get_push_ne, get_push_eq, get_set_ne, get_set_eq, get_kill_ne, nx_push, nx_set, nx_kill])
          · simp (disch := first | omega | (simp only [nx_push, nx_set, nx_kill]; done) | (simp only [nx_push, nx_set, nx_kill]; omega)) only [get_push_ne, get_push_eq, get_set_ne, get_set_eq, get_kill_ne, nx_push, nx_set, nx_kill]
          · exact .inr ⟨H2.next + 1, by simp, by simp, by simp (disch := first | omega | (simp only [nx_push, nx_set, nx_kill]; done) | (simp only [nx_push, nx_set, nx_kill]; omega)) only [get_push_ne, get_push_eq, get_set_ne, get_set_eq, get_kill_ne, nx_push, nx_set, nx_kill]; omega, by simp (disch := first | omega | (simp only [nx_push, nx_set, nx_kill]; done) | (simp only [nx_push, nx_set, nx_kill]; omega)) only [get_push_ne, get_push_eq, get_set_ne, get_set_eq, get_kill_ne, nx_push, nx_set, nx_kill]; rfl⟩
          · simp (disch := first | omega | (simp only [nx_push, nx_set, nx_kill]; done) | (simp only [nx_push, nx_set, nx_kill]; omega)) only [get_push_ne, get_push_eq, get_set_ne, get_set_eq, get_kill_ne, nx_push, nx_set, nx_kill]; omega
          · rw [List.length_append, List.length_append, hM.mlen]; rfl
          · intro b hb; simp [vblk] at hb; omega
          · simp (disch := first | omega | (simp only [nx_push, nx_set, nx_kill]; done) | (simp only [nx_push, nx_set, nx_kill]; omega)) only [get_push_ne, get_push_eq, get_set_ne, get_set_eq, get_kill_ne, nx_push, nx_set, nx_kill]; omega
          · intro b b0 b1 b2 b3 b4 b5 b6; simp (disch := first | omega | (simp only [nx_push, nx_set, nx_kill]; done) | (simp only [nx_push, nx_set, nx_kill]; omega)) only [get_push_ne, get_push_eq, get_set_ne, get_set_eq, get_kill_ne, nx_push, nx_set, nx_kill]; exact f2 b b2 b3 b4 b0
          · intro b hb; simp [vblk] at hb; right; omega
        · have hml := hM.mlen
          have hmu := length_le_used T'
          obtain ⟨v1, v2, v3, v4, v5⟩ := hM.mvn mb (by simp [vblk])
          have mb2 := f2 mb v2 v3 v4 mbl
          rw [mbg] at mb2
          have hcl : (made.map U).length = made.length * 1 := by simp
          simp (disch := first | omega | (show allOne _ = true; simp [allOne, Value.oneCell']) | (simp only [List.length_cons, List.length_nil, List.length_set, List.length_map, List.length_replicate, List.length_append, List.length_take, List.length_drop, Int.toNat_natCast, Int.toNat_of_nonneg, nx_push, nx_set, nx_kill]; done) | (simp only [List.length_cons, List.length_nil, List.length_set, List.length_map, List.length_replicate, List.length_append, List.length_take, List.length_drop, Int.toNat_natCast, Int.toNat_of_nonneg, nx_push, nx_set, nx_kill]; omega)) only [go_sem, reduceCtorEq, Nat.reduceAdd, Nat.reduceSub, Nat.reduceMul, Nat.reduceLT, Nat.reduceLeDiff, Nat.reduceEqDiff, Nat.reduceBEq, Nat.reduceBNe, Int.reduceBEq, Int.reduceEq, Int.reduceLT, Int.reduceLE, Int.reduceAdd, Int.reduceSub, ↓reduceIte, Int.reduceToNat, Nat.reduceShiftRight, Nat.reduceAnd, s2, mb2, ldc_cells, hsource_slice, hsrc_cells, List.drop_zero, List.take_succ_cons, List.take_zero, apd_some, stc_cells, apo_grow1]
          subst hx
          refine h3 t _ (.slice (some ⟨H2.next + 1, 0, some 2⟩) (made.length + 1) (made.length + 1)) hf hlk ⟨?_, ?_, ?_, ?_, ⟨d1, d2, d3, d4⟩, ⟨e1, e2, e3⟩, ?_, ?_, ?_⟩ ?_ ?_ ?_
          · simp (disch := first | omega | (simp only [nx_push, nx_set, nx_kill]; done) | (simp only [nx_push, nx_set, nx_kill]; omega)) only [get_push_ne, get_push_eq, get_set_ne, get_set_eq, get_kill_ne, nx_push, nx_set, nx_kill]
          · exact hA2.frame (by rintro b (rfl | rfl | rfl) <;> simp (disch := first | omega | (simp only [nx_push, nx_set, nx_kill]; done) | (simp only [nx_push, nx_set, nx_kill]; omega)) only [get_push_ne, get_push_eq, get_set_ne, get_set_eq, get_kill_ne, nx_push, nx_set, nx_kill])
          · simp (disch := first | omega | (simp only [nx_push, nx_set, nx_kill]; done) | (simp only [nx_push, nx_set, nx_kill]; omega)) only [get_push_ne, get_push_eq, get_set_ne, get_set_eq, get_kill_ne, nx_push, nx_set, nx_kill]
          · exact .inr ⟨H2.next + 1, by simp, by simp, by simp (disch := first | omega | (simp only [nx_push, nx_set, nx_kill]; done) | (simp only [nx_push, nx_set, nx_kill]; omega)) only [get_push_ne, get_push_eq, get_set_ne, get_set_eq, get_kill_ne, nx_push, nx_set, nx_kill]; omega, by simp (disch := first | omega | (simp only [nx_push, nx_set, nx_kill]; done) | (simp only [nx_push, nx_set, nx_kill]; omega)) only [get_push_ne, get_push_eq, get_set_ne, get_set_eq, get_kill_ne, nx_push, nx_set, nx_kill]; simp⟩
          · simp (disch := first | omega | (simp only [nx_push, nx_set, nx_kill]; done) | (simp only [nx_push, nx_set, nx_kill]; omega)) only [get_push_ne, get_push_eq, get_set_ne, get_set_eq, get_kill_ne, nx_push, nx_set, nx_kill]; omega
          · rw [List.length_append, List.length_append, hM.mlen]; rfl
          · intro b hb; simp [vblk] at hb; omega
          · simp (disch := first | omega | (simp only [nx_push, nx_set, nx_kill]; done) | (simp only [nx_push, nx_set, nx_kill]; omega)) only [get_push_ne, get_push_eq, get_set_ne, get_set_eq, get_kill_ne, nx_push, nx_set, nx_kill]; omega
          · intro b b0 b1 b2 b3 b4 b5 b6
            have : b ≠ mb := fun e => b6 (by simp [vblk, e])
            simp (disch := first | omega | (simp only [nx_push, nx_set, nx_kill]; done) | (simp only [nx_push, nx_set, nx_kill]; omega)) only [get_push_ne, get_push_eq, get_set_ne, get_set_eq, get_kill_ne, nx_push, nx_set, nx_kill]; exact f2 b b2 b3 b4 b0
          · intro b hb; simp [vblk] at hb; right; omega
      · intro _ _ hh; omega
      · intro hh; exact absurd ⟨⟨by omega, by omega⟩, kl⟩ hh
end Go.HL
/-
  What is reached, and in which order it is brought: plain Lean.
-/
namespace Go.HL
set_option linter.unusedSimpArgs false
set_option linter.unusedVariables false

/-- One word: which thing joins those that are brought. -/
def stepO (T : Things) (ord : List Nat) (w : Nat) : List Nat :=
  match findI T w with
  | some i => if i ∈ ord then ord else ord ++ [i]
  | none => ord
def stepAll (T : Things) (ord ws : List Nat) : List Nat := ws.foldl (stepO T) ord
def wordsI (T : Things) (i : Nat) : List Nat := match T[i]? with | some t => t.l | none => []
def scan (T : Things) : Nat → Nat → List Nat → List Nat
  | 0, _, ord => ord
  | f + 1, p, ord => match ord[p]? with
    | some i => scan T f (p + 1) (stepAll T ord (wordsI T i))
    | none => ord
/-- The things that are reached, in the order in which they are. -/
def bfs (T : Things) (roots : List Nat) : List Nat := scan T (T.length + 1) 0 (stepAll T [] roots)

/-- Is a thing reached? -/
inductive Reached (T : Things) (roots : List Nat) : Nat → Prop where
  | root (w i : Nat) (h : w ∈ roots) (hi : findI T w = some i) : Reached T roots i
  | next (j w i : Nat) (hj : Reached T roots j) (h : w ∈ wordsI T j) (hi : findI T w = some i) : Reached T roots i

theorem findI_lt {T : Things} {w i : Nat} (h : findI T w = some i) : i < T.length := by
  unfold findI at h; split at h
  · exact (place_ixP T _ _ h).1
  · cases h

/-- The places of those that are brought. -/
def roomI (T : Things) (i : Nat) : Nat := match T[i]? with | some t => t.room | none => 1
def placeIn (T : Things) : List Nat → Nat → Nat
  | [], _ => 0
  | j :: ord, i => if i = j then 0 else roomI T j + placeIn T ord i
/-- A word, as it is brought. -/
def tr (T : Things) (ord : List Nat) (w : Nat) : Nat :=
  match findI T w with
  | some i => wordAt (placeIn T ord i)
  | none => if w % 8 = 1 ∧ w / 8 < 1099511627776 then 26 else w

theorem stepO_nodup {T : Things} {ord : List Nat} {w : Nat} (h : ord.Nodup) : (stepO T ord w).Nodup := by
  unfold stepO; split
  · split
    · exact h
    · rename_i i _ hi
      exact List.nodup_append.2 ⟨h, by simp, fun a ha b hb => by simp at hb; subst hb; exact fun e => hi (by rw [← e]; exact ha)⟩
  · exact h
theorem stepO_sub {T : Things} {ord : List Nat} {w : Nat} : ∃ l, stepO T ord w = ord ++ l := by
  unfold stepO; split
  · split
    · exact ⟨[], by simp⟩
    · exact ⟨_, rfl⟩
  · exact ⟨[], by simp⟩
theorem stepAll_sub {T : Things} : ∀ (ws ord : List Nat), ∃ l, stepAll T ord ws = ord ++ l
  | [], ord => ⟨[], by simp [stepAll]⟩
  | w :: ws, ord => by
    obtain ⟨l, h⟩ := stepO_sub (T := T) (ord := ord) (w := w)
    obtain ⟨l', h'⟩ := stepAll_sub (T := T) ws (stepO T ord w)
    refine ⟨l ++ l', ?_⟩
    unfold stepAll at h' ⊢
    rw [List.foldl_cons, h', h, List.append_assoc]
theorem stepAll_nodup {T : Things} : ∀ (ws ord : List Nat), ord.Nodup → (stepAll T ord ws).Nodup
  | [], ord, h => h
  | w :: ws, ord, h => stepAll_nodup ws _ (stepO_nodup h)
theorem stepO_mem {T : Things} {ord : List Nat} {w i : Nat} : i ∈ stepO T ord w ↔ i ∈ ord ∨ findI T w = some i := by
  unfold stepO
  cases h : findI T w with
  | none => simp
  | some j =>
    simp only
    split
    · rename_i hj
      constructor
      · exact .inl
      · rintro (h | h)
        · exact h
        · cases h; exact hj
    · simp; constructor
      · rintro (h | h)
        · exact .inl h
        · exact .inr h.symm
      · rintro (h | h)
        · exact .inl h
        · exact .inr h.symm
theorem stepAll_mem {T : Things} {i : Nat} : ∀ (ws ord : List Nat), i ∈ stepAll T ord ws ↔ i ∈ ord ∨ ∃ w ∈ ws, findI T w = some i
  | [], ord => by simp [stepAll]
  | w :: ws, ord => by
    have := stepAll_mem (T := T) (i := i) ws (stepO T ord w)
    unfold stepAll at this ⊢
    rw [List.foldl_cons, this, stepO_mem]
    simp [or_assoc]

theorem nodup_le {n : Nat} : ∀ (l : List Nat), l.Nodup → (∀ x ∈ l, x < n) → l.length ≤ n := by
  induction n with
  | zero => intro l _ h; cases l with
    | nil => simp
    | cons x l => exact absurd (h x (by simp)) (by omega)
  | succ n ih =>
    intro l hn h
    by_cases hm : n ∈ l
    · have := ih (l.erase n) (hn.erase n) (fun x hx => by
        have := h x (List.mem_of_mem_erase hx)
        have : x ≠ n := fun e => by subst e; exact (List.Nodup.not_mem_erase hn) hx
        omega)
      rw [List.length_erase_of_mem hm] at this; omega
    · have := ih l hn (fun x hx => by have := h x hx; have : x ≠ n := fun e => hm (by rw [← e]; exact hx); omega)
      omega

/-- What holds of those that are brought at the head of a round. -/
structure ScanInv (T : Things) (roots : List Nat) (p : Nat) (ord : List Nat) : Prop where
  nodup : ord.Nodup
  sound : ∀ i ∈ ord, Reached T roots i
  root : ∀ w ∈ roots, ∀ i, findI T w = some i → i ∈ ord
  done : ∀ k, k < p → ∀ j, ord[k]? = some j → ∀ w ∈ wordsI T j, ∀ i, findI T w = some i → i ∈ ord

theorem reached_lt {T : Things} {roots : List Nat} {i : Nat} (h : Reached T roots i) : i < T.length := by
  cases h with
  | root w _ _ hi => exact findI_lt hi
  | next _ _ _ _ _ hi => exact findI_lt hi
theorem ScanInv.start (T : Things) (roots : List Nat) : ScanInv T roots 0 (stepAll T [] roots) := by
  refine ⟨stepAll_nodup _ _ List.nodup_nil, fun i hi => ?_, fun w hw i hi => ?_, fun k hk => by omega⟩
  · rw [stepAll_mem] at hi
    rcases hi with hi | ⟨w, hw, hi⟩
    · simp at hi
    · exact .root w i hw hi
  · rw [stepAll_mem]; exact .inr ⟨w, hw, hi⟩
theorem ScanInv.le {T : Things} {roots : List Nat} {p : Nat} {ord : List Nat} (h : ScanInv T roots p ord) : ord.length ≤ T.length := nodup_le ord h.nodup (fun i hi => reached_lt (h.sound i hi))
theorem ScanInv.next {T : Things} {roots : List Nat} {p : Nat} {ord : List Nat} (h : ScanInv T roots p ord) {i : Nat} (hi : ord[p]? = some i) : ScanInv T roots (p + 1) (stepAll T ord (wordsI T i)) := by
  obtain ⟨l, hl⟩ := stepAll_sub (T := T) (wordsI T i) ord
  have hp : p < ord.length := (List.getElem?_eq_some_iff.1 hi).1
  have him : i ∈ ord := List.mem_of_getElem? hi
  refine ⟨stepAll_nodup _ _ h.nodup, fun k hk => ?_, fun w hw k hk => ?_, fun k hk j hj w hw n hn => ?_⟩
  · rw [stepAll_mem] at hk
    rcases hk with hk | ⟨w, hw, hk⟩
    · exact h.sound k hk
    · exact .next i w k (h.sound i him) hw hk
  · rw [stepAll_mem]; exact .inl (h.root w hw k hk)
  · rw [stepAll_mem]
    rw [hl, List.getElem?_append_left (by omega)] at hj
    by_cases hkp : k = p
    · subst hkp; rw [hi] at hj; cases hj; exact .inr ⟨w, hw, hn⟩
    · exact .inl (h.done k (by omega) j hj w hw n hn)

theorem scan_spec {T : Things} {roots : List Nat} : ∀ (f p : Nat) (ord : List Nat), ScanInv T roots p ord → p ≤ ord.length → T.length + 1 ≤ f + p → ScanInv T roots (scan T f p ord).length (scan T f p ord) := by
  intro f
  induction f with
  | zero => intro p ord h hp hf; have := h.le; exact absurd hp (by omega)
  | succ f ih =>
    intro p ord h hp hf
    rw [scan]
    cases hi : ord[p]? with
    | none =>
      simp only
      have : ord.length ≤ p := by rw [List.getElem?_eq_none_iff] at hi; exact hi
      rw [show ord.length = p by omega]; exact h
    | some i =>
      simp only
      have hp' : p < ord.length := (List.getElem?_eq_some_iff.1 hi).1
      refine ih (p + 1) _ (h.next hi) ?_ (by omega)
      obtain ⟨l, hl⟩ := stepAll_sub (T := T) (wordsI T i) ord
      rw [hl, List.length_append]; omega

theorem bfs_inv (T : Things) (roots : List Nat) : ScanInv T roots (bfs T roots).length (bfs T roots) := scan_spec _ 0 _ (ScanInv.start T roots) (by omega) (by omega)
theorem bfs_nodup (T : Things) (roots : List Nat) : (bfs T roots).Nodup := (bfs_inv T roots).nodup
theorem bfs_mem (T : Things) (roots : List Nat) (i : Nat) : i ∈ bfs T roots ↔ Reached T roots i := by
  have h := bfs_inv T roots
  refine ⟨h.sound i, fun hr => ?_⟩
  induction hr with
  | root w i hw hi => exact h.root w hw i hi
  | next j w i _ hw hi ih =>
    obtain ⟨k, hk⟩ := List.getElem?_of_mem ih
    exact h.done k (List.getElem?_eq_some_iff.1 hk).1 j hk w hw i hi
/-- How the loop goes on. -/
theorem scan_step {T : Things} {f p : Nat} {ord : List Nat} {i : Nat} (hi : ord[p]? = some i) : scan T (f + 1) p ord = scan T f (p + 1) (stepAll T ord (wordsI T i)) := by rw [scan, hi]
theorem scan_stop {T : Things} {f p : Nat} {ord : List Nat} (h : ord.length ≤ p) : scan T f p ord = ord := by
  cases f with
  | zero => rfl
  | succ f => rw [scan, List.getElem?_eq_none_iff.2 h]
end Go.HL
/-
  The order of what is brought, and what lies where while it is: plain Lean.
-/
namespace Go.HL

def sumR (T : Things) (ord : List Nat) : Nat := (ord.map (roomI T)).sum

theorem sumR_append (T : Things) (a b : List Nat) : sumR T (a ++ b) = sumR T a + sumR T b := by simp [sumR]
theorem sumR_one (T : Things) (i : Nat) : sumR T [i] = roomI T i := by simp [sumR]

theorem usedOf_take_succ (T : Things) (n : Nat) (h : n < T.length) : usedOf (T.take (n + 1)) = usedOf (T.take n) + roomI T n := by
  rw [List.take_add_one, usedOf_append, List.getElem?_eq_getElem h]
  simp [usedOf, roomI, h]

theorem sumR_le_take (T : Things) : ∀ (n : Nat), n ≤ T.length → ∀ ord : List Nat, ord.Nodup → (∀ x ∈ ord, x < n) → sumR T ord ≤ usedOf (T.take n) := by
  intro n
  induction n with
  | zero => intro _ ord _ h; cases ord with
    | nil => simp [sumR]
    | cons x l => exact absurd (h x (by simp)) (by omega)
  | succ n ih =>
    intro hn ord hnd h
    rw [usedOf_take_succ T n (by omega)]
    by_cases hm : n ∈ ord
    · have hp := List.perm_cons_erase hm
      have e : sumR T ord = roomI T n + sumR T (ord.erase n) := by
        unfold sumR
        rw [(hp.map (roomI T)).sum_nat]; simp
      have := ih (by omega) (ord.erase n) (hnd.erase n) (fun x hx => by
        have h1 := h x (List.mem_of_mem_erase hx)
        have : x ≠ n := fun e => by subst e; exact (List.Nodup.not_mem_erase hnd) hx
        omega)
      omega
    · have := ih (by omega) ord hnd (fun x hx => by have := h x hx; have : x ≠ n := fun e => hm (by rw [← e]; exact hx); omega)
      omega
theorem sumR_le (T : Things) (ord : List Nat) (hn : ord.Nodup) (h : ∀ x ∈ ord, x < T.length) : sumR T ord ≤ usedOf T := by
  have := sumR_le_take T T.length (by omega) ord hn h
  rwa [List.take_of_length_le (by omega)] at this

theorem placeIn_new (T : Things) (i : Nat) (l : List Nat) : ∀ ord : List Nat, i ∉ ord → placeIn T (ord ++ i :: l) i = sumR T ord
  | [], _ => by simp [placeIn, sumR]
  | j :: ord, h => by
    simp only [List.mem_cons, not_or] at h
    rw [List.cons_append, placeIn, if_neg h.1, placeIn_new T i l ord h.2]
    simp [sumR]

/-- A thing of those that are brought, while it is gone through. -/
def midThing (T : Things) (F : List Nat) (p q k j : Nat) : Thing :=
  match T[j]? with
  | some t => ⟨t.kind, (t.l.take (if k < p then t.l.length else if k = p then q else 0)).map (tr T F) ++ t.l.drop (if k < p then t.l.length else if k = p then q else 0)⟩
  | none => ⟨1, []⟩
def midT (T : Things) (F : List Nat) (p q : Nat) : Nat → List Nat → Things
  | _, [] => []
  | k, j :: ord => midThing T F p q k j :: midT T F p q (k + 1) ord

theorem midThing_room (T : Things) (F : List Nat) (p q k j : Nat) : (midThing T F p q k j).room = roomI T j := by
  unfold midThing roomI
  cases T[j]? with
  | none => rfl
  | some t => simp [Thing.room]; omega
theorem midT_used (T : Things) (F : List Nat) (p q : Nat) : ∀ (ord : List Nat) (k : Nat), usedOf (midT T F p q k ord) = sumR T ord
  | [], _ => rfl
  | j :: ord, k => by simp [midT, usedOf, midThing_room, midT_used T F p q ord, sumR]
theorem midT_length (T : Things) (F : List Nat) (p q : Nat) : ∀ (ord : List Nat) (k : Nat), (midT T F p q k ord).length = ord.length
  | [], _ => rfl
  | j :: ord, k => by simp [midT, midT_length T F p q ord]
theorem midT_append (T : Things) (F : List Nat) (p q : Nat) (b : List Nat) : ∀ (a : List Nat) (k : Nat), midT T F p q k (a ++ b) = midT T F p q k a ++ midT T F p q (k + a.length) b
  | [], k => by simp [midT]
  | j :: a, k => by
    rw [List.cons_append, midT, midT, midT_append T F p q b a, List.cons_append, List.length_cons]
    congr 3; omega
theorem midT_get (T : Things) (F : List Nat) (p q : Nat) : ∀ (ord : List Nat) (k n j : Nat), ord[n]? = some j → (midT T F p q k ord)[n]? = some (midThing T F p q (k + n) j)
  | [], _, _, _, h => by simp at h
  | x :: ord, k, 0, j, h => by simp at h; subst h; simp [midT]
  | x :: ord, k, n + 1, j, h => by
    rw [midT, List.getElem?_cons_succ, midT_get T F p q ord (k + 1) n j (by simpa using h)]
    congr 2; omega
/-- A new one is not gone through yet. -/
theorem midThing_new {T : Things} {F : List Nat} {p q k j : Nat} {t : Thing} (h : T[j]? = some t) (hk : p < k ∨ p = k ∧ q = 0) : midThing T F p q k j = t := by
  unfold midThing
  rw [h]
  simp only
  have : (if k < p then t.l.length else if k = p then q else 0) = 0 := by
    rcases hk with hk | ⟨hk, hq⟩
    · rw [if_neg (by omega), if_neg (by omega)]
    · subst hk; simp [hq]
  rw [this]; simp

def wentO (T : Things) (F ord : List Nat) : List (Nat × Nat) := ord.map fun i => (wordAt (placeOf T i), wordAt (placeIn T F i))
def madeO (T : Things) (F ord : List Nat) : List Nat := ord.map fun i => wordAt (placeIn T F i)

theorem findI_word {T : Things} {w i : Nat} (h : findI T w = some i) : w = wordAt (placeOf T i) ∧ i < T.length := by
  unfold findI at h; split at h
  · obtain ⟨k1, k2⟩ := place_ixP T _ _ h
    exact ⟨by rw [k2]; unfold wordAt; omega, k1⟩
  · cases h
theorem word_findI {T : Things} {i : Nat} (h : i < T.length) : findI T (wordAt (placeOf T i)) = some i := by
  unfold findI wordAt
  rw [if_pos (by omega), show (placeOf T i * 8 + 1) / 8 = placeOf T i by omega]
  exact ixP_place T i h
theorem placeOf_inj {T : Things} {i j : Nat} (hi : i < T.length) (hj : j < T.length) (h : wordAt (placeOf T i) = wordAt (placeOf T j)) : i = j := by
  have h1 := word_findI hi
  have h2 := word_findI hj
  rw [h, h2] at h1; cases h1; rfl
theorem wentO_lookup {T : Things} {F : List Nat} {w i : Nat} (h : findI T w = some i) : ∀ (ord : List Nat), (∀ x ∈ ord, x < T.length) → (wentO T F ord).lookup w = if i ∈ ord then some (wordAt (placeIn T F i)) else none
  | [], _ => rfl
  | j :: ord, hl => by
    obtain ⟨hw, hi⟩ := findI_word h
    have hj := hl j (by simp)
    simp only [wentO, List.map_cons, List.lookup_cons]
    by_cases e : i = j
    · subst e; rw [hw]; simp
    · have : (w == wordAt (placeOf T j)) = false := by
        simp only [beq_eq_false_iff_ne]; intro e'; exact e (placeOf_inj hi hj (by rw [← hw, e']))
      rw [this]
      have ih := wentO_lookup (F := F) h ord (fun x hx => hl x (by simp [hx]))
      unfold wentO at ih
      simp only [ih, List.mem_cons, e, false_or]

theorem scan_sub {T : Things} : ∀ (f p : Nat) (ord : List Nat), ∃ l, scan T f p ord = ord ++ l
  | 0, _, ord => ⟨[], by simp [scan]⟩
  | f + 1, p, ord => by
    rw [scan]
    cases ord[p]? with
    | none => exact ⟨[], by simp⟩
    | some i =>
      obtain ⟨l, hl⟩ := stepAll_sub (T := T) (wordsI T i) ord
      obtain ⟨l', hl'⟩ := scan_sub (T := T) f (p + 1) (stepAll T ord (wordsI T i))
      exact ⟨l ++ l', by simp only; rw [hl', hl, List.append_assoc]⟩
end Go.HL
/-
  Walks: what is brought, by the order in which it is.
-/
namespace Go.HL
open Go.RowKit Go.Proofs
set_option maxHeartbeats 4000000
set_option maxRecDepth 100000
set_option linter.unusedSimpArgs false
set_option linter.unusedVariables false

abbrev LvAt (H : HHeap) (m g' gw' gh' mm g size : Nat) (T : Things) (F ord : List Nat) (p q : Nat) (mv : Value) : Prop :=
  MvAt H m g' gw' gh' mm g size (midT T F p q 0 ord) (wentO T F ord) (madeO T F ord) mv

/-- What else there is stays. -/
structure Stays (H H' : HHeap) (m g' gw' gh' mm : Nat) (mv mv' : Value) : Prop where
  next : H.next ≤ H'.next
  same : ∀ b, b < H.next → b ≠ m → b ≠ g' → b ≠ gw' → b ≠ gh' → b ≠ mm → b ∉ vblk mv → H'.get b = H.get b
  mine : ∀ b ∈ vblk mv', b ∈ vblk mv ∨ H.next ≤ b
theorem Stays.refl (H : HHeap) (m g' gw' gh' mm : Nat) (mv : Value) : Stays H H m g' gw' gh' mm mv mv := ⟨Nat.le_refl _, fun _ _ _ _ _ _ _ _ => rfl, fun _ h => .inl h⟩
theorem Stays.trans {H H' H'' : HHeap} {m g' gw' gh' mm : Nat} {mv mv' mv'' : Value} (a : Stays H H' m g' gw' gh' mm mv mv') (b : Stays H' H'' m g' gw' gh' mm mv' mv'') : Stays H H'' m g' gw' gh' mm mv mv'' := by
  refine ⟨Nat.le_trans a.next b.next, fun x h0 h1 h2 h3 h4 h5 h6 => ?_, fun x hx => ?_⟩
  · rw [b.same x (Nat.lt_of_lt_of_le h0 a.next) h1 h2 h3 h4 h5 (fun hm => by
      rcases a.mine x hm with h | h
      · exact h6 h
      · omega), a.same x h0 h1 h2 h3 h4 h5 h6]
  · rcases b.mine x hx with h | h
    · exact a.mine x h
    · have := a.next; right; omega

theorem findI_none {T : Things} {w : Nat} (h : findT T w = none) : findI T w = none := by
  cases hi : findI T w with
  | none => rfl
  | some i =>
    have hl := findI_lt hi
    rw [findT_findI, hi] at h
    simp [hl] at h
theorem findI_some {T : Things} {w : Nat} {t : Thing} (h : findT T w = some t) : ∃ i, findI T w = some i ∧ T[i]? = some t := by
  rw [findT_findI] at h
  cases hi : findI T w with
  | none => rw [hi] at h; simp at h
  | some i => rw [hi] at h; exact ⟨i, rfl, by simpa using h⟩

theorem bringO (H : HHeap) (m g' gw' gh' mm g gw gh size0 size : Nat) (T : Things) (F ord : List Nat) (p q : Nat) (mv : Value) (hM : LvAt H m g' gw' gh' mm g size T F ord p q mv)
    (hA : AtA H g gw gh size0 T) (hAlt : g < H.next ∧ gw < H.next ∧ gh < H.next) (w : Nat) (hw : w < 18446744073709551616)
    (hF : ∃ l, F = stepO T ord w ++ l) (hnd : ord.Nodup) (hlt : ∀ x ∈ ord, x < T.length) (hpq : p < ord.length ∨ p = ord.length ∧ q = 0) (hsz : usedOf T ≤ size) (R : Value → HHeap → Prop)
    (hR : ∀ H' mv', LvAt H' m g' gw' gh' mm g size T F (stepO T ord w) p q mv' → Stays H H' m g' gw' gh' mm mv mv' → R (U (tr T F w)) H') : HCalls Try.prog 29 [ptr m 0, U w] H R := by
  obtain ⟨l, hF⟩ := hF
  refine move_bring H m g' gw' gh' mm g gw gh size0 size T _ _ _ mv hM hA hAlt w hw ?_ R ?_ ?_ ?_
  · intro t ht hlk
    obtain ⟨i, hi, hti⟩ := findI_some ht
    rw [wentO_lookup hi ord hlt] at hlk
    have him : i ∉ ord := fun e => by simp [e] at hlk
    rw [midT_used]
    have h1 := sumR_le T (ord ++ [i]) (List.nodup_append.2 ⟨hnd, by simp, fun a ha b hb => by simp at hb; subst hb; exact fun e => him (by rw [← e]; exact ha)⟩) (fun x hx => by
      rcases List.mem_append.1 hx with hx | hx
      · exact hlt x hx
      · rw [List.mem_singleton.1 hx]; exact findI_lt hi)
    rw [sumR_append, sumR_one] at h1
    have : roomI T i = t.room := by unfold roomI; rw [hti]
    omega
  · intro hn
    have hi := findI_none hn
    have e1 : stepO T ord w = ord := by unfold stepO; rw [hi]
    have e2 : tr T F w = bareN w := by unfold tr bareN; rw [hi]
    have := hR H mv (by rw [e1]; exact hM) (Stays.refl _ _ _ _ _ _ _)
    rw [e2] at this; exact this
  · intro t x ht hlk
    obtain ⟨i, hi, hti⟩ := findI_some ht
    rw [wentO_lookup hi ord hlt] at hlk
    have him : i ∈ ord := by
      by_cases e : i ∈ ord
      · exact e
      · simp [e] at hlk
    rw [if_pos him] at hlk
    cases hlk
    have e1 : stepO T ord w = ord := by unfold stepO; rw [hi]; simp [him]
    have e2 : tr T F w = wordAt (placeIn T F i) := by unfold tr; rw [hi]
    have := hR H mv (by rw [e1]; exact hM) (Stays.refl _ _ _ _ _ _ _)
    rw [e2] at this; exact this
  · intro t H' mv' ht hlk hM' f1 f2 f3
    obtain ⟨i, hi, hti⟩ := findI_some ht
    rw [wentO_lookup hi ord hlt] at hlk
    have him : i ∉ ord := fun e => by simp [e] at hlk
    have e1 : stepO T ord w = ord ++ [i] := by unfold stepO; rw [hi]; simp [him]
    have e2 : tr T F w = wordAt (placeIn T F i) := by unfold tr; rw [hi]
    have e3 : placeIn T F i = sumR T ord := by rw [hF, e1, List.append_assoc]; exact placeIn_new T i l ord him
    rw [midT_used, ← e3] at hM' ⊢
    have e4 : midT T F p q 0 (ord ++ [i]) = midT T F p q 0 ord ++ [t] := by
      rw [midT_append]; simp only [midT]
      rw [midThing_new hti (by omega)]
    have e5 : wentO T F (ord ++ [i]) = wentO T F ord ++ [(w, wordAt (placeIn T F i))] := by
      unfold wentO; rw [List.map_append, List.map_cons, List.map_nil, ← (findI_word hi).1]
    have e6 : madeO T F (ord ++ [i]) = madeO T F ord ++ [wordAt (placeIn T F i)] := by simp [madeO]
    rw [← e2]
    refine hR H' mv' ?_ ⟨f1, f2, f3⟩
    rw [e1]
    show MvAt _ _ _ _ _ _ _ _ _ _ _ _
    rw [e4, e5, e6]; exact hM'
end Go.HL
/-
  What lies where while it is brought: plain Lean, on.
-/
namespace Go.HL

/-- A thing that is brought, done. -/
def fullThing (T : Things) (F : List Nat) (j : Nat) : Thing :=
  match T[j]? with
  | some t => ⟨t.kind, t.l.map (tr T F)⟩
  | none => ⟨1, []⟩
def outT (T : Things) (F : List Nat) : Things := F.map (fullThing T F)

theorem midThing_done {T : Things} {F : List Nat} {p q k j : Nat} (h : k < p) : midThing T F p q k j = fullThing T F j := by
  unfold midThing fullThing
  cases T[j]? with
  | none => rfl
  | some t => simp [h]
theorem midT_done (T : Things) (F : List Nat) (p q : Nat) : ∀ (ord : List Nat) (k : Nat), k + ord.length ≤ p → midT T F p q k ord = ord.map (fullThing T F)
  | [], _, _ => rfl
  | j :: ord, k, h => by
    simp only [List.length_cons] at h
    rw [midT, midThing_done (by omega), midT_done T F p q ord (k + 1) (by omega), List.map_cons]
/-- The next one's turn. -/
theorem midThing_turn {T : Things} {F : List Nat} {p q k j : Nat} (h : k = p → q = (wordsI T j).length) : midThing T F p q k j = midThing T F (p + 1) 0 k j := by
  unfold midThing
  unfold wordsI at h
  cases hj : T[j]? with
  | none => rfl
  | some t =>
    rw [hj] at h
    simp only at h ⊢
    have : (if k < p then t.l.length else if k = p then q else 0) = (if k < p + 1 then t.l.length else if k = p + 1 then 0 else 0) := by
      by_cases h1 : k < p
      · rw [if_pos h1, if_pos (by omega)]
      · rw [if_neg h1]
        by_cases h2 : k = p
        · rw [if_pos h2, if_pos (by omega), h h2]
        · rw [if_neg h2, if_neg (by omega)]; simp
    rw [this]
theorem midT_turn (T : Things) (F : List Nat) (p q : Nat) : ∀ (ord : List Nat) (k : Nat), (∀ n j, ord[n]? = some j → k + n = p → q = (wordsI T j).length) → midT T F p q k ord = midT T F (p + 1) 0 k ord
  | [], _, _ => rfl
  | j :: ord, k, h => by
    rw [midT, midT, midThing_turn (fun e => h 0 j rfl (by omega)), midT_turn T F p q ord (k + 1) (fun n j' hn e => h (n + 1) j' (by simpa using hn) (by omega))]

theorem placeOf_midT (T : Things) (F : List Nat) (p q : Nat) : ∀ (ord : List Nat) (k n : Nat), placeOf (midT T F p q k ord) n = sumR T (ord.take n)
  | [], _, n => by simp [midT, placeOf, sumR, usedOf]
  | j :: ord, k, 0 => by simp [placeOf, sumR, usedOf]
  | j :: ord, k, n + 1 => by
    have := placeOf_midT T F p q ord (k + 1) n
    unfold placeOf at this ⊢
    rw [midT, List.take_succ_cons, usedOf, midThing_room, this]
    simp [sumR]
/-- Where one of them is. -/
theorem placeIn_get {T : Things} {F ord l : List Nat} (hF : F = ord ++ l) (hnd : ord.Nodup) {n j : Nat} (h : ord[n]? = some j) : placeIn T F j = sumR T (ord.take n) := by
  have hn := (List.getElem?_eq_some_iff.1 h).1
  have e : ord = ord.take n ++ j :: ord.drop (n + 1) := by
    have h' := (List.getElem?_eq_some_iff.1 h).2
    rw [← h', ← List.drop_eq_getElem_cons hn, List.take_append_drop]
  have hj : j ∉ ord.take n := by
    intro hm
    rw [e] at hnd
    exact (List.nodup_append.1 hnd).2.2 j hm j (by simp) rfl
  rw [hF]
  conv => lhs; rw [e]
  rw [List.append_assoc, List.cons_append]
  exact placeIn_new T j _ _ hj
theorem midT_find {T : Things} {F ord l : List Nat} (hF : F = ord ++ l) (hnd : ord.Nodup) (p q : Nat) {n j : Nat} (h : ord[n]? = some j) :
    findT (midT T F p q 0 ord) (wordAt (placeIn T F j)) = some (midThing T F p q n j) := by
  have hn := (List.getElem?_eq_some_iff.1 h).1
  have e : placeIn T F j = placeOf (midT T F p q 0 ord) n := by rw [placeOf_midT]; exact placeIn_get hF hnd h
  rw [findT_findI, e, word_findI (by rw [midT_length]; exact hn)]
  have := midT_get T F p q ord 0 n j h
  rw [Option.bind_some, this, Nat.zero_add]

/-- One word of one thing is set. -/
theorem wordsOf_set : ∀ (T : Things) (n i x : Nat) (t : Thing), T[n]? = some t → i < t.l.length → (wordsOf T).set (placeOf T n + 1 + i) x = wordsOf (T.set n ⟨t.kind, t.l.set i x⟩)
  | [], n, i, x, t, h, _ => by simp at h
  | u :: T, 0, i, x, t, h, hi => by
    simp at h; subst h
    simp only [placeOf, List.take_zero, usedOf, Nat.zero_add, List.set_cons_zero, wordsOf, List.length_set]
    rw [Nat.add_comm 1 i, List.cons_append, List.set_cons_succ, List.set_append_left _ _ hi, List.cons_append]
  | u :: T, n + 1, i, x, t, h, hi => by
    have ih := wordsOf_set T n i x t (by simpa using h) hi
    have e : placeOf (u :: T) (n + 1) = u.room + placeOf T n := by simp [placeOf, usedOf]
    have hl : ((u.l.length * 256 + u.kind) :: u.l).length = u.room := by simp [Thing.room]; omega
    rw [e, List.set_cons_succ, wordsOf, wordsOf, List.set_append_right _ _ (by rw [hl]; omega), hl, ← ih]
    congr 2; omega
theorem headsOf_congr : ∀ (T T' : Things), T.map (fun t => t.l.length) = T'.map (fun t => t.l.length) → headsOf T = headsOf T'
  | [], [], _ => rfl
  | [], _ :: _, h => by simp at h
  | _ :: _, [], h => by simp at h
  | t :: T, t' :: T', h => by
    simp only [List.map_cons, List.cons.injEq] at h
    rw [headsOf, headsOf, h.1, headsOf_congr T T' h.2]
theorem usedOf_congr : ∀ (T T' : Things), T.map (fun t => t.l.length) = T'.map (fun t => t.l.length) → usedOf T = usedOf T'
  | [], [], _ => rfl
  | [], _ :: _, h => by simp at h
  | _ :: _, [], h => by simp at h
  | t :: T, t' :: T', h => by
    simp only [List.map_cons, List.cons.injEq] at h
    rw [usedOf, usedOf, Thing.room, Thing.room, h.1, usedOf_congr T T' h.2]
theorem lens_set (T : Things) (n : Nat) (t u : Thing) (h : T[n]? = some t) (hu : u.l.length = t.l.length) : (T.set n u).map (fun t => t.l.length) = T.map (fun t => t.l.length) := by
  rw [List.map_set]
  apply List.ext_getElem?
  intro i
  rw [List.getElem?_set]
  split
  · rename_i e; subst e
    rw [List.getElem?_map, h]; simp [hu, (List.getElem?_eq_some_iff.1 h).1]
  · rfl
theorem set_words {n p q j w : Nat} {T : Things} {F : List Nat} {t : Thing} (hj : T[j]? = some t) (hw : t.l[q]? = some w) (hp : n = p) :
    (⟨(midThing T F p q n j).kind, (midThing T F p q n j).l.set q (tr T F w)⟩ : Thing) = midThing T F p (q + 1) n j := by
  have hq := (List.getElem?_eq_some_iff.1 hw).1
  unfold midThing
  rw [hj]
  subst hp
  simp only [Nat.lt_irrefl, if_false, if_true, Thing.mk.injEq, true_and]
  rw [List.set_append_right _ _ (by simp; omega)]
  simp only [List.length_map, List.length_take, Nat.min_eq_left (Nat.le_of_lt hq), Nat.sub_self]
  have h' := (List.getElem?_eq_some_iff.1 hw).2
  rw [List.drop_eq_getElem_cons hq, List.set_cons_zero, List.take_add_one, hw, Option.toList_some, List.map_append, List.append_assoc]; rfl
theorem midT_set (T : Things) (F : List Nat) (p q : Nat) {t : Thing} {j w : Nat} (hj : T[j]? = some t) (hw : t.l[q]? = some w) : ∀ (ord : List Nat) (k n : Nat), ord[n]? = some j → k + n = p →
    (midT T F p q k ord).set n ⟨(midThing T F p q p j).kind, (midThing T F p q p j).l.set q (tr T F w)⟩ = midT T F p (q + 1) k ord
  | [], _, _, h, _ => by simp at h
  | x :: ord, k, 0, h, e => by
    simp at h; subst h
    have e' : k = p := by omega
    subst e'
    rw [midT, midT, List.set_cons_zero, set_words hj hw rfl]
    congr 1
    -- the others stay
    have : ∀ (l : List Nat) (m : Nat), k < m → midT T F k q m l = midT T F k (q + 1) m l := by
      intro l
      induction l with
      | nil => intro m _; rfl
      | cons y l ih =>
        intro m hm
        rw [midT, midT, ih (m + 1) (by omega)]
        congr 1
        unfold midThing
        cases T[y]? with
        | none => rfl
        | some u => simp only [if_neg (show ¬ m < k by omega), if_neg (show ¬ m = k by omega)]
    exact this ord (k + 1) (by omega)
  | x :: ord, k, n + 1, h, e => by
    rw [midT, midT, List.set_cons_succ, midT_set T F p q hj hw ord (k + 1) n (by simpa using h) (by omega)]
    congr 1
    unfold midThing
    cases T[x]? with
    | none => rfl
    | some u => simp only; rw [if_pos (by omega), if_pos (by omega)]
end Go.HL
/-
  Walks: helps for what is kept.
-/
namespace Go.HL
open Go.RowKit Go.Proofs
set_option maxHeartbeats 4000000
set_option maxRecDepth 100000
set_option linter.unusedSimpArgs false
set_option linter.unusedVariables false

theorem wcells_set {size : Nat} {T : Things} {n i x : Nat} {t : Thing} (h : T[n]? = some t) (hi : i < t.l.length) :
    (wcells size T).set (placeOf T n + 1 + i) (U x) = wcells size (T.set n ⟨t.kind, t.l.set i x⟩) := by
  have hlen := lens_set T n t ⟨t.kind, t.l.set i x⟩ h (by simp)
  have hu : usedOf (T.set n ⟨t.kind, t.l.set i x⟩) = usedOf T := usedOf_congr _ _ hlen
  have hp : placeOf T n + 1 + i < usedOf T := by
    have hn := (List.getElem?_eq_some_iff.1 h).1
    have e : atP T (placeOf T n) = some t := by rw [atP_ixP, ixP_place T n hn]; simpa using h
    have := (atP_words T _ t e).1
    unfold Thing.room at this; omega
  unfold wcells
  rw [hu, ← wordsOf_set T n i x t h hi, List.set_append_left _ _ (by simpa [wordsOf_length] using hp), List.map_set]
theorem AtA.set {H : HHeap} {g gw gh size : Nat} {T : Things} (hA : AtA H g gw gh size T) {n i x : Nat} {t : Thing} (h : T[n]? = some t) (hi : i < t.l.length) (hx : x < 18446744073709551616) :
    AtA (H.set gw (.cells ((wcells size T).set (placeOf T n + 1 + i) (U x)) true)) g gw gh size (T.set n ⟨t.kind, t.l.set i x⟩) := by
  have hlen := lens_set T n t ⟨t.kind, t.l.set i x⟩ h (by simp)
  have hu : usedOf (T.set n ⟨t.kind, t.l.set i x⟩) = usedOf T := usedOf_congr _ _ hlen
  have hh : headsOf (T.set n ⟨t.kind, t.l.set i x⟩) = headsOf T := headsOf_congr _ _ hlen
  have n1 := hA.ne1
  have n2 := hA.ne2
  have n3 := hA.ne3
  refine ⟨?_, ?_, ?_, by rw [hu]; exact hA.room, hA.big, hA.pos, ?_, n1, n2, n3⟩
  · simp (disch := first | omega | (simp only [nx_push, nx_set, nx_kill]; done) | (simp only [nx_push, nx_set, nx_kill]; omega)) only [get_push_ne, get_push_eq, get_set_ne, get_set_eq, get_kill_ne, nx_push, nx_set, nx_kill]; rw [hA.a]; simp only [acells, hu]
  · simp (disch := first | omega | (simp only [nx_push, nx_set, nx_kill]; done) | (simp only [nx_push, nx_set, nx_kill]; omega)) only [get_push_ne, get_push_eq, get_set_ne, get_set_eq, get_kill_ne, nx_push, nx_set, nx_kill]; rw [wcells_set h hi]
  · simp (disch := first | omega | (simp only [nx_push, nx_set, nx_kill]; done) | (simp only [nx_push, nx_set, nx_kill]; omega)) only [get_push_ne, get_push_eq, get_set_ne, get_set_eq, get_kill_ne, nx_push, nx_set, nx_kill]; rw [hA.h]; simp only [hcells, hh, hu]
  · intro u hu'
    rcases List.mem_or_eq_of_mem_set hu' with h1 | h1
    · exact hA.ok u h1
    · subst h1
      have hk := hA.ok t (List.mem_of_getElem? h)
      refine ⟨hk.k1, hk.k9, by simpa using hk.len, fun y hy => ?_⟩
      rcases List.mem_or_eq_of_mem_set hy with h2 | h2
      · exact hk.words y h2
      · rw [h2]; exact hx

theorem arena_Set1 (H : HHeap) (g gw gh size : Nat) (T : Things) (hA : AtA H g gw gh size T) (n i x : Nat) (t : Thing) (h : T[n]? = some t) (hi : i < t.l.length) (hx : x < 18446744073709551616) (R : Value → HHeap → Prop)
   (hR : R (I 0) (H.set gw (.cells ((wcells size T).set (placeOf T n + 1 + i) (U x)) true))) : HCalls Try.prog 26 [ptr g 0, U (wordAt (placeOf T n)), I i, U x] H R := by
  have hn := (List.getElem?_eq_some_iff.1 h).1
  have hroom := hA.room
  have hbig := hA.big
  have hf : findT T (wordAt (placeOf T n)) = some t := by rw [findT_findI, word_findI hn]; simpa using h
  have ha : atP T (placeOf T n) = some t := by rw [atP_ixP, ixP_place T n hn]; simpa using h
  have hp := (atP_words T _ t ha).1
  unfold Thing.room at hp
  have hd : wordAt (placeOf T n) / 8 = placeOf T n := by unfold wordAt; omega
  refine HCalls.of_hw Try.func26 rfl _ Try.ntmps26 _ (by rw [Try.results26]) ?_
  rw [hframe0_eq _ _ (by simp)]
  simp only [List.zipIdx_cons, List.zipIdx_nil, List.map_cons, List.map_nil, Nat.reduceAdd]
  simp (disch := first | omega | (show allOne _ = true; simp [allOne, Value.oneCell']) | (simp only [List.length_cons, List.length_nil, List.length_set, List.length_map, List.length_replicate, List.length_append, List.length_take, List.length_drop, Int.toNat_natCast, Int.toNat_of_nonneg, nx_push, nx_set, nx_kill]; done) | (simp only [List.length_cons, List.length_nil, List.length_set, List.length_map, List.length_replicate, List.length_append, List.length_take, List.length_drop, Int.toNat_natCast, Int.toNat_of_nonneg, nx_push, nx_set, nx_kill]; omega)) only [go_sem, reduceCtorEq, Nat.reduceAdd, Nat.reduceSub, Nat.reduceMul, Nat.reduceLT, Nat.reduceLeDiff, Nat.reduceEqDiff, Nat.reduceBEq, Nat.reduceBNe, Int.reduceBEq, Int.reduceEq, Int.reduceLT, Int.reduceLE, Int.reduceAdd, Int.reduceSub, ↓reduceIte, Int.reduceToNat, Nat.reduceShiftRight, Nat.reduceAnd]
  refine arena_at _ _ _ _ _ _ hA _ (by unfold wordAt; omega) i _ ?_
  have hl := wcells_length hA.room
  rw [atV, hf]
  simp only
  rw [if_pos (by omega), hd]
  simp (disch := first | omega | (show allOne _ = true; simp [allOne, Value.oneCell']) | (simp only [List.length_cons, List.length_nil, List.length_set, List.length_map, List.length_replicate, List.length_append, List.length_take, List.length_drop, Int.toNat_natCast, Int.toNat_of_nonneg, nx_push, nx_set, nx_kill]; done) | (simp only [List.length_cons, List.length_nil, List.length_set, List.length_map, List.length_replicate, List.length_append, List.length_take, List.length_drop, Int.toNat_natCast, Int.toNat_of_nonneg, nx_push, nx_set, nx_kill]; omega)) only [go_sem, reduceCtorEq, Nat.reduceAdd, Nat.reduceSub, Nat.reduceMul, Nat.reduceLT, Nat.reduceLeDiff, Nat.reduceEqDiff, Nat.reduceBEq, Nat.reduceBNe, Int.reduceBEq, Int.reduceEq, Int.reduceLT, Int.reduceLE, Int.reduceAdd, Int.reduceSub, ↓reduceIte, Int.reduceToNat, Nat.reduceShiftRight, Nat.reduceAnd, hA.w, stc_cells]
  exact hR

/-- A word more, behind a row that grew by append alone. -/
theorem append_one (H : HHeap) (v : Value) (l : List Nat) (x : Nat) (hv : MadeAt H v l) (hl : l.length ≤ 1073741824) :
    ∃ v' H', apd (H.push (.cells [U x] true)) 1 8 v ([U x], 1) = some (v', H') ∧ MadeAt H' v' (l ++ [x]) ∧ H.next ≤ H'.next ∧ (∀ b, b < H.next → b ∉ vblk v → H'.get b = H.get b) ∧ (∀ b ∈ vblk v', H.next ≤ b) := by
  rcases hv with ⟨rfl, rfl⟩ | ⟨mb, md, rfl, mbl, mbg⟩
  · refine ⟨.slice (some ⟨H.next + 1, 0, some 2⟩) 1 1, (H.push (.cells [U x] true)).push (.cells [U x] true), ?_, ?_, ?_, ?_, ?_⟩
    · rw [apd_nil _ _ _ _ (by omega) (by omega) (by omega)]; rfl
    · exact .inr ⟨H.next + 1, by simp, by simp, by simp (disch := first | omega | (simp only [nx_push, nx_set, nx_kill]; done) | (simp only [nx_push, nx_set, nx_kill]; omega)) only [get_push_ne, get_push_eq, get_set_ne, get_set_eq, get_kill_ne, nx_push, nx_set, nx_kill]; omega, by simp (disch := first | omega | (simp only [nx_push, nx_set, nx_kill]; done) | (simp only [nx_push, nx_set, nx_kill]; omega)) only [get_push_ne, get_push_eq, get_set_ne, get_set_eq, get_kill_ne, nx_push, nx_set, nx_kill]; rfl⟩
    · simp (disch := first | omega | (simp only [nx_push, nx_set, nx_kill]; done) | (simp only [nx_push, nx_set, nx_kill]; omega)) only [get_push_ne, get_push_eq, get_set_ne, get_set_eq, get_kill_ne, nx_push, nx_set, nx_kill]; omega
    · intro b hb _; simp (disch := first | omega | (simp only [nx_push, nx_set, nx_kill]; done) | (simp only [nx_push, nx_set, nx_kill]; omega)) only [get_push_ne, get_push_eq, get_set_ne, get_set_eq, get_kill_ne, nx_push, nx_set, nx_kill]
    · intro b hb; simp [vblk] at hb; omega
  · refine ⟨.slice (some ⟨H.next + 1, 0, some 2⟩) (l.length + 1) (l.length + 1), ((H.push (.cells [U x] true)).kill mb).push (.cells (l.map U ++ [U x]) true), ?_, ?_, ?_, ?_, ?_⟩
    · rw [apd_some _ _ _ _ _ _ _ _ _ (by omega) (by omega) (by omega)]
      have : (H.push (HObj.cells [U x] true)).get mb = some (.cells (l.map U) true) := by simp (disch := first | omega | (simp only [nx_push, nx_set, nx_kill]; done) | (simp only [nx_push, nx_set, nx_kill]; omega)) only [get_push_ne, get_push_eq, get_set_ne, get_set_eq, get_kill_ne, nx_push, nx_set, nx_kill]; exact mbg
      rw [this, apo_grow1 _ _ _ _ _ (by omega) (by simp)]
      simp (disch := first | omega | (simp only [nx_push, nx_set, nx_kill]; done) | (simp only [nx_push, nx_set, nx_kill]; omega)) only [get_push_ne, get_push_eq, get_set_ne, get_set_eq, get_kill_ne, nx_push, nx_set, nx_kill]
    · exact .inr ⟨H.next + 1, by simp, by simp, by simp (disch := first | omega | (simp only [nx_push, nx_set, nx_kill]; done) | (simp only [nx_push, nx_set, nx_kill]; omega)) only [get_push_ne, get_push_eq, get_set_ne, get_set_eq, get_kill_ne, nx_push, nx_set, nx_kill]; omega, by simp (disch := first | omega | (simp only [nx_push, nx_set, nx_kill]; done) | (simp only [nx_push, nx_set, nx_kill]; omega)) only [get_push_ne, get_push_eq, get_set_ne, get_set_eq, get_kill_ne, nx_push, nx_set, nx_kill]; simp⟩
    · simp (disch := first | omega | (simp only [nx_push, nx_set, nx_kill]; done) | (simp only [nx_push, nx_set, nx_kill]; omega)) only [get_push_ne, get_push_eq, get_set_ne, get_set_eq, get_kill_ne, nx_push, nx_set, nx_kill]; omega
    · intro b hb hb2
      have : b ≠ mb := fun e => hb2 (by simp [vblk, e])
      simp (disch := first | omega | (simp only [nx_push, nx_set, nx_kill]; done) | (simp only [nx_push, nx_set, nx_kill]; omega)) only [get_push_ne, get_push_eq, get_set_ne, get_set_eq, get_kill_ne, nx_push, nx_set, nx_kill]
    · intro b hb; simp [vblk] at hb; omega

/-- A row of values that is only read. -/
def RowAt (H : HHeap) (s : Value) (vs : List Value) : Prop :=
  ∃ a c, s = .slice a vs.length c ∧ ((vs = [] ∧ (a = none → c = 0)) ∨ ∃ b o k cs rw, a = some ⟨b, o, k⟩ ∧ b < H.next ∧ H.get b = some (.cells cs rw) ∧ ∀ (i : Nat) v, vs[i]? = some v → cs[o + i]? = some v)
end Go.HL
/-
  Rows that grow.
-/
namespace Go.HL
set_option linter.unusedSimpArgs false
set_option linter.unusedVariables false

/-- The block of a row. -/
def sblk : Value → List Nat
  | .slice (some a) _ _ => [a.block]
  | _ => []
/-- A row that was made by append alone: of n things, of e cells each. -/
def GrAt (H : HHeap) (v : Value) (e n : Nat) (cs : List Value) : Prop :=
  cs.length = n * e ∧ ((n = 0 ∧ v = .slice none 0 0) ∨ (∃ b, n ≠ 0 ∧ v = .slice (some ⟨b, 0, some (2 * e)⟩) n n ∧ H.get b = some (.cells cs true)))

theorem GrAt.nil (H : HHeap) (e : Nat) : GrAt H (.slice none 0 0) e 0 [] := ⟨by simp, .inl ⟨rfl, rfl⟩⟩
theorem GrAt.frame {H H' : HHeap} {v : Value} {e n : Nat} {cs : List Value} (h : GrAt H v e n cs) (f : ∀ b ∈ sblk v, H'.get b = H.get b) : GrAt H' v e n cs := by
  obtain ⟨h0, h | ⟨b, h1, h2, h3⟩⟩ := h
  · exact ⟨h0, .inl h⟩
  · exact ⟨h0, .inr ⟨b, h1, h2, by rw [f b (by rw [h2]; simp [sblk])]; exact h3⟩⟩
theorem GrAt.lt {H : HHeap} {v : Value} {e n : Nat} {cs : List Value} (h : GrAt H v e n cs) (ok : H.Ok) : ∀ b ∈ sblk v, b < H.next := by
  obtain ⟨h0, ⟨_, rfl⟩ | ⟨b, h1, rfl, h3⟩⟩ := h
  · simp [sblk]
  · intro x hx; simp [sblk] at hx; subst hx; exact ok _ _ h3
theorem GrAt.append {H : HHeap} {v : Value} {e n by' : Nat} {cs : List Value} (h : GrAt H v e n cs) (he : 0 < e) {m : Nat} {xs : List Value} (hx : xs.length = m * e) (hm : 0 < m)
    (h1 : (n + m) * by' ≤ 1099511627776) (h2 : n + m ≤ 1099511627776) :
    ∃ H', apd H e by' v (xs, m) = some (.slice (some ⟨H.next, 0, some (2 * e)⟩) (n + m) (n + m), H') ∧ H'.get H.next = some (.cells (cs ++ xs) true) ∧
      GrAt H' (.slice (some ⟨H.next, 0, some (2 * e)⟩) (n + m) (n + m)) e (n + m) (cs ++ xs) ∧ H'.next = H.next + 1 ∧ (∀ b, b ≠ H.next → b ∉ sblk v → H'.get b = H.get b) := by
  obtain ⟨h0, ⟨rfl, rfl⟩ | ⟨b, hn, rfl, h3⟩⟩ := h
  · have : cs = [] := by simpa using h0
    subst this
    refine ⟨H.push (.cells xs true), ?_, by simp [HHeap.get_push], ⟨by simp [hx], .inr ⟨H.next, by omega, rfl, by simp [HHeap.get_push]⟩⟩, by simp, fun b hb _ => by simp [HHeap.get_push, hb]⟩
    rw [apd_nil _ _ _ _ hm (by simpa using h1) (by omega)]
    simp
  · refine ⟨(H.kill b).push (.cells (cs ++ xs) true), ?_, by simp [HHeap.get_push], ⟨by simp [h0, hx, Nat.add_mul], .inr ⟨H.next, by omega, rfl, by simp [HHeap.get_push]⟩⟩, by simp, fun c hc hb => ?_⟩
    · rw [apd_some _ _ _ _ _ _ _ _ _ hm h1 h2, h3, apo_grow e b n m xs cs he hm h0]
    · have : c ≠ b := by rintro rfl; exact hb (by simp [sblk])
      simp [HHeap.get_push, hc, HHeap.get_kill, this]
theorem GrAt.get {H : HHeap} {v : Value} {e n : Nat} {cs : List Value} (h : GrAt H v e n cs) (hn : n ≠ 0) : ∃ b, v = .slice (some ⟨b, 0, some (2 * e)⟩) n n ∧ H.get b = some (.cells cs true) := by
  obtain ⟨h0, ⟨rfl, _⟩ | ⟨b, h1, h2, h3⟩⟩ := h
  · exact absurd rfl hn
  · exact ⟨b, h2, h3⟩
theorem GrAt.len {H : HHeap} {v : Value} {e n : Nat} {cs : List Value} (h : GrAt H v e n cs) : ∃ a, v = .slice a n n := by
  obtain ⟨h0, ⟨rfl, h⟩ | ⟨b, h1, h2, h3⟩⟩ := h
  · exact ⟨_, h⟩
  · exact ⟨_, h2⟩
/-- A row without room, of a known capacity, grows. -/
theorem apo_fresh (H : HHeap) (n b m : Nat) (vs cs : List Value) (rw : Bool) (h : 0 < m) : apo H n b 0 none 0 0 m vs (some (.cells cs rw)) = some (.slice (some ⟨H.next, 0, some (2 * n)⟩) m m, H.push (.cells vs true)) := by
  unfold apo; simp only
  rw [if_neg (by omega), if_pos (by omega)]
  simp
theorem cells1 {cs : List Value} {a : Nat} {x : Value} (h : cs[a]? = some x) : (cs.drop a).take 1 = [x] := by
  obtain ⟨h1, h2⟩ := List.getElem?_eq_some_iff.1 h
  rw [List.drop_eq_getElem_cons h1, h2]; rfl
theorem cells2 {cs : List Value} {a : Nat} {x y : Value} (h : cs[a]? = some x) (k : cs[a + 1]? = some y) : (cs.drop a).take 2 = [x, y] := by
  obtain ⟨h1, h2⟩ := List.getElem?_eq_some_iff.1 h
  rw [List.drop_eq_getElem_cons h1, h2, List.take_succ_cons, cells1 k]
theorem cells3 {cs : List Value} {a : Nat} {x y z : Value} (h : cs[a]? = some x) (k : cs[a + 1]? = some y) (l : cs[a + 2]? = some z) : (cs.drop a).take 3 = [x, y, z] := by
  obtain ⟨h1, h2⟩ := List.getElem?_eq_some_iff.1 h
  rw [List.drop_eq_getElem_cons h1, h2, List.take_succ_cons, cells2 k l]
end Go.HL
/-
  Walks: the document's words, and its arenas (making).
-/
namespace Go.HL
open Go.RowKit Go.Proofs
set_option maxHeartbeats 4000000
set_option maxRecDepth 100000
set_option linter.unusedSimpArgs false
set_option linter.unusedVariables false

theorem r01_Of (n : Nat) (hn : n < 1099511627776) (H : HHeap) (R : Value → HHeap → Prop) (hR : R (.tuple #[U (wordAt n), I 0]) H) : HCalls Try.prog 37 [I 1, I n] H R := by
  refine HCalls.of_hw Try.func37 rfl _ Try.ntmps37 _ (by rw [Try.results37]) ?_
  rw [hframe0_eq _ _ (by simp)]
  simp only [List.zipIdx_cons, List.zipIdx_nil, List.map_cons, List.map_nil, Nat.reduceAdd]
  simp (disch := first | omega | (show allOne _ = true; simp [allOne, Value.oneCell']) | (simp only [List.length_cons, List.length_nil, List.length_set, List.length_map, List.length_replicate, List.length_append, List.length_take, List.length_drop, Int.toNat_natCast, Int.toNat_of_nonneg, nx_push, nx_set, nx_kill]; done) | (simp only [List.length_cons, List.length_nil, List.length_set, List.length_map, List.length_replicate, List.length_append, List.length_take, List.length_drop, Int.toNat_natCast, Int.toNat_of_nonneg, nx_push, nx_set, nx_kill]; omega)) only [go_sem, reduceCtorEq, Nat.reduceAdd, Nat.reduceSub, Nat.reduceMul, Nat.reduceLT, Nat.reduceLeDiff, Nat.reduceEqDiff, Nat.reduceBEq, Nat.reduceBNe, Int.reduceBEq, Int.reduceEq, Int.reduceLT, Int.reduceLE, Int.reduceAdd, Int.reduceSub, ↓reduceIte, Int.reduceToNat, Nat.reduceShiftRight, Nat.reduceAnd]
  rw [show (n : Int) * 8 + 1 = ((wordAt n : Nat) : Int) by unfold wordAt; omega]
  exact hR
theorem r01_Of_big (n : Nat) (hn : 1099511627776 ≤ n) (hn' : n < 9223372036854775808) (H : HHeap) (R : Value → HHeap → Prop) (hR : R (.tuple #[U 0, I 1]) H) : HCalls Try.prog 37 [I 1, I n] H R := by
  refine HCalls.of_hw Try.func37 rfl _ Try.ntmps37 _ (by rw [Try.results37]) ?_
  rw [hframe0_eq _ _ (by simp)]
  simp only [List.zipIdx_cons, List.zipIdx_nil, List.map_cons, List.map_nil, Nat.reduceAdd]
  simp (disch := first | omega | (show allOne _ = true; simp [allOne, Value.oneCell']) | (simp only [List.length_cons, List.length_nil, List.length_set, List.length_map, List.length_replicate, List.length_append, List.length_take, List.length_drop, Int.toNat_natCast, Int.toNat_of_nonneg, nx_push, nx_set, nx_kill]; done) | (simp only [List.length_cons, List.length_nil, List.length_set, List.length_map, List.length_replicate, List.length_append, List.length_take, List.length_drop, Int.toNat_natCast, Int.toNat_of_nonneg, nx_push, nx_set, nx_kill]; omega)) only [go_sem, reduceCtorEq, Nat.reduceAdd, Nat.reduceSub, Nat.reduceMul, Nat.reduceLT, Nat.reduceLeDiff, Nat.reduceEqDiff, Nat.reduceBEq, Nat.reduceBNe, Int.reduceBEq, Int.reduceEq, Int.reduceLT, Int.reduceLE, Int.reduceAdd, Int.reduceSub, ↓reduceIte, Int.reduceToNat, Nat.reduceShiftRight, Nat.reduceAnd]
  exact hR
theorem r01_To (x : Nat) (hx : x < 18446744073709551616) (H : HHeap) (R : Value → HHeap → Prop) (hR : R (toV x) H) : HCalls Try.prog 34 [I 1, U x] H R := by
  refine HCalls.of_hw Try.func34 rfl _ Try.ntmps34 _ (by rw [Try.results34]) ?_
  rw [hframe0_eq _ _ (by simp)]
  simp only [List.zipIdx_cons, List.zipIdx_nil, List.map_cons, List.map_nil, Nat.reduceAdd]
  simp (disch := first | omega | (show allOne _ = true; simp [allOne, Value.oneCell']) | (simp only [List.length_cons, List.length_nil, List.length_set, List.length_map, List.length_replicate, List.length_append, List.length_take, List.length_drop, Int.toNat_natCast, Int.toNat_of_nonneg, nx_push, nx_set, nx_kill]; done) | (simp only [List.length_cons, List.length_nil, List.length_set, List.length_map, List.length_replicate, List.length_append, List.length_take, List.length_drop, Int.toNat_natCast, Int.toNat_of_nonneg, nx_push, nx_set, nx_kill]; omega)) only [go_sem, reduceCtorEq, Nat.reduceAdd, Nat.reduceSub, Nat.reduceMul, Nat.reduceLT, Nat.reduceLeDiff, Nat.reduceEqDiff, Nat.reduceBEq, Nat.reduceBNe, Int.reduceBEq, Int.reduceEq, Int.reduceLT, Int.reduceLE, Int.reduceAdd, Int.reduceSub, ↓reduceIte, Int.reduceToNat, Nat.reduceShiftRight, Nat.reduceAnd]
  have hd : ((x : Int) / 8) = ((x / 8 : Nat) : Int) := by omega
  rw [hd]
  by_cases h2 : x / 8 < 1099511627776
  · refine r01_Of (x / 8) h2 _ _ ?_
    by_cases h1 : x % 8 = 1
    · rw [toV, if_pos ⟨h1, h2⟩] at hR
      have : wordAt (x / 8) = x := by unfold wordAt; omega
      rw [this]
      simp (disch := first | omega | (show allOne _ = true; simp [allOne, Value.oneCell']) | (simp only [List.length_cons, List.length_nil, List.length_set, List.length_map, List.length_replicate, List.length_append, List.length_take, List.length_drop, Int.toNat_natCast, Int.toNat_of_nonneg, nx_push, nx_set, nx_kill]; done) | (simp only [List.length_cons, List.length_nil, List.length_set, List.length_map, List.length_replicate, List.length_append, List.length_take, List.length_drop, Int.toNat_natCast, Int.toNat_of_nonneg, nx_push, nx_set, nx_kill]; omega)) only [go_sem, reduceCtorEq, Nat.reduceAdd, Nat.reduceSub, Nat.reduceMul, Nat.reduceLT, Nat.reduceLeDiff, Nat.reduceEqDiff, Nat.reduceBEq, Nat.reduceBNe, Int.reduceBEq, Int.reduceEq, Int.reduceLT, Int.reduceLE, Int.reduceAdd, Int.reduceSub, ↓reduceIte, Int.reduceToNat, Nat.reduceShiftRight, Nat.reduceAnd]
      exact hR
    · rw [toV, if_neg (by simp [h1])] at hR
      have : wordAt (x / 8) ≠ x := by unfold wordAt; omega
      simp (disch := first | omega | (show allOne _ = true; simp [allOne, Value.oneCell']) | (simp only [List.length_cons, List.length_nil, List.length_set, List.length_map, List.length_replicate, List.length_append, List.length_take, List.length_drop, Int.toNat_natCast, Int.toNat_of_nonneg, nx_push, nx_set, nx_kill]; done) | (simp only [List.length_cons, List.length_nil, List.length_set, List.length_map, List.length_replicate, List.length_append, List.length_take, List.length_drop, Int.toNat_natCast, Int.toNat_of_nonneg, nx_push, nx_set, nx_kill]; omega)) only [go_sem, reduceCtorEq, Nat.reduceAdd, Nat.reduceSub, Nat.reduceMul, Nat.reduceLT, Nat.reduceLeDiff, Nat.reduceEqDiff, Nat.reduceBEq, Nat.reduceBNe, Int.reduceBEq, Int.reduceEq, Int.reduceLT, Int.reduceLE, Int.reduceAdd, Int.reduceSub, ↓reduceIte, Int.reduceToNat, Nat.reduceShiftRight, Nat.reduceAnd]
      exact hR
  · refine r01_Of_big (x / 8) (by omega) (by omega) _ _ ?_
    rw [toV, if_neg (by simp [h2])] at hR
    simp (disch := first | omega | (show allOne _ = true; simp [allOne, Value.oneCell']) | (simp only [List.length_cons, List.length_nil, List.length_set, List.length_map, List.length_replicate, List.length_append, List.length_take, List.length_drop, Int.toNat_natCast, Int.toNat_of_nonneg, nx_push, nx_set, nx_kill]; done) | (simp only [List.length_cons, List.length_nil, List.length_set, List.length_map, List.length_replicate, List.length_append, List.length_take, List.length_drop, Int.toNat_natCast, Int.toNat_of_nonneg, nx_push, nx_set, nx_kill]; omega)) only [go_sem, reduceCtorEq, Nat.reduceAdd, Nat.reduceSub, Nat.reduceMul, Nat.reduceLT, Nat.reduceLeDiff, Nat.reduceEqDiff, Nat.reduceBEq, Nat.reduceBNe, Int.reduceBEq, Int.reduceEq, Int.reduceLT, Int.reduceLE, Int.reduceAdd, Int.reduceSub, ↓reduceIte, Int.reduceToNat, Nat.reduceShiftRight, Nat.reduceAnd]
    exact hR

/-- The words of a thing of the document's. -/
def LAt (H : HHeap) (lv : Value) (l : List Nat) : Prop :=
  (l = [] ∧ ∃ b, b < H.next ∧ lv = .slice (some ⟨b, 0, none⟩) 0 0) ∨ (∃ b, l ≠ [] ∧ lv = .slice (some ⟨b, 0, some 2⟩) l.length l.length ∧ H.get b = some (.cells (l.map U) true))
def rcells : Nat → Things → List Value → List Value
  | p, t :: T, lv :: lvs => I p :: I t.kind :: lv :: rcells (p + t.room) T lvs
  | _, _, _ => []
theorem rcells_length : ∀ (p : Nat) (T : Things) (lvs : List Value), lvs.length = T.length → (rcells p T lvs).length = T.length * 3
  | _, [], [], _ => rfl
  | _, [], _ :: _, h => by simp at h
  | _, _ :: _, [], h => by simp at h
  | p, t :: T, lv :: lvs, h => by simp [rcells, rcells_length (p + t.room) T lvs (by simpa using h)]; omega
theorem rcells_append : ∀ (p : Nat) (T : Things) (lvs : List Value) (t : Thing) (lv : Value), lvs.length = T.length → rcells p (T ++ [t]) (lvs ++ [lv]) = rcells p T lvs ++ [I (p + usedOf T : Nat), I t.kind, lv]
  | _, [], [], _, _, _ => by simp [rcells, usedOf]
  | _, [], _ :: _, _, _, h => by simp at h
  | _, _ :: _, [], _, _, h => by simp at h
  | p, t :: T, lv :: lvs, t', lv', h => by
    simp only [List.cons_append, rcells, rcells_append (p + t.room) T lvs t' lv' (by simpa using h), usedOf]
    rw [show p + t.room + usedOf T = p + (t.room + usedOf T) by omega]
/-- All blocks of an arena of the document's. -/
def rblks (gr : Nat) (tv : Value) (lvs : List Value) : List Nat := gr :: (sblk tv ++ lvs.flatMap sblk)
structure RefAt (H : HHeap) (gr size : Nat) (T : Things) (tv : Value) (lvs : List Value) : Prop where
  s : H.get gr = some (.cells [I size, I (usedOf T), tv] true)
  t : GrAt H tv 3 T.length (rcells 0 T lvs)
  len : lvs.length = T.length
  l : ∀ (i : Nat) t lv, T[i]? = some t → lvs[i]? = some lv → LAt H lv t.l
  nd : (rblks gr tv lvs).Nodup
  ok : TOk T
theorem LAt.frame {H H' : HHeap} {lv : Value} {l : List Nat} (h : LAt H lv l) (hn : H.next ≤ H'.next) (f : ∀ b ∈ sblk lv, H'.get b = H.get b) : LAt H' lv l := by
  rcases h with ⟨h1, b, h2, h3⟩ | ⟨b, h1, h2, h3⟩
  · exact .inl ⟨h1, b, by omega, h3⟩
  · exact .inr ⟨b, h1, h2, by rw [f b (by rw [h2]; simp [sblk])]; exact h3⟩
theorem RefAt.frame {H H' : HHeap} {gr size : Nat} {T : Things} {tv : Value} {lvs : List Value} (h : RefAt H gr size T tv lvs) (hn : H.next ≤ H'.next) (f : ∀ b ∈ rblks gr tv lvs, H'.get b = H.get b) : RefAt H' gr size T tv lvs :=
  ⟨by rw [f gr (by simp [rblks])]; exact h.s, h.t.frame fun b hb => f b (by simp [rblks, hb]), h.len,
    fun i t lv e e' => (h.l i t lv e e').frame hn fun b hb => f b (by
      simp only [rblks, List.mem_cons, List.mem_append, List.mem_flatMap]
      exact .inr (.inr ⟨lv, List.mem_of_getElem? e', hb⟩)), h.nd, h.ok⟩
theorem LAt.lt {H : HHeap} {lv : Value} {l : List Nat} (h : LAt H lv l) (ok : H.Ok) : ∀ b ∈ sblk lv, b < H.next := by
  rcases h with ⟨h1, b, h2, rfl⟩ | ⟨b, h1, rfl, h3⟩
  · intro x hx; simp [sblk] at hx; omega
  · intro x hx; simp [sblk] at hx; subst hx; exact ok _ _ h3
theorem RefAt.lt {H : HHeap} {gr size : Nat} {T : Things} {tv : Value} {lvs : List Value} (h : RefAt H gr size T tv lvs) (ok : H.Ok) : ∀ b ∈ rblks gr tv lvs, b < H.next := by
  intro b hb
  simp only [rblks, List.mem_cons, List.mem_append, List.mem_flatMap] at hb
  rcases hb with rfl | hb | ⟨lv, h1, h2⟩
  · exact ok _ _ h.s
  · exact h.t.lt ok b hb
  · obtain ⟨i, hi⟩ := List.getElem?_of_mem h1
    have hil : i < T.length := by rw [← h.len]; exact (List.getElem?_eq_some_iff.1 hi).1
    exact (h.l i _ lv (List.getElem?_eq_getElem hil) hi).lt ok b h2

theorem r02_New (n : Nat) (h1 : 1 ≤ n) (h2 : n ≤ 65536) (H : HHeap) (R : Value → HHeap → Prop)
    (hR : ∀ H', RefAt H' H.next n [] (.slice none 0 0) [] → H'.next = H.next + 1 → (∀ b, b ≠ H.next → H'.get b = H.get b) → R (.tuple #[ptr H.next 0, I 0]) H') : HCalls Try.prog 27 [I n] H R := by
  refine HCalls.of_hw Try.func27 rfl _ Try.ntmps27 _ (by rw [Try.results27]) ?_
  rw [hframe0_eq _ _ (by simp)]
  simp only [List.zipIdx_cons, List.zipIdx_nil, List.map_cons, List.map_nil, Nat.reduceAdd]
  simp (disch := first | omega | (show allOne _ = true; simp [allOne, Value.oneCell']) | (simp only [List.length_cons, List.length_nil, List.length_set, List.length_map, List.length_replicate, List.length_append, List.length_take, List.length_drop, Int.toNat_natCast, Int.toNat_of_nonneg, nx_push, nx_set, nx_kill]; done) | (simp only [List.length_cons, List.length_nil, List.length_set, List.length_map, List.length_replicate, List.length_append, List.length_take, List.length_drop, Int.toNat_natCast, Int.toNat_of_nonneg, nx_push, nx_set, nx_kill]; omega)) only [go_sem, reduceCtorEq, Nat.reduceAdd, Nat.reduceSub, Nat.reduceMul, Nat.reduceLT, Nat.reduceLeDiff, Nat.reduceEqDiff, Nat.reduceBEq, Nat.reduceBNe, Int.reduceBEq, Int.reduceEq, Int.reduceLT, Int.reduceLE, Int.reduceAdd, Int.reduceSub, ↓reduceIte, Int.reduceToNat, Nat.reduceShiftRight, Nat.reduceAnd, hbox_agg]
  exact hR _ ⟨by simp (disch := first | omega | (simp only [nx_push, nx_set, nx_kill]; done) | (simp only [nx_push, nx_set, nx_kill]; omega)) only [get_push_ne, get_push_eq, get_set_ne, get_set_eq, get_kill_ne, nx_push, nx_set, nx_kill]; rfl, GrAt.nil _ _, rfl, by simp, by simp [rblks, sblk], by simp [TOk]⟩ (by simp (disch := first | omega | (simp only [nx_push, nx_set, nx_kill]; done) | (simp only [nx_push, nx_set, nx_kill]; omega)) only [get_push_ne, get_push_eq, get_set_ne, get_set_eq, get_kill_ne, nx_push, nx_set, nx_kill]) (fun b hb => by simp (disch := first | omega | (simp only [nx_push, nx_set, nx_kill]; done) | (simp only [nx_push, nx_set, nx_kill]; omega)) only [get_push_ne, get_push_eq, get_set_ne, get_set_eq, get_kill_ne, nx_push, nx_set, nx_kill])

theorem r02_Alloc (H : HHeap) (gr size : Nat) (T : Things) (tv : Value) (lvs : List Value) (hA : RefAt H gr size T tv lvs) (hsz : size ≤ 65536) (hu : usedOf T ≤ size) (k : Int) (s : Value) (l : List Nat) (n : Nat) (hn : n = l.length) (hl : ∀ x ∈ l, x < 18446744073709551616) (a : Option Addr) (c : Nat) (hs : s = .slice a n c)
    (hsrc : ∀ H' : HHeap, (∀ b, b < H.next → b ∉ rblks gr tv lvs → H'.get b = H.get b) → hsource H' 1 s = some (l.map U, n)) (R : Value → HHeap → Prop) 
    (h1 : ∀ H' tv' lv, (1 ≤ k ∧ k ≤ 9) → n ≤ 255 → usedOf T + n + 1 ≤ size → RefAt H' gr size (T ++ [⟨k.toNat, l⟩]) tv' (lvs ++ [lv]) → H.next ≤ H'.next → (∀ b, b < H.next → b ∉ rblks gr tv lvs → H'.get b = H.get b) →
      (∀ b ∈ rblks gr tv' (lvs ++ [lv]), b ∈ rblks gr tv lvs ∨ H.next ≤ b) → R (.tuple #[U (wordAt (usedOf T)), I 0]) H')
    (h2 : (1 ≤ k ∧ k ≤ 9) → n ≤ 255 → size < usedOf T + n + 1 → R (.tuple #[U 0, I 20]) H)
    (h3 : ¬ ((1 ≤ k ∧ k ≤ 9) ∧ n ≤ 255) → R (.tuple #[U 0, I 1]) H) : HCalls Try.prog 28 [ptr gr 0, I k, s] H R := by
  subst hs
  refine HCalls.ok fun hok => ?_
  refine HCalls.of_hw Try.func28 rfl _ Try.ntmps28 _ (by rw [Try.results28]) ?_
  rw [hframe0_eq _ _ (by simp)]
  simp only [List.zipIdx_cons, List.zipIdx_nil, List.map_cons, List.map_nil, Nat.reduceAdd]
  by_cases hk1 : 1 ≤ k
  · by_cases hk2 : k ≤ 9
    · by_cases hn2 : n ≤ 255
      · simp (disch := first | omega | (show allOne _ = true; simp [allOne, Value.oneCell']) | (simp only [List.length_cons, List.length_nil, List.length_set, List.length_map, List.length_replicate, List.length_append, List.length_take, List.length_drop, Int.toNat_natCast, Int.toNat_of_nonneg, nx_push, nx_set, nx_kill]; done) | (simp only [List.length_cons, List.length_nil, List.length_set, List.length_map, List.length_replicate, List.length_append, List.length_take, List.length_drop, Int.toNat_natCast, Int.toNat_of_nonneg, nx_push, nx_set, nx_kill]; omega)) only [go_sem, reduceCtorEq, Nat.reduceAdd, Nat.reduceSub, Nat.reduceMul, Nat.reduceLT, Nat.reduceLeDiff, Nat.reduceEqDiff, Nat.reduceBEq, Nat.reduceBNe, Int.reduceBEq, Int.reduceEq, Int.reduceLT, Int.reduceLE, Int.reduceAdd, Int.reduceSub, ↓reduceIte, Int.reduceToNat, Nat.reduceShiftRight, Nat.reduceAnd]
        refine Hwp.drawn mixed [0, 1, 3, 7, 0, 16, 48, 112, 255, 0, 512, 1536, 4095] (.op 0 (.op 1 (.op 2 (.op 3 (.op 4 (.op 5 (.op 6 (.op 7 (.op 8 (.op 9 (.op 10 (.op 11 (.op 12 .done))))))))))))) (by kernel_rfl) ?_
        have hs := hA.s
        by_cases hr : usedOf T + n + 1 ≤ size
        · simp (disch := first | omega | (show allOne _ = true; simp [allOne, Value.oneCell']) | (simp only [List.length_cons, List.length_nil, List.length_set, List.length_map, List.length_replicate, List.length_append, List.length_take, List.length_drop, Int.toNat_natCast, Int.toNat_of_nonneg, nx_push, nx_set, nx_kill]; done) | (simp only [List.length_cons, List.length_nil, List.length_set, List.length_map, List.length_replicate, List.length_append, List.length_take, List.length_drop, Int.toNat_natCast, Int.toNat_of_nonneg, nx_push, nx_set, nx_kill]; omega)) only [go_sem, reduceCtorEq, Nat.reduceAdd, Nat.reduceSub, Nat.reduceMul, Nat.reduceLT, Nat.reduceLeDiff, Nat.reduceEqDiff, Nat.reduceBEq, Nat.reduceBNe, Int.reduceBEq, Int.reduceEq, Int.reduceLT, Int.reduceLE, Int.reduceAdd, Int.reduceSub, ↓reduceIte, Int.reduceToNat, Nat.reduceShiftRight, Nat.reduceAnd, hs, ldc_cells]
          refine r01_Of _ (by omega) _ _ ?_
          simp (disch := first | omega | (show allOne _ = true; simp [allOne, Value.oneCell']) | (simp only [List.length_cons, List.length_nil, List.length_set, List.length_map, List.length_replicate, List.length_append, List.length_take, List.length_drop, Int.toNat_natCast, Int.toNat_of_nonneg, nx_push, nx_set, nx_kill]; done) | (simp only [List.length_cons, List.length_nil, List.length_set, List.length_map, List.length_replicate, List.length_append, List.length_take, List.length_drop, Int.toNat_natCast, Int.toNat_of_nonneg, nx_push, nx_set, nx_kill]; omega)) only [go_sem, reduceCtorEq, Nat.reduceAdd, Nat.reduceSub, Nat.reduceMul, Nat.reduceLT, Nat.reduceLeDiff, Nat.reduceEqDiff, Nat.reduceBEq, Nat.reduceBNe, Int.reduceBEq, Int.reduceEq, Int.reduceLT, Int.reduceLE, Int.reduceAdd, Int.reduceSub, ↓reduceIte, Int.reduceToNat, Nat.reduceShiftRight, Nat.reduceAnd, hs, ldc_cells]
          refine Hwp.drawn mixed [0, 0, 2, 6, 14, 0, 32, 96, 224, 0, 0, 0, 3072, 8160, 16352, 32766, 65535, 131071, 262143] (.op 0 (.op 1 (.op 2 (.op 3 (.op 4 (.op 5 (.op 6 (.op 7 (.op 8 (.op 9 (.op 11 (.eff 10 (.eff 12 (.op 13 (.eff 14 (.eff 15 (.op 16 (.op 17 (.eff 18 .done .stop))) .stop) .stop)) .stop) .stop)))))))))))) (by kernel_rfl) ?_
          have hlt := hA.lt hok
          have hgr := hlt gr (by simp [rblks])
          have htl := length_le_used T
          have hgrt : gr ∉ sblk tv := fun h => by have := hA.nd; unfold rblks at this; rw [List.nodup_cons] at this; exact this.1 (List.mem_append_left _ h)
          have hs1 := hsrc (H.push (.cells [] true)) (fun b hb _ => by simp (disch := first | omega | (simp only [nx_push, nx_set, nx_kill]; done) | (simp only [nx_push, nx_set, nx_kill]; omega)) only [get_push_ne, get_push_eq, get_set_ne, get_set_eq, get_kill_ne, nx_push, nx_set, nx_kill])
          have hek : k = (k.toNat : Int) := by omega
          have hroom : (Thing.mk k.toNat l).room = 1 + n := by rw [hn]; rfl
          have hthing : (Thing.mk k.toNat l).Ok := ⟨by simp only; omega, by simp only; omega, by simp only; omega, hl⟩
          have fin : ∀ (H2 H3 : HHeap) (lv tv' : Value), LAt H2 lv l → H.next ≤ H2.next → (∀ b, b < H.next → H2.get b = H.get b) → (∀ b ∈ sblk lv, H.next ≤ b ∧ b < H2.next) → 
              GrAt H3 tv' 3 (T.length + 1) (rcells 0 T lvs ++ [I (usedOf T), I k, lv]) → (∀ b ∈ sblk tv', b = H2.next) → H3.next = H2.next + 1 → (∀ b, b ≠ H2.next → b ∉ sblk tv → H3.get b = H2.get b) →
              R (.tuple #[U (wordAt (usedOf T)), I 0]) (H3.set gr (.cells [I size, I ((usedOf T : Int) + n + 1), tv'] true)) := by
            intro H2 H3 lv tv' f1 f2 f3 f4 f5 f6 f7 f8
            have hnd := hA.nd
            unfold rblks at hnd
            rw [List.nodup_cons, List.mem_append, List.nodup_append] at hnd
            obtain ⟨nd1, nd2, nd3, nd4⟩ := hnd
            have hngr : gr ∉ sblk tv := fun h => nd1 (.inl h)
            have hlv : ∀ lv' ∈ lvs, ∀ b ∈ sblk lv', b < H.next ∧ b ≠ gr ∧ b ∉ sblk tv := fun lv' h1 b h2 => by
              have hm : b ∈ lvs.flatMap sblk := List.mem_flatMap.2 ⟨lv', h1, h2⟩
              refine ⟨hlt b (by simp only [rblks, List.mem_cons, List.mem_append]; exact .inr (.inr hm)), fun e => nd1 (.inr (e ▸ hm)), fun h => nd4 b h b hm rfl⟩
            have htv : ∀ b ∈ sblk tv, b < H.next := fun b hb => hlt b (by simp [rblks, hb])
            refine h1 _ tv' lv ⟨hk1, hk2⟩ hn2 hr ⟨?_, ?_, by simp [hA.len], ?_, ?_, ?_⟩ ?_ ?_ ?_
            · simp (disch := first | omega | (simp only [nx_push, nx_set, nx_kill]; done) | (simp only [nx_push, nx_set, nx_kill]; omega)) only [get_push_ne, get_push_eq, get_set_ne, get_set_eq, get_kill_ne, nx_push, nx_set, nx_kill]
              rw [usedOf_append]
              simp only [usedOf, hroom]
              rw [show ((usedOf T : Int) + n + 1) = ((usedOf T + (1 + n + 0) : Nat) : Int) by omega]
            · have : (T ++ [(⟨k.toNat, l⟩ : Thing)]).length = T.length + 1 := by simp
              rw [this, rcells_append _ _ _ _ _ hA.len, Nat.zero_add]
              simp only
              rw [← hek]
              exact f5.frame fun b hb => by have := f6 b hb; simp (disch := first | omega | (simp only [nx_push, nx_set, nx_kill]; done) | (simp only [nx_push, nx_set, nx_kill]; omega)) only [get_push_ne, get_push_eq, get_set_ne, get_set_eq, get_kill_ne, nx_push, nx_set, nx_kill]
            · intro i t lv' e e'
              rcases Nat.lt_or_ge i T.length with hi | hi
              · rw [List.getElem?_append_left hi] at e
                rw [List.getElem?_append_left (by rw [hA.len]; exact hi)] at e'
                refine (hA.l i t lv' e e').frame (by simp (disch := first | omega | (simp only [nx_push, nx_set, nx_kill]; done) | (simp only [nx_push, nx_set, nx_kill]; omega)) only [get_push_ne, get_push_eq, get_set_ne, get_set_eq, get_kill_ne, nx_push, nx_set, nx_kill]; omega) fun b hb => ?_
                obtain ⟨x1, x2, x3⟩ := hlv lv' (List.mem_of_getElem? e') b hb
                simp (disch := first | omega | (simp only [nx_push, nx_set, nx_kill]; done) | (simp only [nx_push, nx_set, nx_kill]; omega)) only [get_push_ne, get_push_eq, get_set_ne, get_set_eq, get_kill_ne, nx_push, nx_set, nx_kill]
                rw [f8 b (by omega) x3, f3 b x1]
              · have : i = T.length := by
                  have := (List.getElem?_eq_some_iff.1 e).1; simp at this; omega
                subst this
                simp at e
                subst e
                have e2 : (lvs ++ [lv])[T.length]? = some lv := by rw [← hA.len]; simp
                rw [e2] at e'; cases e'
                refine f1.frame (by simp (disch := first | omega | (simp only [nx_push, nx_set, nx_kill]; done) | (simp only [nx_push, nx_set, nx_kill]; omega)) only [get_push_ne, get_push_eq, get_set_ne, get_set_eq, get_kill_ne, nx_push, nx_set, nx_kill]; omega) fun b hb => ?_
                obtain ⟨x1, x2⟩ := f4 b hb
                simp (disch := first | omega | (simp only [nx_push, nx_set, nx_kill]; done) | (simp only [nx_push, nx_set, nx_kill]; omega)) only [get_push_ne, get_push_eq, get_set_ne, get_set_eq, get_kill_ne, nx_push, nx_set, nx_kill]
                exact f8 b (by omega) (fun h => by have := htv b h; omega)
            · unfold rblks
              rw [List.nodup_cons, List.mem_append, List.nodup_append, List.flatMap_append, List.mem_append, List.nodup_append]
              simp only [List.flatMap_cons, List.flatMap_nil, List.append_nil]
              have hs1 : ∀ v : Value, (sblk v).Nodup := fun v => by unfold sblk; split <;> simp
              refine ⟨?_, hs1 _, ⟨nd3, hs1 _, ?_⟩, ?_⟩
              · rintro (h | h | h)
                · have := f6 _ h; omega
                · exact nd1 (.inr h)
                · have := f4 _ h; omega
              · intro a ha b hb
                obtain ⟨lv', y1, y2⟩ := List.mem_flatMap.1 ha
                have := (hlv lv' y1 a y2).1
                have := f4 b hb
                omega
              · intro a ha b hb
                have := f6 a ha
                rcases List.mem_append.1 hb with hb | hb
                · obtain ⟨lv', y1, y2⟩ := List.mem_flatMap.1 hb
                  have := (hlv lv' y1 b y2).1
                  omega
                · have := f4 b hb
                  omega
            · intro t ht
              rcases List.mem_append.1 ht with h | h
              · exact hA.ok t h
              · rw [List.mem_singleton.1 h]; exact hthing
            · simp (disch := first | omega | (simp only [nx_push, nx_set, nx_kill]; done) | (simp only [nx_push, nx_set, nx_kill]; omega)) only [get_push_ne, get_push_eq, get_set_ne, get_set_eq, get_kill_ne, nx_push, nx_set, nx_kill]; omega
            · intro b hb hb2
              simp only [rblks, List.mem_cons, List.mem_append, not_or] at hb2
              simp (disch := first | omega | (simp only [nx_push, nx_set, nx_kill]; done) | (simp only [nx_push, nx_set, nx_kill]; omega)) only [get_push_ne, get_push_eq, get_set_ne, get_set_eq, get_kill_ne, nx_push, nx_set, nx_kill]
              rw [f8 b (by omega) hb2.2.1, f3 b hb]
            · intro b hb
              simp only [rblks, List.mem_cons, List.mem_append, List.flatMap_append, List.flatMap_cons, List.flatMap_nil, List.append_nil] at hb ⊢
              rcases hb with rfl | hb | hb | hb
              · exact .inl (.inl rfl)
              · have := f6 b hb; exact .inr (by omega)
              · exact .inl (.inr (.inr hb))
              · have := f4 b hb; exact .inr (by omega)
          by_cases h0 : n = 0
          · subst h0
            have hl0 : l = [] := by cases l with | nil => rfl | cons x l => simp at hn
            subst hl0
            have hgt : GrAt ((H.push (.cells [] true)).push (.cells [I (usedOf T), I k, .slice (some ⟨H.next, 0, none⟩) 0 0] true)) tv 3 T.length (rcells 0 T lvs) := hA.t.frame fun b hb => by have := hlt b (by simp [rblks, hb]); simp (disch := first | omega | (simp only [nx_push, nx_set, nx_kill]; done) | (simp only [nx_push, nx_set, nx_kill]; omega)) only [get_push_ne, get_push_eq, get_set_ne, get_set_eq, get_kill_ne, nx_push, nx_set, nx_kill]
            obtain ⟨H3, q1, q2, q3, q4, q5⟩ := hgt.append (xs := [I (usedOf T), I k, .slice (some ⟨H.next, 0, none⟩) 0 0]) (by' := 40) (m := 1) (by omega) (by simp) (by omega) (by omega) (by omega)
            have hs3 : H3.get gr = some (.cells [I size, I (usedOf T), tv] true) := by
              rw [q5 gr (by simp (disch := first | omega | (simp only [nx_push, nx_set, nx_kill]; done) | (simp only [nx_push, nx_set, nx_kill]; omega)) only [get_push_ne, get_push_eq, get_set_ne, get_set_eq, get_kill_ne, nx_push, nx_set, nx_kill]; omega) hgrt]; simp (disch := first | omega | (simp only [nx_push, nx_set, nx_kill]; done) | (simp only [nx_push, nx_set, nx_kill]; omega)) only [get_push_ne, get_push_eq, get_set_ne, get_set_eq, get_kill_ne, nx_push, nx_set, nx_kill]; exact hs
            simp (disch := first | omega | (show allOne _ = true; simp [allOne, Value.oneCell']) | (simp only [List.length_cons, List.length_nil, List.length_set, List.length_map, List.length_replicate, List.length_append, List.length_take, List.length_drop, Int.toNat_natCast, Int.toNat_of_nonneg, nx_push, nx_set, nx_kill]; done) | (simp only [List.length_cons, List.length_nil, List.length_set, List.length_map, List.length_replicate, List.length_append, List.length_take, List.length_drop, Int.toNat_natCast, Int.toNat_of_nonneg, nx_push, nx_set, nx_kill]; omega)) only [go_sem, reduceCtorEq, Nat.reduceAdd, Nat.reduceSub, Nat.reduceMul, Nat.reduceLT, Nat.reduceLeDiff, Nat.reduceEqDiff, Nat.reduceBEq, Nat.reduceBNe, Int.reduceBEq, Int.reduceEq, Int.reduceLT, Int.reduceLE, Int.reduceAdd, Int.reduceSub, ↓reduceIte, Int.reduceToNat, Nat.reduceShiftRight, Nat.reduceAnd, hs, ldc_cells, hs1, apd_zero, hsource_slice, hsrc_cells, List.drop_zero, List.take_succ_cons, List.take_zero, q1, hs3, stc_cells]
            rw [set_set]
            exact fin ((H.push (.cells [] true)).push (.cells [I (usedOf T), I k, .slice (some ⟨H.next, 0, none⟩) 0 0] true)) H3 (.slice (some ⟨H.next, 0, none⟩) 0 0) _ (.inl ⟨rfl, H.next, by simp (disch := first | omega | (simp only [nx_push, nx_set, nx_kill]; done) | (simp only [nx_push, nx_set, nx_kill]; omega)) only [get_push_ne, get_push_eq, get_set_ne, get_set_eq, get_kill_ne, nx_push, nx_set, nx_kill]; omega, rfl⟩) (by simp (disch := first | omega | (simp only [nx_push, nx_set, nx_kill]; done) | (simp only [nx_push, nx_set, nx_kill]; omega)) only [get_push_ne, get_push_eq, get_set_ne, get_set_eq, get_kill_ne, nx_push, nx_set, nx_kill]; omega) (fun b hb => by simp (disch := first | omega | (simp only [nx_push, nx_set, nx_kill]; done) | (simp only [nx_push, nx_set, nx_kill]; omega)) only [get_push_ne, get_push_eq, get_set_ne, get_set_eq, get_kill_ne, nx_push, nx_set, nx_kill])
              (fun b hb => by simp [sblk] at hb; subst hb; exact ⟨Nat.le_refl _, by simp (disch := first | omega | (simp only [nx_push, nx_set, nx_kill]; done) | (simp only [nx_push, nx_set, nx_kill]; omega)) only [get_push_ne, get_push_eq, get_set_ne, get_set_eq, get_kill_ne, nx_push, nx_set, nx_kill]; omega⟩) q3 (fun b hb => by simpa [sblk] using hb) q4 q5
          · have hgt : GrAt (((H.push (.cells [] true)).push (.cells (l.map U) true)).push (.cells [I (usedOf T), I k, .slice (some ⟨H.next + 1, 0, some 2⟩) n n] true)) tv 3 T.length (rcells 0 T lvs) := hA.t.frame fun b hb => by have := hlt b (by simp [rblks, hb]); simp (disch := first | omega | (simp only [nx_push, nx_set, nx_kill]; done) | (simp only [nx_push, nx_set, nx_kill]; omega)) only [get_push_ne, get_push_eq, get_set_ne, get_set_eq, get_kill_ne, nx_push, nx_set, nx_kill]
            obtain ⟨H3, q1, q2, q3, q4, q5⟩ := hgt.append (xs := [I (usedOf T), I k, .slice (some ⟨H.next + 1, 0, some 2⟩) n n]) (by' := 40) (m := 1) (by omega) (by simp) (by omega) (by omega) (by omega)
            have hs3 : H3.get gr = some (.cells [I size, I (usedOf T), tv] true) := by
              rw [q5 gr (by simp (disch := first | omega | (simp only [nx_push, nx_set, nx_kill]; done) | (simp only [nx_push, nx_set, nx_kill]; omega)) only [get_push_ne, get_push_eq, get_set_ne, get_set_eq, get_kill_ne, nx_push, nx_set, nx_kill]; omega) hgrt]; simp (disch := first | omega | (simp only [nx_push, nx_set, nx_kill]; done) | (simp only [nx_push, nx_set, nx_kill]; omega)) only [get_push_ne, get_push_eq, get_set_ne, get_set_eq, get_kill_ne, nx_push, nx_set, nx_kill]; exact hs
            simp (disch := first | omega | (show allOne _ = true; simp [allOne, Value.oneCell']) | (simp only [List.length_cons, List.length_nil, List.length_set, List.length_map, List.length_replicate, List.length_append, List.length_take, List.length_drop, Int.toNat_natCast, Int.toNat_of_nonneg, nx_push, nx_set, nx_kill]; done) | (simp only [List.length_cons, List.length_nil, List.length_set, List.length_map, List.length_replicate, List.length_append, List.length_take, List.length_drop, Int.toNat_natCast, Int.toNat_of_nonneg, nx_push, nx_set, nx_kill]; omega)) only [go_sem, reduceCtorEq, Nat.reduceAdd, Nat.reduceSub, Nat.reduceMul, Nat.reduceLT, Nat.reduceLeDiff, Nat.reduceEqDiff, Nat.reduceBEq, Nat.reduceBNe, Int.reduceBEq, Int.reduceEq, Int.reduceLT, Int.reduceLE, Int.reduceAdd, Int.reduceSub, ↓reduceIte, Int.reduceToNat, Nat.reduceShiftRight, Nat.reduceAnd, hs, ldc_cells, hs1, apd_some, apo_fresh, hsource_slice, hsrc_cells, List.drop_zero, List.take_succ_cons, List.take_zero, q1, hs3, stc_cells]
            rw [set_set]
            exact fin (((H.push (.cells [] true)).push (.cells (l.map U) true)).push (.cells [I (usedOf T), I k, .slice (some ⟨H.next + 1, 0, some 2⟩) n n] true)) H3 (.slice (some ⟨H.next + 1, 0, some 2⟩) n n) _
              (.inr ⟨H.next + 1, by intro e; rw [e] at hn; exact h0 hn, by rw [hn], by simp (disch := first | omega | (simp only [nx_push, nx_set, nx_kill]; done) | (simp only [nx_push, nx_set, nx_kill]; omega)) only [get_push_ne, get_push_eq, get_set_ne, get_set_eq, get_kill_ne, nx_push, nx_set, nx_kill]⟩) (by simp (disch := first | omega | (simp only [nx_push, nx_set, nx_kill]; done) | (simp only [nx_push, nx_set, nx_kill]; omega)) only [get_push_ne, get_push_eq, get_set_ne, get_set_eq, get_kill_ne, nx_push, nx_set, nx_kill]; omega) (fun b hb => by simp (disch := first | omega | (simp only [nx_push, nx_set, nx_kill]; done) | (simp only [nx_push, nx_set, nx_kill]; omega)) only [get_push_ne, get_push_eq, get_set_ne, get_set_eq, get_kill_ne, nx_push, nx_set, nx_kill])
              (fun b hb => by simp [sblk] at hb; subst hb; exact ⟨by omega, by simp (disch := first | omega | (simp only [nx_push, nx_set, nx_kill]; done) | (simp only [nx_push, nx_set, nx_kill]; omega)) only [get_push_ne, get_push_eq, get_set_ne, get_set_eq, get_kill_ne, nx_push, nx_set, nx_kill]; omega⟩) q3 (fun b hb => by simpa [sblk] using hb) q4 q5
        · simp (disch := first | omega | (show allOne _ = true; simp [allOne, Value.oneCell']) | (simp only [List.length_cons, List.length_nil, List.length_set, List.length_map, List.length_replicate, List.length_append, List.length_take, List.length_drop, Int.toNat_natCast, Int.toNat_of_nonneg, nx_push, nx_set, nx_kill]; done) | (simp only [List.length_cons, List.length_nil, List.length_set, List.length_map, List.length_replicate, List.length_append, List.length_take, List.length_drop, Int.toNat_natCast, Int.toNat_of_nonneg, nx_push, nx_set, nx_kill]; omega)) only [go_sem, reduceCtorEq, Nat.reduceAdd, Nat.reduceSub, Nat.reduceMul, Nat.reduceLT, Nat.reduceLeDiff, Nat.reduceEqDiff, Nat.reduceBEq, Nat.reduceBNe, Int.reduceBEq, Int.reduceEq, Int.reduceLT, Int.reduceLE, Int.reduceAdd, Int.reduceSub, ↓reduceIte, Int.reduceToNat, Nat.reduceShiftRight, Nat.reduceAnd, hs, ldc_cells]
          exact h2 ⟨hk1, hk2⟩ hn2 (by omega)
      · simp (disch := first | omega | (show allOne _ = true; simp [allOne, Value.oneCell']) | (simp only [List.length_cons, List.length_nil, List.length_set, List.length_map, List.length_replicate, List.length_append, List.length_take, List.length_drop, Int.toNat_natCast, Int.toNat_of_nonneg, nx_push, nx_set, nx_kill]; done) | (simp only [List.length_cons, List.length_nil, List.length_set, List.length_map, List.length_replicate, List.length_append, List.length_take, List.length_drop, Int.toNat_natCast, Int.toNat_of_nonneg, nx_push, nx_set, nx_kill]; omega)) only [go_sem, reduceCtorEq, Nat.reduceAdd, Nat.reduceSub, Nat.reduceMul, Nat.reduceLT, Nat.reduceLeDiff, Nat.reduceEqDiff, Nat.reduceBEq, Nat.reduceBNe, Int.reduceBEq, Int.reduceEq, Int.reduceLT, Int.reduceLE, Int.reduceAdd, Int.reduceSub, ↓reduceIte, Int.reduceToNat, Nat.reduceShiftRight, Nat.reduceAnd]
        exact h3 (by omega)
    · simp (disch := first | omega | (show allOne _ = true; simp [allOne, Value.oneCell']) | (simp only [List.length_cons, List.length_nil, List.length_set, List.length_map, List.length_replicate, List.length_append, List.length_take, List.length_drop, Int.toNat_natCast, Int.toNat_of_nonneg, nx_push, nx_set, nx_kill]; done) | (simp only [List.length_cons, List.length_nil, List.length_set, List.length_map, List.length_replicate, List.length_append, List.length_take, List.length_drop, Int.toNat_natCast, Int.toNat_of_nonneg, nx_push, nx_set, nx_kill]; omega)) only [go_sem, reduceCtorEq, Nat.reduceAdd, Nat.reduceSub, Nat.reduceMul, Nat.reduceLT, Nat.reduceLeDiff, Nat.reduceEqDiff, Nat.reduceBEq, Nat.reduceBNe, Int.reduceBEq, Int.reduceEq, Int.reduceLT, Int.reduceLE, Int.reduceAdd, Int.reduceSub, ↓reduceIte, Int.reduceToNat, Nat.reduceShiftRight, Nat.reduceAnd]
      exact h3 (by omega)
  · simp (disch := first | omega | (show allOne _ = true; simp [allOne, Value.oneCell']) | (simp only [List.length_cons, List.length_nil, List.length_set, List.length_map, List.length_replicate, List.length_append, List.length_take, List.length_drop, Int.toNat_natCast, Int.toNat_of_nonneg, nx_push, nx_set, nx_kill]; done) | (simp only [List.length_cons, List.length_nil, List.length_set, List.length_map, List.length_replicate, List.length_append, List.length_take, List.length_drop, Int.toNat_natCast, Int.toNat_of_nonneg, nx_push, nx_set, nx_kill]; omega)) only [go_sem, reduceCtorEq, Nat.reduceAdd, Nat.reduceSub, Nat.reduceMul, Nat.reduceLT, Nat.reduceLeDiff, Nat.reduceEqDiff, Nat.reduceBEq, Nat.reduceBNe, Int.reduceBEq, Int.reduceEq, Int.reduceLT, Int.reduceLE, Int.reduceAdd, Int.reduceSub, ↓reduceIte, Int.reduceToNat, Nat.reduceShiftRight, Nat.reduceAnd]
    exact h3 (by omega)
end Go.HL
