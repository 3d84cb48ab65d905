/-
  Walks: the words of a line, the program's.
-/
import Derived.Test.YtoflnkdngcdejaaGreatDoorPQ2
import Derived.Test.YtoflnkdngcdejaaGreatDoorPU9
set_option linter.unusedVariables false
set_option linter.unusedSimpArgs false
namespace Go.HL
open Go.RowKit Go.Proofs
set_option maxHeartbeats 4000000
set_option maxRecDepth 100000
set_option linter.unusedSimpArgs false
set_option linter.unusedVariables false
theorem rng_str : rngStr Tryz.prog 9 = true := by kernel_rfl
theorem strings_SplitW (l : List UInt8) (hs : l.length < 4294967281) (H : HHeap) (R : Value → HHeap → Prop) (hR : R (.slice (some ⟨H.next, 0, none⟩) (cutW l).length (cutW l).length) (H.push (.cells ((cutW l).map S) true))) :
    HCalls Tryz.prog 9 [S l, S [32]] H R := by
  refine HCalls.of_hw Tryz.func9 rfl _ Tryz.ntmps9 _ (by rw [Tryz.results9]) ?_
  rw [hframe0_eq _ _ (by simp)]
  simp only [List.zipIdx_cons, List.zipIdx_nil, List.map_cons, List.map_nil, Nat.reduceAdd]
  simp (disch := first | omega | (show allOne _ = true; simp [allOne, Value.oneCell', S]) | (simp only [List.length_cons, List.length_nil, List.length_set, List.length_map, List.length_replicate, List.length_append, List.length_take, List.length_drop, Int.toNat_natCast, Int.toNat_of_nonneg, nx_push, nx_set, nx_kill]; done) | (simp only [List.length_cons, List.length_nil, List.length_set, List.length_map, List.length_replicate, List.length_append, List.length_take, List.length_drop, Int.toNat_natCast, Int.toNat_of_nonneg, nx_push, nx_set, nx_kill]; omega)) only [go_sem, reduceCtorEq, Nat.reduceAdd, Nat.reduceSub, Nat.reduceMul, Nat.reduceLT, Nat.reduceLeDiff, Nat.reduceEqDiff, Nat.reduceBEq, Nat.reduceBNe, Int.reduceBEq, Int.reduceEq, Int.reduceLT, Int.reduceLE, Int.reduceAdd, Int.reduceSub, ↓reduceIte, Int.reduceToNat, Nat.reduceShiftRight, Nat.reduceAnd]
  refine (strings_Split ⟨l.toArray⟩ (by rw [s_size]; exact hs) _).mono ?_
  rintro v H1 ⟨rfl, rfl⟩
  simp (disch := first | omega | (show allOne _ = true; simp [allOne, Value.oneCell', S]) | (simp only [List.length_cons, List.length_nil, List.length_set, List.length_map, List.length_replicate, List.length_append, List.length_take, List.length_drop, Int.toNat_natCast, Int.toNat_of_nonneg, nx_push, nx_set, nx_kill]; done) | (simp only [List.length_cons, List.length_nil, List.length_set, List.length_map, List.length_replicate, List.length_append, List.length_take, List.length_drop, Int.toNat_natCast, Int.toNat_of_nonneg, nx_push, nx_set, nx_kill]; omega)) only [go_sem, reduceCtorEq, Nat.reduceAdd, Nat.reduceSub, Nat.reduceMul, Nat.reduceLT, Nat.reduceLeDiff, Nat.reduceEqDiff, Nat.reduceBEq, Nat.reduceBNe, Int.reduceBEq, Int.reduceEq, Int.reduceLT, Int.reduceLE, Int.reduceAdd, Int.reduceSub, ↓reduceIte, Int.reduceToNat, Nat.reduceShiftRight, Nat.reduceAnd]
  simpa using hR
/-- All bytes up to some place may stand in a line. -/
theorem plain_at {l : List UInt8} {i : Nat} {b : UInt8} (hb : l[i]? = some b) (h : plainB b = false) : wordsF l = none := by
  unfold wordsF
  rw [show l.all plainB = false by
    rw [← Bool.not_eq_true, List.all_eq_true]
    intro hh
    have := hh b (List.mem_of_getElem? hb)
    rw [h] at this; cases this]
  rfl
theorem empty_at {l : List UInt8} {i : Nat} (hb : (cutW l)[i]? = some []) : wordsF l = none := by
  unfold wordsF
  rw [show (cutW l).all (fun w => !w.isEmpty) = false by
    rw [← Bool.not_eq_true, List.all_eq_true]
    intro hh
    have := hh [] (List.mem_of_getElem? hb)
    simp at this]
  rw [Bool.and_false]; rfl
theorem words_at {l : List UInt8} (h1 : ∀ b ∈ l, plainB b = true) (h2 : ∀ w ∈ cutW l, w ≠ []) : wordsF l = some (cutW l) := by
  unfold wordsF
  rw [show l.all plainB = true by rw [List.all_eq_true]; exact h1, show (cutW l).all (fun w => !w.isEmpty) = true by
    rw [List.all_eq_true]; intro w hw
    have := h2 w hw
    cases w with
    | nil => exact absurd rfl this
    | cons _ _ => rfl]
  rfl
/-- A row of words, or none. -/
def wordsV (H : HHeap) (v : Value) (l : List UInt8) : Prop :=
  match wordsF l with
  | none => v = .tuple #[.slice none 0 0, .bool false]
  | some ws => ∃ b sp c, v = .tuple #[.slice (some ⟨b, 0, sp⟩) ws.length c, .bool true] ∧ b < H.next ∧ H.get b = some (.cells (ws.map S) true)
theorem Old.push_kill (H : HHeap) (o : HObj) : Old H ((H.push o).kill H.next) := ⟨by simp [nx_push, nx_kill], fun b hb => by rw [get_kill_ne _ _ (by omega), get_push_ne _ _ (by omega)]⟩
theorem desk_Words (l : List UInt8) (hs : l.length ≤ 1000000000) (H : HHeap) (R : Value → HHeap → Prop) (hR : ∀ v H', Old H H' → wordsV H' v l → R v H') : HCalls Tryz.prog 4 [S l] H R := by
  refine HCalls.of_hw Tryz.func4 rfl _ Tryz.ntmps4 _ (by rw [Tryz.results4]) ?_
  rw [hframe0_eq _ _ (by simp)]
  simp only [List.zipIdx_cons, List.zipIdx_nil, List.map_cons, List.map_nil, Nat.reduceAdd]
  simp (disch := first | omega | (show allOne _ = true; simp [allOne, Value.oneCell', S]) | (simp only [List.length_cons, List.length_nil, List.length_set, List.length_map, List.length_replicate, List.length_append, List.length_take, List.length_drop, Int.toNat_natCast, Int.toNat_of_nonneg, nx_push, nx_set, nx_kill]; done) | (simp only [List.length_cons, List.length_nil, List.length_set, List.length_map, List.length_replicate, List.length_append, List.length_take, List.length_drop, Int.toNat_natCast, Int.toNat_of_nonneg, nx_push, nx_set, nx_kill]; omega)) only [go_sem, reduceCtorEq, Nat.reduceAdd, Nat.reduceSub, Nat.reduceMul, Nat.reduceLT, Nat.reduceLeDiff, Nat.reduceEqDiff, Nat.reduceBEq, Nat.reduceBNe, Int.reduceBEq, Int.reduceEq, Int.reduceLT, Int.reduceLE, Int.reduceAdd, Int.reduceSub, ↓reduceIte, Int.reduceToNat, Nat.reduceShiftRight, Nat.reduceAnd, hrange_S rng_str]
  have bad : ∀ (i : Nat) (b : UInt8) (H' : HHeap), l[i]? = some b → plainB b = false → Old H H' → R (.tuple #[.slice none 0 0, .bool false]) H' := fun i b H' hb hp hO =>
    hR _ _ hO (by unfold wordsV; rw [plain_at hb hp])
  refine Hwp.loop (fun n fr H' => ∃ i, n = l.length - i ∧ i ≤ l.length ∧ H' = H.push (.iter ⟨l.toArray⟩ i) ∧ (∀ j, j < i → ∀ b, l[j]? = some b → plainB b = true) ∧ FLe (hfr 32 [(10, .pointer (some ⟨H.next, 0, none⟩)), (0, S l)]) fr) l.length ?_ ?_
  · exact ⟨0, by omega, by omega, rfl, fun j hj => by omega, fle_of (by simp [flook])⟩
  · rintro n fr H' ⟨i, rfl, hi, rfl, hpl, hle⟩
    refine Hwp.weaken hle (HW.sound _ _ _ _ ?_)
    by_cases hc : i < l.length
    · obtain ⟨b, hb⟩ : ∃ b, l[i]? = some b := ⟨_, List.getElem?_eq_getElem hc⟩
      rcases decode_byte l i b hb with ⟨h128, hd⟩ | ⟨h128, hd⟩
      · by_cases hp : plainB b = true
        · have hp' : 32 ≤ b.toNat ∧ b.toNat ≤ 126 := by simpa [plainB] using hp
          simp (disch := first | omega | (show allOne _ = true; simp [allOne, Value.oneCell', S]) | (simp only [List.length_cons, List.length_nil, List.length_set, List.length_map, List.length_replicate, List.length_append, List.length_take, List.length_drop, Int.toNat_natCast, Int.toNat_of_nonneg, nx_push, nx_set, nx_kill]; done) | (simp only [List.length_cons, List.length_nil, List.length_set, List.length_map, List.length_replicate, List.length_append, List.length_take, List.length_drop, Int.toNat_natCast, Int.toNat_of_nonneg, nx_push, nx_set, nx_kill]; omega)) only [go_sem, reduceCtorEq, Nat.reduceAdd, Nat.reduceSub, Nat.reduceMul, Nat.reduceLT, Nat.reduceLeDiff, Nat.reduceEqDiff, Nat.reduceBEq, Nat.reduceBNe, Int.reduceBEq, Int.reduceEq, Int.reduceLT, Int.reduceLE, Int.reduceAdd, Int.reduceSub, ↓reduceIte, Int.reduceToNat, Nat.reduceShiftRight, Nat.reduceAnd, get_push_same, hnx_more _ _ _ _ (show i < (⟨l.toArray⟩ : ByteArray).size by rw [s_size]; exact hc), hd, push_set]
          refine ⟨_, ?_, i + 1, rfl, by omega, rfl, fun j hj c hj' => ?_, fle_of (by simp [flook])⟩
          · omega
          · rcases Nat.lt_or_ge j i with h | h
            · exact hpl j h c hj'
            · rw [show j = i by omega, hb] at hj'; cases hj'; exact hp
        · have hp : plainB b = false := by simpa using hp
          have hp' : b.toNat < 32 ∨ 126 < b.toNat := by
            unfold plainB at hp; rw [decide_eq_false_iff_not] at hp; omega
          rcases hp' with hp' | hp'
          · simp (disch := first | omega | (show allOne _ = true; simp [allOne, Value.oneCell', S]) | (simp only [List.length_cons, List.length_nil, List.length_set, List.length_map, List.length_replicate, List.length_append, List.length_take, List.length_drop, Int.toNat_natCast, Int.toNat_of_nonneg, nx_push, nx_set, nx_kill]; done) | (simp only [List.length_cons, List.length_nil, List.length_set, List.length_map, List.length_replicate, List.length_append, List.length_take, List.length_drop, Int.toNat_natCast, Int.toNat_of_nonneg, nx_push, nx_set, nx_kill]; omega)) only [go_sem, reduceCtorEq, Nat.reduceAdd, Nat.reduceSub, Nat.reduceMul, Nat.reduceLT, Nat.reduceLeDiff, Nat.reduceEqDiff, Nat.reduceBEq, Nat.reduceBNe, Int.reduceBEq, Int.reduceEq, Int.reduceLT, Int.reduceLE, Int.reduceAdd, Int.reduceSub, ↓reduceIte, Int.reduceToNat, Nat.reduceShiftRight, Nat.reduceAnd, get_push_same, hnx_more _ _ _ _ (show i < (⟨l.toArray⟩ : ByteArray).size by rw [s_size]; exact hc), hd, push_set]
            exact bad i b _ hb hp (Old.push _ _)
          · simp (disch := first | omega | (show allOne _ = true; simp [allOne, Value.oneCell', S]) | (simp only [List.length_cons, List.length_nil, List.length_set, List.length_map, List.length_replicate, List.length_append, List.length_take, List.length_drop, Int.toNat_natCast, Int.toNat_of_nonneg, nx_push, nx_set, nx_kill]; done) | (simp only [List.length_cons, List.length_nil, List.length_set, List.length_map, List.length_replicate, List.length_append, List.length_take, List.length_drop, Int.toNat_natCast, Int.toNat_of_nonneg, nx_push, nx_set, nx_kill]; omega)) only [go_sem, reduceCtorEq, Nat.reduceAdd, Nat.reduceSub, Nat.reduceMul, Nat.reduceLT, Nat.reduceLeDiff, Nat.reduceEqDiff, Nat.reduceBEq, Nat.reduceBNe, Int.reduceBEq, Int.reduceEq, Int.reduceLT, Int.reduceLE, Int.reduceAdd, Int.reduceSub, ↓reduceIte, Int.reduceToNat, Nat.reduceShiftRight, Nat.reduceAnd, get_push_same, hnx_more _ _ _ _ (show i < (⟨l.toArray⟩ : ByteArray).size by rw [s_size]; exact hc), hd, push_set]
            exact bad i b _ hb hp (Old.push _ _)
      · have hp : plainB b = false := by unfold plainB; rw [decide_eq_false_iff_not]; omega
        generalize hr : Utf8.decode ⟨l.toArray⟩ i = r at hd
        obtain ⟨r1, r2⟩ := r
        simp (disch := first | omega | (show allOne _ = true; simp [allOne, Value.oneCell', S]) | (simp only [List.length_cons, List.length_nil, List.length_set, List.length_map, List.length_replicate, List.length_append, List.length_take, List.length_drop, Int.toNat_natCast, Int.toNat_of_nonneg, nx_push, nx_set, nx_kill]; done) | (simp only [List.length_cons, List.length_nil, List.length_set, List.length_map, List.length_replicate, List.length_append, List.length_take, List.length_drop, Int.toNat_natCast, Int.toNat_of_nonneg, nx_push, nx_set, nx_kill]; omega)) only [go_sem, reduceCtorEq, Nat.reduceAdd, Nat.reduceSub, Nat.reduceMul, Nat.reduceLT, Nat.reduceLeDiff, Nat.reduceEqDiff, Nat.reduceBEq, Nat.reduceBNe, Int.reduceBEq, Int.reduceEq, Int.reduceLT, Int.reduceLE, Int.reduceAdd, Int.reduceSub, ↓reduceIte, Int.reduceToNat, Nat.reduceShiftRight, Nat.reduceAnd, get_push_same, hnx_more _ _ _ _ (show i < (⟨l.toArray⟩ : ByteArray).size by rw [s_size]; exact hc), hr, push_set]
        exact bad i b _ hb hp (Old.push _ _)
    · have hall : ∀ b ∈ l, plainB b = true := fun b hb => by
        obtain ⟨j, hj⟩ := List.mem_iff_getElem?.1 hb
        exact hpl j (by have := (List.getElem?_eq_some_iff.1 hj).1; omega) b hj
      simp (disch := first | omega | (show allOne _ = true; simp [allOne, Value.oneCell', S]) | (simp only [List.length_cons, List.length_nil, List.length_set, List.length_map, List.length_replicate, List.length_append, List.length_take, List.length_drop, Int.toNat_natCast, Int.toNat_of_nonneg, nx_push, nx_set, nx_kill]; done) | (simp only [List.length_cons, List.length_nil, List.length_set, List.length_map, List.length_replicate, List.length_append, List.length_take, List.length_drop, Int.toNat_natCast, Int.toNat_of_nonneg, nx_push, nx_set, nx_kill]; omega)) only [go_sem, reduceCtorEq, Nat.reduceAdd, Nat.reduceSub, Nat.reduceMul, Nat.reduceLT, Nat.reduceLeDiff, Nat.reduceEqDiff, Nat.reduceBEq, Nat.reduceBNe, Int.reduceBEq, Int.reduceEq, Int.reduceLT, Int.reduceLE, Int.reduceAdd, Int.reduceSub, ↓reduceIte, Int.reduceToNat, Nat.reduceShiftRight, Nat.reduceAnd, get_push_same, hnx_end _ _ _ _ (show (⟨l.toArray⟩ : ByteArray).size ≤ i by rw [s_size]; omega)]
      refine strings_SplitW l (by omega) _ _ ?_
      simp (disch := first | omega | (show allOne _ = true; simp [allOne, Value.oneCell', S]) | (simp only [List.length_cons, List.length_nil, List.length_set, List.length_map, List.length_replicate, List.length_append, List.length_take, List.length_drop, Int.toNat_natCast, Int.toNat_of_nonneg, nx_push, nx_set, nx_kill]; done) | (simp only [List.length_cons, List.length_nil, List.length_set, List.length_map, List.length_replicate, List.length_append, List.length_take, List.length_drop, Int.toNat_natCast, Int.toNat_of_nonneg, nx_push, nx_set, nx_kill]; omega)) only [go_sem, reduceCtorEq, Nat.reduceAdd, Nat.reduceSub, Nat.reduceMul, Nat.reduceLT, Nat.reduceLeDiff, Nat.reduceEqDiff, Nat.reduceBEq, Nat.reduceBNe, Int.reduceBEq, Int.reduceEq, Int.reduceLT, Int.reduceLE, Int.reduceAdd, Int.reduceSub, ↓reduceIte, Int.reduceToNat, Nat.reduceShiftRight, Nat.reduceAnd]
      generalize hK : ((H.push (.iter ⟨l.toArray⟩ i)).kill H.next) = K at *
      have hOK : Old H K := by rw [← hK]; exact Old.push_kill H _
      have hnK : K.next = H.next + 1 := by rw [← hK, nx_kill, nx_push]
      have hcl := cutW_sum l
      refine Hwp.loop (fun n fr H' => ∃ j, n = (cutW l).length - j ∧ j ≤ (cutW l).length ∧ H' = K.push (.cells ((cutW l).map S) true) ∧ (∀ k, k < j → ∀ w, (cutW l)[k]? = some w → w ≠ []) ∧
        FLe (hfr 32 [(24, I j), (23, I (cutW l).length), (22, .slice (some ⟨K.next, 0, none⟩) (cutW l).length (cutW l).length), (6, .slice (some ⟨K.next, 0, none⟩) (cutW l).length (cutW l).length)]) fr) (cutW l).length ?_ ?_
      · exact ⟨0, by omega, by omega, rfl, fun k hk => by omega, fle_of (by simp [flook, hnK])⟩
      · rintro n fr2 H' ⟨j, rfl, hj, rfl, hne, hle2⟩
        refine Hwp.weaken hle2 (HW.sound _ _ _ _ ?_)
        by_cases hcj : j < (cutW l).length
        · obtain ⟨w, hw⟩ : ∃ w, (cutW l)[j]? = some w := ⟨_, List.getElem?_eq_getElem hcj⟩
          have hv : ((cutW l).map S)[j]? = some (S w) := by rw [List.getElem?_map, hw]; rfl
          by_cases he : w = []
          · subst he
            simp (disch := first | omega | (show allOne _ = true; simp [allOne, Value.oneCell', S]) | (simp only [List.length_cons, List.length_nil, List.length_set, List.length_map, List.length_replicate, List.length_append, List.length_take, List.length_drop, Int.toNat_natCast, Int.toNat_of_nonneg, nx_push, nx_set, nx_kill]; done) | (simp only [List.length_cons, List.length_nil, List.length_set, List.length_map, List.length_replicate, List.length_append, List.length_take, List.length_drop, Int.toNat_natCast, Int.toNat_of_nonneg, nx_push, nx_set, nx_kill]; omega)) only [go_sem, reduceCtorEq, Nat.reduceAdd, Nat.reduceSub, Nat.reduceMul, Nat.reduceLT, Nat.reduceLeDiff, Nat.reduceEqDiff, Nat.reduceBEq, Nat.reduceBNe, Int.reduceBEq, Int.reduceEq, Int.reduceLT, Int.reduceLE, Int.reduceAdd, Int.reduceSub, ↓reduceIte, Int.reduceToNat, Nat.reduceShiftRight, Nat.reduceAnd, get_push_same, ldc, hv, ixa_ok]
            exact hR _ _ (hOK.trans (Old.push _ _)) (by unfold wordsV; rw [empty_at hw])
          · have he' : (w == []) = false := by simpa using he
            simp (disch := first | omega | (show allOne _ = true; simp [allOne, Value.oneCell', S]) | (simp only [List.length_cons, List.length_nil, List.length_set, List.length_map, List.length_replicate, List.length_append, List.length_take, List.length_drop, Int.toNat_natCast, Int.toNat_of_nonneg, nx_push, nx_set, nx_kill]; done) | (simp only [List.length_cons, List.length_nil, List.length_set, List.length_map, List.length_replicate, List.length_append, List.length_take, List.length_drop, Int.toNat_natCast, Int.toNat_of_nonneg, nx_push, nx_set, nx_kill]; omega)) only [go_sem, reduceCtorEq, Nat.reduceAdd, Nat.reduceSub, Nat.reduceMul, Nat.reduceLT, Nat.reduceLeDiff, Nat.reduceEqDiff, Nat.reduceBEq, Nat.reduceBNe, Int.reduceBEq, Int.reduceEq, Int.reduceLT, Int.reduceLE, Int.reduceAdd, Int.reduceSub, ↓reduceIte, Int.reduceToNat, Nat.reduceShiftRight, Nat.reduceAnd, get_push_same, ldc, hv, ixa_ok, he']
            refine ⟨_, ?_, j + 1, rfl, by omega, fun k hk u hu => ?_, fle_of (by simp [flook])⟩
            · omega
            · rcases Nat.lt_or_ge k j with h | h
              · exact hne k h u hu
              · rw [show k = j by omega, hw] at hu; cases hu; exact he
        · simp (disch := first | omega | (show allOne _ = true; simp [allOne, Value.oneCell', S]) | (simp only [List.length_cons, List.length_nil, List.length_set, List.length_map, List.length_replicate, List.length_append, List.length_take, List.length_drop, Int.toNat_natCast, Int.toNat_of_nonneg, nx_push, nx_set, nx_kill]; done) | (simp only [List.length_cons, List.length_nil, List.length_set, List.length_map, List.length_replicate, List.length_append, List.length_take, List.length_drop, Int.toNat_natCast, Int.toNat_of_nonneg, nx_push, nx_set, nx_kill]; omega)) only [go_sem, reduceCtorEq, Nat.reduceAdd, Nat.reduceSub, Nat.reduceMul, Nat.reduceLT, Nat.reduceLeDiff, Nat.reduceEqDiff, Nat.reduceBEq, Nat.reduceBNe, Int.reduceBEq, Int.reduceEq, Int.reduceLT, Int.reduceLE, Int.reduceAdd, Int.reduceSub, ↓reduceIte, Int.reduceToNat, Nat.reduceShiftRight, Nat.reduceAnd]
          refine hR _ _ (hOK.trans (Old.push _ _)) ?_
          unfold wordsV
          rw [words_at hall (fun w hw => by
            obtain ⟨k, hk⟩ := List.mem_iff_getElem?.1 hw
            exact hne k (by have := (List.getElem?_eq_some_iff.1 hk).1; omega) w hk)]
          exact ⟨K.next, none, (cutW l).length, rfl, by rw [nx_push]; omega, get_push_same _⟩
end Go.HL
