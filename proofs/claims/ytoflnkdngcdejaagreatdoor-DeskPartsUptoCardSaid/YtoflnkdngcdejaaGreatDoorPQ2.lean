/-
  Walks: an event as text: the document's, and the program's.
-/
import Derived.Test.YtoflnkdngcdejaaGreatDoorPQ1
import Derived.Test.YtoflnkdngcdejaaGreatDoorPU8
set_option linter.unusedVariables false
set_option linter.unusedSimpArgs false
namespace Go.HL
open Go.RowKit Go.Proofs
set_option maxHeartbeats 4000000
set_option maxRecDepth 100000
set_option linter.unusedSimpArgs false
set_option linter.unusedVariables false
def i64 (n : Int) : Prop := -9223372036854775808 ≤ n ∧ n ≤ 9223372036854775807
/-- An event as text. -/
def partF (k a b : Int) (s : List UInt8) : List UInt8 :=
  if k = 1 then [98, 97, 100] ++ 32 :: Lib.itoa a ++ 32 :: Lib.itoa b else if k = 2 then [115, 116, 97, 114, 116] ++ 32 :: Lib.itoa a ++ 32 :: Lib.itoa b else if k = 3 then [111, 117, 116, 32] ++ s
  else if k = 4 then [115, 112, 101, 110, 116] else if k = 5 then [102, 97, 105, 108] ++ 32 :: Lib.itoa a else if k = 6 then [108, 111, 115, 116] ++ 32 :: Lib.itoa a else if k = 7 then [102, 117, 108, 108] else [63]
def evV (k a b : Int) (s : List UInt8) : Value := .agg #[.int .i64 k, .int .i64 a, .int .i64 b, S s]
theorem partF_len (k a b : Int) (s : List UInt8) (ha : i64 a) (hb : i64 b) : (partF k a b s).length ≤ s.length + 60 := by
  have h1 := itoa_len a ha.1 ha.2
  have h2 := itoa_len b hb.1 hb.2
  unfold partF
  repeat' split
  all_goals simp only [List.length_append, List.length_cons, List.length_nil]; omega
theorem ref_part (k a b : Int) (s : List UInt8) (ha : i64 a) (hb : i64 b) (hs : s.length ≤ 1000000000) (H : HHeap) (R : Value → HHeap → Prop) (hR : ∀ H', Old H H' → R (S (partF k a b s)) H') : HCalls Tryz.prog 12 [evV k a b s] H R := by
  have h1 := itoa_len a ha.1 ha.2
  have h2 := itoa_len b hb.1 hb.2
  unfold evV
  refine HCalls.of_hw Tryz.func12 rfl _ Tryz.ntmps12 _ (by rw [Tryz.results12]) ?_
  rw [hframe0_eq _ _ (by simp)]
  simp only [List.zipIdx_cons, List.zipIdx_nil, List.map_cons, List.map_nil, Nat.reduceAdd]
  simp (disch := first | omega | (show allOne _ = true; simp [allOne, Value.oneCell', S]) | (simp only [List.length_cons, List.length_nil, List.length_set, List.length_map, List.length_replicate, List.length_append, List.length_take, List.length_drop, Int.toNat_natCast, Int.toNat_of_nonneg, nx_push, nx_set, nx_kill]; done) | (simp only [List.length_cons, List.length_nil, List.length_set, List.length_map, List.length_replicate, List.length_append, List.length_take, List.length_drop, Int.toNat_natCast, Int.toNat_of_nonneg, nx_push, nx_set, nx_kill]; omega)) only [go_sem, reduceCtorEq, Nat.reduceAdd, Nat.reduceSub, Nat.reduceMul, Nat.reduceLT, Nat.reduceLeDiff, Nat.reduceEqDiff, Nat.reduceBEq, Nat.reduceBNe, Int.reduceBEq, Int.reduceEq, Int.reduceLT, Int.reduceLE, Int.reduceAdd, Int.reduceSub, ↓reduceIte, Int.reduceToNat, Nat.reduceShiftRight, Nat.reduceAnd]
  refine ref_Digits a ha.1 ha.2 _ _ ?_
  intro H1 hO1
  have g1 : H1.get H.next = some (.cells [.int .i64 k, .int .i64 a, .int .i64 b, S s] true) := by rw [hO1.2 _ (by rw [nx_push]; omega), get_push_same]
  simp (disch := first | omega | (show allOne _ = true; simp [allOne, Value.oneCell', S]) | (simp only [List.length_cons, List.length_nil, List.length_set, List.length_map, List.length_replicate, List.length_append, List.length_take, List.length_drop, Int.toNat_natCast, Int.toNat_of_nonneg, nx_push, nx_set, nx_kill]; done) | (simp only [List.length_cons, List.length_nil, List.length_set, List.length_map, List.length_replicate, List.length_append, List.length_take, List.length_drop, Int.toNat_natCast, Int.toNat_of_nonneg, nx_push, nx_set, nx_kill]; omega)) only [go_sem, reduceCtorEq, Nat.reduceAdd, Nat.reduceSub, Nat.reduceMul, Nat.reduceLT, Nat.reduceLeDiff, Nat.reduceEqDiff, Nat.reduceBEq, Nat.reduceBNe, Int.reduceBEq, Int.reduceEq, Int.reduceLT, Int.reduceLE, Int.reduceAdd, Int.reduceSub, ↓reduceIte, Int.reduceToNat, Nat.reduceShiftRight, Nat.reduceAnd, sadd_ok, g1, ldc]
  refine ref_Digits b hb.1 hb.2 _ _ ?_
  intro H2 hO2
  have g2 : H2.get H.next = some (.cells [.int .i64 k, .int .i64 a, .int .i64 b, S s] true) := by
    have := hO1.1
    rw [nx_push] at this
    rw [hO2.2 _ (by omega), g1]
  have hO : Old H H2 := (Old.push H _).trans (hO1.trans hO2)
  have hR := hR H2 hO
  unfold partF at hR
  by_cases c1 : k = 1
  · subst c1
    simp (disch := first | omega | (show allOne _ = true; simp [allOne, Value.oneCell', S]) | (simp only [List.length_cons, List.length_nil, List.length_set, List.length_map, List.length_replicate, List.length_append, List.length_take, List.length_drop, Int.toNat_natCast, Int.toNat_of_nonneg, nx_push, nx_set, nx_kill]; done) | (simp only [List.length_cons, List.length_nil, List.length_set, List.length_map, List.length_replicate, List.length_append, List.length_take, List.length_drop, Int.toNat_natCast, Int.toNat_of_nonneg, nx_push, nx_set, nx_kill]; omega)) only [go_sem, reduceCtorEq, Nat.reduceAdd, Nat.reduceSub, Nat.reduceMul, Nat.reduceLT, Nat.reduceLeDiff, Nat.reduceEqDiff, Nat.reduceBEq, Nat.reduceBNe, Int.reduceBEq, Int.reduceEq, Int.reduceLT, Int.reduceLE, Int.reduceAdd, Int.reduceSub, ↓reduceIte, Int.reduceToNat, Nat.reduceShiftRight, Nat.reduceAnd, sadd_ok, g2, ldc]
    exact hR
  rw [if_neg c1] at hR
  by_cases c2 : k = 2
  · subst c2
    simp (disch := first | omega | (show allOne _ = true; simp [allOne, Value.oneCell', S]) | (simp only [List.length_cons, List.length_nil, List.length_set, List.length_map, List.length_replicate, List.length_append, List.length_take, List.length_drop, Int.toNat_natCast, Int.toNat_of_nonneg, nx_push, nx_set, nx_kill]; done) | (simp only [List.length_cons, List.length_nil, List.length_set, List.length_map, List.length_replicate, List.length_append, List.length_take, List.length_drop, Int.toNat_natCast, Int.toNat_of_nonneg, nx_push, nx_set, nx_kill]; omega)) only [go_sem, reduceCtorEq, Nat.reduceAdd, Nat.reduceSub, Nat.reduceMul, Nat.reduceLT, Nat.reduceLeDiff, Nat.reduceEqDiff, Nat.reduceBEq, Nat.reduceBNe, Int.reduceBEq, Int.reduceEq, Int.reduceLT, Int.reduceLE, Int.reduceAdd, Int.reduceSub, ↓reduceIte, Int.reduceToNat, Nat.reduceShiftRight, Nat.reduceAnd, sadd_ok, g2, ldc]
    exact hR
  rw [if_neg c2] at hR
  by_cases c3 : k = 3
  · subst c3
    simp (disch := first | omega | (show allOne _ = true; simp [allOne, Value.oneCell', S]) | (simp only [List.length_cons, List.length_nil, List.length_set, List.length_map, List.length_replicate, List.length_append, List.length_take, List.length_drop, Int.toNat_natCast, Int.toNat_of_nonneg, nx_push, nx_set, nx_kill]; done) | (simp only [List.length_cons, List.length_nil, List.length_set, List.length_map, List.length_replicate, List.length_append, List.length_take, List.length_drop, Int.toNat_natCast, Int.toNat_of_nonneg, nx_push, nx_set, nx_kill]; omega)) only [go_sem, reduceCtorEq, Nat.reduceAdd, Nat.reduceSub, Nat.reduceMul, Nat.reduceLT, Nat.reduceLeDiff, Nat.reduceEqDiff, Nat.reduceBEq, Nat.reduceBNe, Int.reduceBEq, Int.reduceEq, Int.reduceLT, Int.reduceLE, Int.reduceAdd, Int.reduceSub, ↓reduceIte, Int.reduceToNat, Nat.reduceShiftRight, Nat.reduceAnd, sadd_ok, g2, ldc]
    exact hR
  rw [if_neg c3] at hR
  by_cases c4 : k = 4
  · subst c4
    simp (disch := first | omega | (show allOne _ = true; simp [allOne, Value.oneCell', S]) | (simp only [List.length_cons, List.length_nil, List.length_set, List.length_map, List.length_replicate, List.length_append, List.length_take, List.length_drop, Int.toNat_natCast, Int.toNat_of_nonneg, nx_push, nx_set, nx_kill]; done) | (simp only [List.length_cons, List.length_nil, List.length_set, List.length_map, List.length_replicate, List.length_append, List.length_take, List.length_drop, Int.toNat_natCast, Int.toNat_of_nonneg, nx_push, nx_set, nx_kill]; omega)) only [go_sem, reduceCtorEq, Nat.reduceAdd, Nat.reduceSub, Nat.reduceMul, Nat.reduceLT, Nat.reduceLeDiff, Nat.reduceEqDiff, Nat.reduceBEq, Nat.reduceBNe, Int.reduceBEq, Int.reduceEq, Int.reduceLT, Int.reduceLE, Int.reduceAdd, Int.reduceSub, ↓reduceIte, Int.reduceToNat, Nat.reduceShiftRight, Nat.reduceAnd, sadd_ok, g2, ldc]
    exact hR
  rw [if_neg c4] at hR
  by_cases c5 : k = 5
  · subst c5
    simp (disch := first | omega | (show allOne _ = true; simp [allOne, Value.oneCell', S]) | (simp only [List.length_cons, List.length_nil, List.length_set, List.length_map, List.length_replicate, List.length_append, List.length_take, List.length_drop, Int.toNat_natCast, Int.toNat_of_nonneg, nx_push, nx_set, nx_kill]; done) | (simp only [List.length_cons, List.length_nil, List.length_set, List.length_map, List.length_replicate, List.length_append, List.length_take, List.length_drop, Int.toNat_natCast, Int.toNat_of_nonneg, nx_push, nx_set, nx_kill]; omega)) only [go_sem, reduceCtorEq, Nat.reduceAdd, Nat.reduceSub, Nat.reduceMul, Nat.reduceLT, Nat.reduceLeDiff, Nat.reduceEqDiff, Nat.reduceBEq, Nat.reduceBNe, Int.reduceBEq, Int.reduceEq, Int.reduceLT, Int.reduceLE, Int.reduceAdd, Int.reduceSub, ↓reduceIte, Int.reduceToNat, Nat.reduceShiftRight, Nat.reduceAnd, sadd_ok, g2, ldc]
    exact hR
  rw [if_neg c5] at hR
  by_cases c6 : k = 6
  · subst c6
    simp (disch := first | omega | (show allOne _ = true; simp [allOne, Value.oneCell', S]) | (simp only [List.length_cons, List.length_nil, List.length_set, List.length_map, List.length_replicate, List.length_append, List.length_take, List.length_drop, Int.toNat_natCast, Int.toNat_of_nonneg, nx_push, nx_set, nx_kill]; done) | (simp only [List.length_cons, List.length_nil, List.length_set, List.length_map, List.length_replicate, List.length_append, List.length_take, List.length_drop, Int.toNat_natCast, Int.toNat_of_nonneg, nx_push, nx_set, nx_kill]; omega)) only [go_sem, reduceCtorEq, Nat.reduceAdd, Nat.reduceSub, Nat.reduceMul, Nat.reduceLT, Nat.reduceLeDiff, Nat.reduceEqDiff, Nat.reduceBEq, Nat.reduceBNe, Int.reduceBEq, Int.reduceEq, Int.reduceLT, Int.reduceLE, Int.reduceAdd, Int.reduceSub, ↓reduceIte, Int.reduceToNat, Nat.reduceShiftRight, Nat.reduceAnd, sadd_ok, g2, ldc]
    exact hR
  rw [if_neg c6] at hR
  by_cases c7 : k = 7
  · subst c7
    simp (disch := first | omega | (show allOne _ = true; simp [allOne, Value.oneCell', S]) | (simp only [List.length_cons, List.length_nil, List.length_set, List.length_map, List.length_replicate, List.length_append, List.length_take, List.length_drop, Int.toNat_natCast, Int.toNat_of_nonneg, nx_push, nx_set, nx_kill]; done) | (simp only [List.length_cons, List.length_nil, List.length_set, List.length_map, List.length_replicate, List.length_append, List.length_take, List.length_drop, Int.toNat_natCast, Int.toNat_of_nonneg, nx_push, nx_set, nx_kill]; omega)) only [go_sem, reduceCtorEq, Nat.reduceAdd, Nat.reduceSub, Nat.reduceMul, Nat.reduceLT, Nat.reduceLeDiff, Nat.reduceEqDiff, Nat.reduceBEq, Nat.reduceBNe, Int.reduceBEq, Int.reduceEq, Int.reduceLT, Int.reduceLE, Int.reduceAdd, Int.reduceSub, ↓reduceIte, Int.reduceToNat, Nat.reduceShiftRight, Nat.reduceAnd, sadd_ok, g2, ldc]
    exact hR
  rw [if_neg c7] at hR
  simp (disch := first | omega | (show allOne _ = true; simp [allOne, Value.oneCell', S]) | (simp only [List.length_cons, List.length_nil, List.length_set, List.length_map, List.length_replicate, List.length_append, List.length_take, List.length_drop, Int.toNat_natCast, Int.toNat_of_nonneg, nx_push, nx_set, nx_kill]; done) | (simp only [List.length_cons, List.length_nil, List.length_set, List.length_map, List.length_replicate, List.length_append, List.length_take, List.length_drop, Int.toNat_natCast, Int.toNat_of_nonneg, nx_push, nx_set, nx_kill]; omega)) only [go_sem, reduceCtorEq, Nat.reduceAdd, Nat.reduceSub, Nat.reduceMul, Nat.reduceLT, Nat.reduceLeDiff, Nat.reduceEqDiff, Nat.reduceBEq, Nat.reduceBNe, Int.reduceBEq, Int.reduceEq, Int.reduceLT, Int.reduceLE, Int.reduceAdd, Int.reduceSub, ↓reduceIte, Int.reduceToNat, Nat.reduceShiftRight, Nat.reduceAnd, sadd_ok, g2, ldc]
  exact hR
/-- Numbers behind a word. -/
def wordF (s : List UInt8) (l : List Int) : List UInt8 := l.foldl (fun s n => s ++ 32 :: Lib.itoa n) s
theorem wordF_len : ∀ (l : List Int) (s : List UInt8), (∀ n ∈ l, i64 n) → (wordF s l).length ≤ s.length + 21 * l.length
  | [], s, _ => by simp [wordF]
  | n :: l, s, h => by
    have h1 := wordF_len l (s ++ 32 :: Lib.itoa n) (fun m hm => h m (by simp [hm]))
    have h2 := itoa_len n (h n (by simp)).1 (h n (by simp)).2
    show (wordF (s ++ 32 :: Lib.itoa n) l).length ≤ _
    simp only [List.length_append, List.length_cons] at h1 ⊢
    omega
theorem wordF_snoc (l : List Int) (n : Int) (s : List UInt8) : wordF s (l ++ [n]) = wordF s l ++ 32 :: Lib.itoa n := by unfold wordF; rw [List.foldl_append]; rfl
theorem desk_word (s : List UInt8) (l : List Int) (hl : ∀ n ∈ l, i64 n) (hs : s.length ≤ 1000) (hn : l.length ≤ 100) (H : HHeap) (b : Nat) (hb : H.get b = some (.cells (l.map fun n => .int .i64 n) true)) (R : Value → HHeap → Prop) (hR : R (S (wordF s l)) H) :
    HCalls Tryz.prog 16 [S s, .slice (some ⟨b, 0, none⟩) l.length l.length] H R := by
  refine HCalls.of_hw Tryz.func16 rfl _ Tryz.ntmps16 _ (by rw [Tryz.results16]) ?_
  rw [hframe0_eq _ _ (by simp)]
  simp only [List.zipIdx_cons, List.zipIdx_nil, List.map_cons, List.map_nil, Nat.reduceAdd]
  simp (disch := first | omega | (show allOne _ = true; simp [allOne, Value.oneCell', S]) | (simp only [List.length_cons, List.length_nil, List.length_set, List.length_map, List.length_replicate, List.length_append, List.length_take, List.length_drop, Int.toNat_natCast, Int.toNat_of_nonneg, nx_push, nx_set, nx_kill]; done) | (simp only [List.length_cons, List.length_nil, List.length_set, List.length_map, List.length_replicate, List.length_append, List.length_take, List.length_drop, Int.toNat_natCast, Int.toNat_of_nonneg, nx_push, nx_set, nx_kill]; omega)) only [go_sem, reduceCtorEq, Nat.reduceAdd, Nat.reduceSub, Nat.reduceMul, Nat.reduceLT, Nat.reduceLeDiff, Nat.reduceEqDiff, Nat.reduceBEq, Nat.reduceBNe, Int.reduceBEq, Int.reduceEq, Int.reduceLT, Int.reduceLE, Int.reduceAdd, Int.reduceSub, ↓reduceIte, Int.reduceToNat, Nat.reduceShiftRight, Nat.reduceAnd]
  refine Hwp.loop (fun k fr H' => ∃ i, k = l.length - i ∧ i ≤ l.length ∧ H' = H ∧ FLe (hfr 20 [(9, I i), (8, I l.length), (7, .slice (some ⟨b, 0, none⟩) l.length l.length), (0, S (wordF s (l.take i)))]) fr) l.length ?_ ?_
  · exact ⟨0, by omega, by omega, rfl, fle_of (by simp [flook, wordF])⟩
  · rintro k fr H' ⟨i, rfl, hi, rfl, hle⟩
    refine Hwp.weaken hle (HW.sound _ _ _ _ ?_)
    by_cases hc : i < l.length
    · obtain ⟨n, hx⟩ : ∃ n, l[i]? = some n := ⟨_, List.getElem?_eq_getElem hc⟩
      have hxm : n ∈ l := List.mem_of_getElem? hx
      have hv : (l.map fun n => Value.int .i64 n)[i]? = some (.int .i64 n) := by rw [List.getElem?_map, hx]; rfl
      have hlen := wordF_len (l.take i) s (fun m hm => hl m (List.mem_of_mem_take hm))
      rw [List.length_take] at hlen
      have h2 := itoa_len n (hl n hxm).1 (hl n hxm).2
      have hmul : 21 * min i l.length ≤ 21 * 100 := Nat.mul_le_mul_left _ (by omega)
      simp (disch := first | omega | (show allOne _ = true; simp [allOne, Value.oneCell', S]) | (simp only [List.length_cons, List.length_nil, List.length_set, List.length_map, List.length_replicate, List.length_append, List.length_take, List.length_drop, Int.toNat_natCast, Int.toNat_of_nonneg, nx_push, nx_set, nx_kill]; done) | (simp only [List.length_cons, List.length_nil, List.length_set, List.length_map, List.length_replicate, List.length_append, List.length_take, List.length_drop, Int.toNat_natCast, Int.toNat_of_nonneg, nx_push, nx_set, nx_kill]; omega)) only [go_sem, reduceCtorEq, Nat.reduceAdd, Nat.reduceSub, Nat.reduceMul, Nat.reduceLT, Nat.reduceLeDiff, Nat.reduceEqDiff, Nat.reduceBEq, Nat.reduceBNe, Int.reduceBEq, Int.reduceEq, Int.reduceLT, Int.reduceLE, Int.reduceAdd, Int.reduceSub, ↓reduceIte, Int.reduceToNat, Nat.reduceShiftRight, Nat.reduceAnd, hb, ldc, hv, ixa_ok]
      refine (strconv_Itoa n (hl n hxm).1 (hl n hxm).2 _).mono ?_
      rintro v H1 ⟨rfl, rfl⟩
      simp (disch := first | omega | (show allOne _ = true; simp [allOne, Value.oneCell', S]) | (simp only [List.length_cons, List.length_nil, List.length_set, List.length_map, List.length_replicate, List.length_append, List.length_take, List.length_drop, Int.toNat_natCast, Int.toNat_of_nonneg, nx_push, nx_set, nx_kill]; done) | (simp only [List.length_cons, List.length_nil, List.length_set, List.length_map, List.length_replicate, List.length_append, List.length_take, List.length_drop, Int.toNat_natCast, Int.toNat_of_nonneg, nx_push, nx_set, nx_kill]; omega)) only [go_sem, reduceCtorEq, Nat.reduceAdd, Nat.reduceSub, Nat.reduceMul, Nat.reduceLT, Nat.reduceLeDiff, Nat.reduceEqDiff, Nat.reduceBEq, Nat.reduceBNe, Int.reduceBEq, Int.reduceEq, Int.reduceLT, Int.reduceLE, Int.reduceAdd, Int.reduceSub, ↓reduceIte, Int.reduceToNat, Nat.reduceShiftRight, Nat.reduceAnd, sadd_ok]
      have e1 : wordF s (l.take (i + 1)) = wordF s (l.take i) ++ 32 :: Lib.itoa n := by rw [List.take_add_one, hx]; exact wordF_snoc _ _ _
      refine ⟨_, ?_, i + 1, rfl, by omega, fle_of (by simp [flook, e1])⟩
      omega
    · have e0 : l.take i = l := List.take_of_length_le (by omega)
      rw [← e0] at hR
      simp (disch := first | omega | (show allOne _ = true; simp [allOne, Value.oneCell', S]) | (simp only [List.length_cons, List.length_nil, List.length_set, List.length_map, List.length_replicate, List.length_append, List.length_take, List.length_drop, Int.toNat_natCast, Int.toNat_of_nonneg, nx_push, nx_set, nx_kill]; done) | (simp only [List.length_cons, List.length_nil, List.length_set, List.length_map, List.length_replicate, List.length_append, List.length_take, List.length_drop, Int.toNat_natCast, Int.toNat_of_nonneg, nx_push, nx_set, nx_kill]; omega)) only [go_sem, reduceCtorEq, Nat.reduceAdd, Nat.reduceSub, Nat.reduceMul, Nat.reduceLT, Nat.reduceLeDiff, Nat.reduceEqDiff, Nat.reduceBEq, Nat.reduceBNe, Int.reduceBEq, Int.reduceEq, Int.reduceLT, Int.reduceLE, Int.reduceAdd, Int.reduceSub, ↓reduceIte, Int.reduceToNat, Nat.reduceShiftRight, Nat.reduceAnd]
      exact hR
theorem desk_part (k a b : Int) (s : List UInt8) (ha : i64 a) (hb : i64 b) (hs : s.length ≤ 1000000000) (H : HHeap) (R : Value → HHeap → Prop) (hR : ∀ H', Old H H' → R (S (partF k a b s)) H') : HCalls Tryz.prog 10 [evV k a b s] H R := by
  have h1 := itoa_len a ha.1 ha.2
  have h2 := itoa_len b hb.1 hb.2
  have two : ∀ n ∈ [a, b], i64 n := fun n hn => by simp at hn; rcases hn with rfl | rfl <;> assumption
  have one' : ∀ n ∈ [a], i64 n := fun n hn => by simp at hn; subst hn; exact ha
  have hO1 : ∀ o, Old H (H.push o) := fun o => Old.push H o
  unfold evV
  refine HCalls.of_hw Tryz.func10 rfl _ Tryz.ntmps10 _ (by rw [Tryz.results10]) ?_
  rw [hframe0_eq _ _ (by simp)]
  simp only [List.zipIdx_cons, List.zipIdx_nil, List.map_cons, List.map_nil, Nat.reduceAdd]
  unfold partF at hR
  by_cases c1 : k = 1
  · subst c1
    simp (disch := first | omega | (show allOne _ = true; simp [allOne, Value.oneCell', S]) | (simp only [List.length_cons, List.length_nil, List.length_set, List.length_map, List.length_replicate, List.length_append, List.length_take, List.length_drop, Int.toNat_natCast, Int.toNat_of_nonneg, nx_push, nx_set, nx_kill]; done) | (simp only [List.length_cons, List.length_nil, List.length_set, List.length_map, List.length_replicate, List.length_append, List.length_take, List.length_drop, Int.toNat_natCast, Int.toNat_of_nonneg, nx_push, nx_set, nx_kill]; omega)) only [go_sem, reduceCtorEq, Nat.reduceAdd, Nat.reduceSub, Nat.reduceMul, Nat.reduceLT, Nat.reduceLeDiff, Nat.reduceEqDiff, Nat.reduceBEq, Nat.reduceBNe, Int.reduceBEq, Int.reduceEq, Int.reduceLT, Int.reduceLE, Int.reduceAdd, Int.reduceSub, ↓reduceIte, Int.reduceToNat, Nat.reduceShiftRight, Nat.reduceAnd, ldc]
    refine desk_word [98, 97, 100] [a, b] two (by simp) (by simp) _ _ (by rw [get_push_eq _ _ (by rw [nx_push])]; rfl) _ ?_
    simp (disch := first | omega | (show allOne _ = true; simp [allOne, Value.oneCell', S]) | (simp only [List.length_cons, List.length_nil, List.length_set, List.length_map, List.length_replicate, List.length_append, List.length_take, List.length_drop, Int.toNat_natCast, Int.toNat_of_nonneg, nx_push, nx_set, nx_kill]; done) | (simp only [List.length_cons, List.length_nil, List.length_set, List.length_map, List.length_replicate, List.length_append, List.length_take, List.length_drop, Int.toNat_natCast, Int.toNat_of_nonneg, nx_push, nx_set, nx_kill]; omega)) only [go_sem, reduceCtorEq, Nat.reduceAdd, Nat.reduceSub, Nat.reduceMul, Nat.reduceLT, Nat.reduceLeDiff, Nat.reduceEqDiff, Nat.reduceBEq, Nat.reduceBNe, Int.reduceBEq, Int.reduceEq, Int.reduceLT, Int.reduceLE, Int.reduceAdd, Int.reduceSub, ↓reduceIte, Int.reduceToNat, Nat.reduceShiftRight, Nat.reduceAnd]
    exact hR _ ((hO1 _).trans (Old.push _ _))
  rw [if_neg c1] at hR
  by_cases c2 : k = 2
  · subst c2
    simp (disch := first | omega | (show allOne _ = true; simp [allOne, Value.oneCell', S]) | (simp only [List.length_cons, List.length_nil, List.length_set, List.length_map, List.length_replicate, List.length_append, List.length_take, List.length_drop, Int.toNat_natCast, Int.toNat_of_nonneg, nx_push, nx_set, nx_kill]; done) | (simp only [List.length_cons, List.length_nil, List.length_set, List.length_map, List.length_replicate, List.length_append, List.length_take, List.length_drop, Int.toNat_natCast, Int.toNat_of_nonneg, nx_push, nx_set, nx_kill]; omega)) only [go_sem, reduceCtorEq, Nat.reduceAdd, Nat.reduceSub, Nat.reduceMul, Nat.reduceLT, Nat.reduceLeDiff, Nat.reduceEqDiff, Nat.reduceBEq, Nat.reduceBNe, Int.reduceBEq, Int.reduceEq, Int.reduceLT, Int.reduceLE, Int.reduceAdd, Int.reduceSub, ↓reduceIte, Int.reduceToNat, Nat.reduceShiftRight, Nat.reduceAnd, ldc]
    refine desk_word [115, 116, 97, 114, 116] [a, b] two (by simp) (by simp) _ _ (by rw [get_push_eq _ _ (by rw [nx_push])]; rfl) _ ?_
    simp (disch := first | omega | (show allOne _ = true; simp [allOne, Value.oneCell', S]) | (simp only [List.length_cons, List.length_nil, List.length_set, List.length_map, List.length_replicate, List.length_append, List.length_take, List.length_drop, Int.toNat_natCast, Int.toNat_of_nonneg, nx_push, nx_set, nx_kill]; done) | (simp only [List.length_cons, List.length_nil, List.length_set, List.length_map, List.length_replicate, List.length_append, List.length_take, List.length_drop, Int.toNat_natCast, Int.toNat_of_nonneg, nx_push, nx_set, nx_kill]; omega)) only [go_sem, reduceCtorEq, Nat.reduceAdd, Nat.reduceSub, Nat.reduceMul, Nat.reduceLT, Nat.reduceLeDiff, Nat.reduceEqDiff, Nat.reduceBEq, Nat.reduceBNe, Int.reduceBEq, Int.reduceEq, Int.reduceLT, Int.reduceLE, Int.reduceAdd, Int.reduceSub, ↓reduceIte, Int.reduceToNat, Nat.reduceShiftRight, Nat.reduceAnd]
    exact hR _ ((hO1 _).trans (Old.push _ _))
  rw [if_neg c2] at hR
  by_cases c3 : k = 3
  · subst c3
    simp (disch := first | omega | (show allOne _ = true; simp [allOne, Value.oneCell', S]) | (simp only [List.length_cons, List.length_nil, List.length_set, List.length_map, List.length_replicate, List.length_append, List.length_take, List.length_drop, Int.toNat_natCast, Int.toNat_of_nonneg, nx_push, nx_set, nx_kill]; done) | (simp only [List.length_cons, List.length_nil, List.length_set, List.length_map, List.length_replicate, List.length_append, List.length_take, List.length_drop, Int.toNat_natCast, Int.toNat_of_nonneg, nx_push, nx_set, nx_kill]; omega)) only [go_sem, reduceCtorEq, Nat.reduceAdd, Nat.reduceSub, Nat.reduceMul, Nat.reduceLT, Nat.reduceLeDiff, Nat.reduceEqDiff, Nat.reduceBEq, Nat.reduceBNe, Int.reduceBEq, Int.reduceEq, Int.reduceLT, Int.reduceLE, Int.reduceAdd, Int.reduceSub, ↓reduceIte, Int.reduceToNat, Nat.reduceShiftRight, Nat.reduceAnd, ldc, sadd_ok]
    exact hR _ (hO1 _)
  rw [if_neg c3] at hR
  by_cases c4 : k = 4
  · subst c4
    simp (disch := first | omega | (show allOne _ = true; simp [allOne, Value.oneCell', S]) | (simp only [List.length_cons, List.length_nil, List.length_set, List.length_map, List.length_replicate, List.length_append, List.length_take, List.length_drop, Int.toNat_natCast, Int.toNat_of_nonneg, nx_push, nx_set, nx_kill]; done) | (simp only [List.length_cons, List.length_nil, List.length_set, List.length_map, List.length_replicate, List.length_append, List.length_take, List.length_drop, Int.toNat_natCast, Int.toNat_of_nonneg, nx_push, nx_set, nx_kill]; omega)) only [go_sem, reduceCtorEq, Nat.reduceAdd, Nat.reduceSub, Nat.reduceMul, Nat.reduceLT, Nat.reduceLeDiff, Nat.reduceEqDiff, Nat.reduceBEq, Nat.reduceBNe, Int.reduceBEq, Int.reduceEq, Int.reduceLT, Int.reduceLE, Int.reduceAdd, Int.reduceSub, ↓reduceIte, Int.reduceToNat, Nat.reduceShiftRight, Nat.reduceAnd, ldc]
    exact hR _ (hO1 _)
  rw [if_neg c4] at hR
  by_cases c5 : k = 5
  · subst c5
    simp (disch := first | omega | (show allOne _ = true; simp [allOne, Value.oneCell', S]) | (simp only [List.length_cons, List.length_nil, List.length_set, List.length_map, List.length_replicate, List.length_append, List.length_take, List.length_drop, Int.toNat_natCast, Int.toNat_of_nonneg, nx_push, nx_set, nx_kill]; done) | (simp only [List.length_cons, List.length_nil, List.length_set, List.length_map, List.length_replicate, List.length_append, List.length_take, List.length_drop, Int.toNat_natCast, Int.toNat_of_nonneg, nx_push, nx_set, nx_kill]; omega)) only [go_sem, reduceCtorEq, Nat.reduceAdd, Nat.reduceSub, Nat.reduceMul, Nat.reduceLT, Nat.reduceLeDiff, Nat.reduceEqDiff, Nat.reduceBEq, Nat.reduceBNe, Int.reduceBEq, Int.reduceEq, Int.reduceLT, Int.reduceLE, Int.reduceAdd, Int.reduceSub, ↓reduceIte, Int.reduceToNat, Nat.reduceShiftRight, Nat.reduceAnd, ldc]
    refine desk_word [102, 97, 105, 108] [a] one' (by simp) (by simp) _ _ (by rw [get_push_eq _ _ (by rw [nx_push])]; rfl) _ ?_
    simp (disch := first | omega | (show allOne _ = true; simp [allOne, Value.oneCell', S]) | (simp only [List.length_cons, List.length_nil, List.length_set, List.length_map, List.length_replicate, List.length_append, List.length_take, List.length_drop, Int.toNat_natCast, Int.toNat_of_nonneg, nx_push, nx_set, nx_kill]; done) | (simp only [List.length_cons, List.length_nil, List.length_set, List.length_map, List.length_replicate, List.length_append, List.length_take, List.length_drop, Int.toNat_natCast, Int.toNat_of_nonneg, nx_push, nx_set, nx_kill]; omega)) only [go_sem, reduceCtorEq, Nat.reduceAdd, Nat.reduceSub, Nat.reduceMul, Nat.reduceLT, Nat.reduceLeDiff, Nat.reduceEqDiff, Nat.reduceBEq, Nat.reduceBNe, Int.reduceBEq, Int.reduceEq, Int.reduceLT, Int.reduceLE, Int.reduceAdd, Int.reduceSub, ↓reduceIte, Int.reduceToNat, Nat.reduceShiftRight, Nat.reduceAnd]
    exact hR _ ((hO1 _).trans (Old.push _ _))
  rw [if_neg c5] at hR
  by_cases c6 : k = 6
  · subst c6
    simp (disch := first | omega | (show allOne _ = true; simp [allOne, Value.oneCell', S]) | (simp only [List.length_cons, List.length_nil, List.length_set, List.length_map, List.length_replicate, List.length_append, List.length_take, List.length_drop, Int.toNat_natCast, Int.toNat_of_nonneg, nx_push, nx_set, nx_kill]; done) | (simp only [List.length_cons, List.length_nil, List.length_set, List.length_map, List.length_replicate, List.length_append, List.length_take, List.length_drop, Int.toNat_natCast, Int.toNat_of_nonneg, nx_push, nx_set, nx_kill]; omega)) only [go_sem, reduceCtorEq, Nat.reduceAdd, Nat.reduceSub, Nat.reduceMul, Nat.reduceLT, Nat.reduceLeDiff, Nat.reduceEqDiff, Nat.reduceBEq, Nat.reduceBNe, Int.reduceBEq, Int.reduceEq, Int.reduceLT, Int.reduceLE, Int.reduceAdd, Int.reduceSub, ↓reduceIte, Int.reduceToNat, Nat.reduceShiftRight, Nat.reduceAnd, ldc]
    refine desk_word [108, 111, 115, 116] [a] one' (by simp) (by simp) _ _ (by rw [get_push_eq _ _ (by rw [nx_push])]; rfl) _ ?_
    simp (disch := first | omega | (show allOne _ = true; simp [allOne, Value.oneCell', S]) | (simp only [List.length_cons, List.length_nil, List.length_set, List.length_map, List.length_replicate, List.length_append, List.length_take, List.length_drop, Int.toNat_natCast, Int.toNat_of_nonneg, nx_push, nx_set, nx_kill]; done) | (simp only [List.length_cons, List.length_nil, List.length_set, List.length_map, List.length_replicate, List.length_append, List.length_take, List.length_drop, Int.toNat_natCast, Int.toNat_of_nonneg, nx_push, nx_set, nx_kill]; omega)) only [go_sem, reduceCtorEq, Nat.reduceAdd, Nat.reduceSub, Nat.reduceMul, Nat.reduceLT, Nat.reduceLeDiff, Nat.reduceEqDiff, Nat.reduceBEq, Nat.reduceBNe, Int.reduceBEq, Int.reduceEq, Int.reduceLT, Int.reduceLE, Int.reduceAdd, Int.reduceSub, ↓reduceIte, Int.reduceToNat, Nat.reduceShiftRight, Nat.reduceAnd]
    exact hR _ ((hO1 _).trans (Old.push _ _))
  rw [if_neg c6] at hR
  by_cases c7 : k = 7
  · subst c7
    simp (disch := first | omega | (show allOne _ = true; simp [allOne, Value.oneCell', S]) | (simp only [List.length_cons, List.length_nil, List.length_set, List.length_map, List.length_replicate, List.length_append, List.length_take, List.length_drop, Int.toNat_natCast, Int.toNat_of_nonneg, nx_push, nx_set, nx_kill]; done) | (simp only [List.length_cons, List.length_nil, List.length_set, List.length_map, List.length_replicate, List.length_append, List.length_take, List.length_drop, Int.toNat_natCast, Int.toNat_of_nonneg, nx_push, nx_set, nx_kill]; omega)) only [go_sem, reduceCtorEq, Nat.reduceAdd, Nat.reduceSub, Nat.reduceMul, Nat.reduceLT, Nat.reduceLeDiff, Nat.reduceEqDiff, Nat.reduceBEq, Nat.reduceBNe, Int.reduceBEq, Int.reduceEq, Int.reduceLT, Int.reduceLE, Int.reduceAdd, Int.reduceSub, ↓reduceIte, Int.reduceToNat, Nat.reduceShiftRight, Nat.reduceAnd, ldc]
    exact hR _ (hO1 _)
  rw [if_neg c7] at hR
  simp (disch := first | omega | (show allOne _ = true; simp [allOne, Value.oneCell', S]) | (simp only [List.length_cons, List.length_nil, List.length_set, List.length_map, List.length_replicate, List.length_append, List.length_take, List.length_drop, Int.toNat_natCast, Int.toNat_of_nonneg, nx_push, nx_set, nx_kill]; done) | (simp only [List.length_cons, List.length_nil, List.length_set, List.length_map, List.length_replicate, List.length_append, List.length_take, List.length_drop, Int.toNat_natCast, Int.toNat_of_nonneg, nx_push, nx_set, nx_kill]; omega)) only [go_sem, reduceCtorEq, Nat.reduceAdd, Nat.reduceSub, Nat.reduceMul, Nat.reduceLT, Nat.reduceLeDiff, Nat.reduceEqDiff, Nat.reduceBEq, Nat.reduceBNe, Int.reduceBEq, Int.reduceEq, Int.reduceLT, Int.reduceLE, Int.reduceAdd, Int.reduceSub, ↓reduceIte, Int.reduceToNat, Nat.reduceShiftRight, Nat.reduceAnd, ldc]
  exact hR _ (hO1 _)
end Go.HL
