/-
  Walks: numbers as text, the document's.
-/
import Derived.Test.YtoflnkdngcdejaaGreatDoorPT
import Derived.Test.YtoflnkdngcdejaaGreatDoorPE6
import Derived.Test.YtoflnkdngcdejaaGreatDoorPB1
set_option linter.unusedVariables false
set_option linter.unusedSimpArgs false
namespace Go.HL
open Go.RowKit Go.Proofs
set_option maxHeartbeats 4000000
set_option maxRecDepth 100000
set_option linter.unusedSimpArgs false
set_option linter.unusedVariables false
theorem bs_desk : bytesStr Tryz.prog 42 9 = true := by kernel_rfl
theorem ref_Digits2 (n : Nat) (hn : n < 18446744073709551616) (H : HHeap) (R : Value → HHeap → Prop) (hR : ∀ H', Old H H' → R (S (Lib.decDigits n)) H') : HCalls Tryz.prog 33 [U n] H R := by
  refine HCalls.of_hw Tryz.func33 rfl _ Tryz.ntmps33 _ (by rw [Tryz.results33]) ?_
  rw [hframe0_eq _ _ (by simp)]
  simp only [List.zipIdx_cons, List.zipIdx_nil, List.map_cons, List.map_nil, Nat.reduceAdd]
  simp (disch := first | omega | (show allOne _ = true; simp [allOne, Value.oneCell', S]) | (simp only [List.length_cons, List.length_nil, List.length_set, List.length_map, List.length_replicate, List.length_append, List.length_take, List.length_drop, Int.toNat_natCast, Int.toNat_of_nonneg, nx_push, nx_set, nx_kill]; done) | (simp only [List.length_cons, List.length_nil, List.length_set, List.length_map, List.length_replicate, List.length_append, List.length_take, List.length_drop, Int.toNat_natCast, Int.toNat_of_nonneg, nx_push, nx_set, nx_kill]; omega)) only [go_sem, reduceCtorEq, Nat.reduceAdd, Nat.reduceSub, Nat.reduceMul, Nat.reduceLT, Nat.reduceLeDiff, Nat.reduceEqDiff, Nat.reduceBEq, Nat.reduceBNe, Int.reduceBEq, Int.reduceEq, Int.reduceLT, Int.reduceLE, Int.reduceAdd, Int.reduceSub, ↓reduceIte, Int.reduceToNat, Nat.reduceShiftRight, Nat.reduceAnd]
  refine Hwp.loop (fun k fr H' => ∃ m s, k = m ∧ m ≤ n ∧ s.length + (Lib.decDigits m).length ≤ 20 ∧ Lib.decDigits n = Lib.decDigits m ++ s ∧ Old H H' ∧ FLe (hfr 23 [(0, U m), (3, S s)]) fr) n ?_ ?_
  · exact ⟨n, [], rfl, Nat.le_refl _, by have := digits_len 19 n (by omega); simp; omega, by simp, Old.refl H, fle_of (by simp [flook])⟩
  · rintro m fr H' ⟨_, s, rfl, hm, hl, hd, hO, hle⟩
    refine Hwp.weaken hle (HW.sound _ _ _ _ ?_)
    have hw : ∀ z : Nat, z < 10 → IntKind.u8.wrap (48 + (z : Int)) = ((48 + z : Nat) : Int) := fun z hz => by
      rw [IntKind.wrap_u8]
      omega
    by_cases hc : 9 < m
    · have hm10 : IntKind.u8.wrap (48 + (m : Int) % 10) = ((48 + m % 10 : Nat) : Int) := by
        have := hw (m % 10) (by omega)
        rw [show (48 + (m : Int) % 10) = 48 + ((m % 10 : Nat) : Int) by omega]; exact this
      simp (disch := first | omega | (show allOne _ = true; simp [allOne, Value.oneCell', S]) | (simp only [List.length_cons, List.length_nil, List.length_set, List.length_map, List.length_replicate, List.length_append, List.length_take, List.length_drop, Int.toNat_natCast, Int.toNat_of_nonneg, nx_push, nx_set, nx_kill]; done) | (simp only [List.length_cons, List.length_nil, List.length_set, List.length_map, List.length_replicate, List.length_append, List.length_take, List.length_drop, Int.toNat_natCast, Int.toNat_of_nonneg, nx_push, nx_set, nx_kill]; omega)) only [go_sem, reduceCtorEq, Nat.reduceAdd, Nat.reduceSub, Nat.reduceMul, Nat.reduceLT, Nat.reduceLeDiff, Nat.reduceEqDiff, Nat.reduceBEq, Nat.reduceBNe, Int.reduceBEq, Int.reduceEq, Int.reduceLT, Int.reduceLE, Int.reduceAdd, Int.reduceSub, ↓reduceIte, Int.reduceToNat, Nat.reduceShiftRight, Nat.reduceAnd, hm10, hcv_bytes bs_desk, get_push_same, hbb_S, sadd_ok]
      have e1 := digits_more m s hc
      have e2 := congrArg List.length e1
      simp only [List.length_append, List.length_cons] at e2
      exact ⟨m / 10, by omega, m / 10, UInt8.ofNat (48 + m % 10) :: s, rfl, by omega, by simp only [List.length_cons]; omega, by rw [hd, e1], hO.trans (Old.push _ _), fle_of (by simp [flook])⟩
    · have hm10 := hw m (by omega)
      simp (disch := first | omega | (show allOne _ = true; simp [allOne, Value.oneCell', S]) | (simp only [List.length_cons, List.length_nil, List.length_set, List.length_map, List.length_replicate, List.length_append, List.length_take, List.length_drop, Int.toNat_natCast, Int.toNat_of_nonneg, nx_push, nx_set, nx_kill]; done) | (simp only [List.length_cons, List.length_nil, List.length_set, List.length_map, List.length_replicate, List.length_append, List.length_take, List.length_drop, Int.toNat_natCast, Int.toNat_of_nonneg, nx_push, nx_set, nx_kill]; omega)) only [go_sem, reduceCtorEq, Nat.reduceAdd, Nat.reduceSub, Nat.reduceMul, Nat.reduceLT, Nat.reduceLeDiff, Nat.reduceEqDiff, Nat.reduceBEq, Nat.reduceBNe, Int.reduceBEq, Int.reduceEq, Int.reduceLT, Int.reduceLE, Int.reduceAdd, Int.reduceSub, ↓reduceIte, Int.reduceToNat, Nat.reduceShiftRight, Nat.reduceAnd, hm10, hcv_bytes bs_desk, get_push_same, hbb_S, sadd_ok]
      rw [hd, digits_last m s hc] at hR
      exact hR _ (hO.trans (Old.push _ _))
theorem ref_Digits (n : Int) (h0 : -9223372036854775808 ≤ n) (h1 : n ≤ 9223372036854775807) (H : HHeap) (R : Value → HHeap → Prop) (hR : ∀ H', Old H H' → R (S (Lib.itoa n)) H') : HCalls Tryz.prog 21 [.int .i64 n] H R := by
  refine HCalls.of_hw Tryz.func21 rfl _ Tryz.ntmps21 _ (by rw [Tryz.results21]) ?_
  rw [hframe0_eq _ _ (by simp)]
  simp only [List.zipIdx_cons, List.zipIdx_nil, List.map_cons, List.map_nil, Nat.reduceAdd]
  by_cases hn : n < 0
  · have hw : IntKind.u64.wrap (IntKind.i64.wrap (0 - n)) = ((n.natAbs : Nat) : Int) := by rw [IntKind.wrap_i64, IntKind.wrap_u64]; omega
    have hlen := digits_len 19 n.natAbs (by omega)
    simp (disch := first | omega | (show allOne _ = true; simp [allOne, Value.oneCell', S]) | (simp only [List.length_cons, List.length_nil, List.length_set, List.length_map, List.length_replicate, List.length_append, List.length_take, List.length_drop, Int.toNat_natCast, Int.toNat_of_nonneg, nx_push, nx_set, nx_kill]; done) | (simp only [List.length_cons, List.length_nil, List.length_set, List.length_map, List.length_replicate, List.length_append, List.length_take, List.length_drop, Int.toNat_natCast, Int.toNat_of_nonneg, nx_push, nx_set, nx_kill]; omega)) only [go_sem, reduceCtorEq, Nat.reduceAdd, Nat.reduceSub, Nat.reduceMul, Nat.reduceLT, Nat.reduceLeDiff, Nat.reduceEqDiff, Nat.reduceBEq, Nat.reduceBNe, Int.reduceBEq, Int.reduceEq, Int.reduceLT, Int.reduceLE, Int.reduceAdd, Int.reduceSub, ↓reduceIte, Int.reduceToNat, Nat.reduceShiftRight, Nat.reduceAnd, hw]
    refine ref_Digits2 n.natAbs (by omega) _ _ ?_
    intro H' hO
    simp (disch := first | omega | (show allOne _ = true; simp [allOne, Value.oneCell', S]) | (simp only [List.length_cons, List.length_nil, List.length_set, List.length_map, List.length_replicate, List.length_append, List.length_take, List.length_drop, Int.toNat_natCast, Int.toNat_of_nonneg, nx_push, nx_set, nx_kill]; done) | (simp only [List.length_cons, List.length_nil, List.length_set, List.length_map, List.length_replicate, List.length_append, List.length_take, List.length_drop, Int.toNat_natCast, Int.toNat_of_nonneg, nx_push, nx_set, nx_kill]; omega)) only [go_sem, reduceCtorEq, Nat.reduceAdd, Nat.reduceSub, Nat.reduceMul, Nat.reduceLT, Nat.reduceLeDiff, Nat.reduceEqDiff, Nat.reduceBEq, Nat.reduceBNe, Int.reduceBEq, Int.reduceEq, Int.reduceLT, Int.reduceLE, Int.reduceAdd, Int.reduceSub, ↓reduceIte, Int.reduceToNat, Nat.reduceShiftRight, Nat.reduceAnd, sadd_ok]
    have := hR H' hO
    unfold Lib.itoa at this
    rw [if_pos hn] at this
    exact this
  · have hw : IntKind.u64.wrap n = ((n.toNat : Nat) : Int) := by rw [IntKind.wrap_u64]; omega
    simp (disch := first | omega | (show allOne _ = true; simp [allOne, Value.oneCell', S]) | (simp only [List.length_cons, List.length_nil, List.length_set, List.length_map, List.length_replicate, List.length_append, List.length_take, List.length_drop, Int.toNat_natCast, Int.toNat_of_nonneg, nx_push, nx_set, nx_kill]; done) | (simp only [List.length_cons, List.length_nil, List.length_set, List.length_map, List.length_replicate, List.length_append, List.length_take, List.length_drop, Int.toNat_natCast, Int.toNat_of_nonneg, nx_push, nx_set, nx_kill]; omega)) only [go_sem, reduceCtorEq, Nat.reduceAdd, Nat.reduceSub, Nat.reduceMul, Nat.reduceLT, Nat.reduceLeDiff, Nat.reduceEqDiff, Nat.reduceBEq, Nat.reduceBNe, Int.reduceBEq, Int.reduceEq, Int.reduceLT, Int.reduceLE, Int.reduceAdd, Int.reduceSub, ↓reduceIte, Int.reduceToNat, Nat.reduceShiftRight, Nat.reduceAnd, hw]
    refine ref_Digits2 n.toNat (by omega) _ _ ?_
    intro H' hO
    simp (disch := first | omega | (show allOne _ = true; simp [allOne, Value.oneCell', S]) | (simp only [List.length_cons, List.length_nil, List.length_set, List.length_map, List.length_replicate, List.length_append, List.length_take, List.length_drop, Int.toNat_natCast, Int.toNat_of_nonneg, nx_push, nx_set, nx_kill]; done) | (simp only [List.length_cons, List.length_nil, List.length_set, List.length_map, List.length_replicate, List.length_append, List.length_take, List.length_drop, Int.toNat_natCast, Int.toNat_of_nonneg, nx_push, nx_set, nx_kill]; omega)) only [go_sem, reduceCtorEq, Nat.reduceAdd, Nat.reduceSub, Nat.reduceMul, Nat.reduceLT, Nat.reduceLeDiff, Nat.reduceEqDiff, Nat.reduceBEq, Nat.reduceBNe, Int.reduceBEq, Int.reduceEq, Int.reduceLT, Int.reduceLE, Int.reduceAdd, Int.reduceSub, ↓reduceIte, Int.reduceToNat, Nat.reduceShiftRight, Nat.reduceAnd]
    have := hR H' hO
    unfold Lib.itoa at this
    rw [if_neg hn] at this
    exact this
end Go.HL
