/-
  Walks: the law of rows of things.
-/
import Derived.Test.YtkflilieljojfaaC10
import Derived.Test.YtkflilieljojfaaA9
namespace Go.HL
open Go.RowKit Go.Proofs
set_option maxHeartbeats 4000000
set_option maxRecDepth 100000
set_option linter.unusedSimpArgs false
set_option linter.unusedVariables false

theorem chainT_congr {n : Nat} {f h : Nat → Nat} (e : ∀ i, i < n → f i = h i) : chainT n f = chainT n h := by
  unfold chainT
  apply List.map_congr_left
  intro i hi
  rw [e i (by simpa using hi)]
theorem law_MoveChains (a b : Nat) (ha : a < 256) (hb : b < 256) (c : Bool) (H : HHeap) (R : Value → HHeap → Prop) (hR : ∀ H', R (.bool true) H') : HCalls Try.prog 7 [.int .u8 a, .int .u8 b, .bool c] H R := by
  refine HCalls.of_hw Try.func7 rfl _ Try.ntmps7 _ (by rw [Try.results7]) ?_
  rw [hframe0_eq _ _ (by simp)]
  simp only [List.zipIdx_cons, List.zipIdx_nil, List.map_cons, List.map_nil, Nat.reduceAdd]
  simp (disch := first | omega | (show allOne _ = true; simp [allOne, Value.oneCell']) | (simp only [List.length_cons, List.length_nil, List.length_set, List.length_map, List.length_replicate, List.length_append, List.length_take, List.length_drop, Int.toNat_natCast, Int.toNat_of_nonneg, nx_push, nx_set, nx_kill]; done) | (simp only [List.length_cons, List.length_nil, List.length_set, List.length_map, List.length_replicate, List.length_append, List.length_take, List.length_drop, Int.toNat_natCast, Int.toNat_of_nonneg, nx_push, nx_set, nx_kill]; omega)) only [go_sem, reduceCtorEq, Nat.reduceAdd, Nat.reduceSub, Nat.reduceMul, Nat.reduceLT, Nat.reduceLeDiff, Nat.reduceEqDiff, Nat.reduceBEq, Nat.reduceBNe, Int.reduceBEq, Int.reduceEq, Int.reduceLT, Int.reduceLE, Int.reduceAdd, Int.reduceSub, ↓reduceIte, Int.reduceToNat, Nat.reduceShiftRight, Nat.reduceAnd]
  refine law_shown _ _ ?_
  intro H0 hk0 hn0
  generalize hn : a % 40 + 1 = n
  have hm : (a : Int) % 40 + 1 = (n : Int) := by omega
  have hm2 : 3 * (n : Int) + 5 = ((3 * n + 5 : Nat) : Int) := by omega
  have hn40 : 1 ≤ n ∧ n ≤ 40 := by omega
  simp (disch := first | omega | (show allOne _ = true; simp [allOne, Value.oneCell']) | (simp only [List.length_cons, List.length_nil, List.length_set, List.length_map, List.length_replicate, List.length_append, List.length_take, List.length_drop, Int.toNat_natCast, Int.toNat_of_nonneg, nx_push, nx_set, nx_kill]; done) | (simp only [List.length_cons, List.length_nil, List.length_set, List.length_map, List.length_replicate, List.length_append, List.length_take, List.length_drop, Int.toNat_natCast, Int.toNat_of_nonneg, nx_push, nx_set, nx_kill]; omega)) only [go_sem, reduceCtorEq, Nat.reduceAdd, Nat.reduceSub, Nat.reduceMul, Nat.reduceLT, Nat.reduceLeDiff, Nat.reduceEqDiff, Nat.reduceBEq, Nat.reduceBNe, Int.reduceBEq, Int.reduceEq, Int.reduceLT, Int.reduceLE, Int.reduceAdd, Int.reduceSub, ↓reduceIte, Int.reduceToNat, Nat.reduceShiftRight, Nat.reduceAnd, hm, hm2]
  refine arena_New (3 * n + 5) (by omega) (by omega) _ _ ?_
  intro H1 g gw gh b1 b2 b3 b4 b5 b6 b7 hA1
  have n1 := hA1.ne1
  have n2 := hA1.ne2
  have n3 := hA1.ne3
  simp (disch := first | omega | (show allOne _ = true; simp [allOne, Value.oneCell']) | (simp only [List.length_cons, List.length_nil, List.length_set, List.length_map, List.length_replicate, List.length_append, List.length_take, List.length_drop, Int.toNat_natCast, Int.toNat_of_nonneg, nx_push, nx_set, nx_kill]; done) | (simp only [List.length_cons, List.length_nil, List.length_set, List.length_map, List.length_replicate, List.length_append, List.length_take, List.length_drop, Int.toNat_natCast, Int.toNat_of_nonneg, nx_push, nx_set, nx_kill]; omega)) only [go_sem, reduceCtorEq, Nat.reduceAdd, Nat.reduceSub, Nat.reduceMul, Nat.reduceLT, Nat.reduceLeDiff, Nat.reduceEqDiff, Nat.reduceBEq, Nat.reduceBNe, Int.reduceBEq, Int.reduceEq, Int.reduceLT, Int.reduceLE, Int.reduceAdd, Int.reduceSub, ↓reduceIte, Int.reduceToNat, Nat.reduceShiftRight, Nat.reduceAnd]
  refine Hwp.loop (fun m fr H' => ∃ i v, m = n - i ∧ i ≤ n ∧ AtA H' g gw gh (3 * n + 5) (chainT i fun _ => 2) ∧ MadeAt H' v ((List.range i).map fun j => wordAt (3 * j)) ∧ (g < H'.next ∧ gw < H'.next ∧ gh < H'.next) ∧
     (∀ x ∈ vblk v, x ≠ g ∧ x ≠ gw ∧ x ≠ gh) ∧ FLe (hfr 189 [(43, I i), (42, I n), (11, v), (9, ptr g 0), (8, I n), (7, .bool true), (2, .bool c), (1, .int .u8 b)]) fr) n ?_ ?_
  · exact ⟨0, .slice none 0 0, by omega, by omega, hA1, .inl ⟨rfl, rfl⟩, ⟨b4, b5, b6⟩, by simp [vblk], fle_of (by simp [flook])⟩
  · rintro m fr H' ⟨i, v, rfl, hi, hA, hv, ⟨l1, l2, l3⟩, hvn, hle⟩
    refine Hwp.weaken hle (HW.sound _ _ _ _ ?_)
    by_cases hc : i < n
    · simp (disch := first | omega | (show allOne _ = true; simp [allOne, Value.oneCell']) | (simp only [List.length_cons, List.length_nil, List.length_set, List.length_map, List.length_replicate, List.length_append, List.length_take, List.length_drop, Int.toNat_natCast, Int.toNat_of_nonneg, nx_push, nx_set, nx_kill]; done) | (simp only [List.length_cons, List.length_nil, List.length_set, List.length_map, List.length_replicate, List.length_append, List.length_take, List.length_drop, Int.toNat_natCast, Int.toNat_of_nonneg, nx_push, nx_set, nx_kill]; omega)) only [go_sem, reduceCtorEq, Nat.reduceAdd, Nat.reduceSub, Nat.reduceMul, Nat.reduceLT, Nat.reduceLeDiff, Nat.reduceEqDiff, Nat.reduceBEq, Nat.reduceBNe, Int.reduceBEq, Int.reduceEq, Int.reduceLT, Int.reduceLE, Int.reduceAdd, Int.reduceSub, ↓reduceIte, Int.reduceToNat, Nat.reduceShiftRight, Nat.reduceAnd]
      have hA2 : AtA (H'.push (.cells [.int .u64 ((i : Int) * 8), .int .u64 2] true)) g gw gh (3 * n + 5) (chainT i fun _ => 2) := hA.frame (by rintro b (rfl | rfl | rfl) <;> simp (disch := first | omega | (simp only [nx_push, nx_set, nx_kill]; done) | (simp only [nx_push, nx_set, nx_kill]; omega)) only [get_push_ne, get_push_eq, get_set_ne, get_set_eq, get_kill_ne, nx_push, nx_set, nx_kill])
      refine arena_Alloc_ok _ _ _ _ _ _ hA2 ⟨1, [i * 8, 2]⟩ ⟨by simp, by simp, by simp, by simp; omega⟩ _ _ (by rw [chainT_used]; simp [Thing.room]; omega) ?_ _ ?_
      · intro H2 hH2
        rw [show ([i * 8, 2] : List Nat).length = 2 from rfl, hsource_slice, hH2 _ (by omega) (by omega) (by omega)]
        simp (disch := first | omega | (simp only [nx_push, nx_set, nx_kill]; done) | (simp only [nx_push, nx_set, nx_kill]; omega)) only [get_push_ne, get_push_eq, get_set_ne, get_set_eq, get_kill_ne, nx_push, nx_set, nx_kill]
        rw [hsrc_cells _ _ _ _ _ (by omega) (by simp)]
        simp
      · intro H2 hA3 f2 hn2
        rw [nx_push] at hn2
        rw [← chainT_succ i (fun _ => 2)] at hA3
        rw [chainT_used]
        have hvlt := hv.lt
        have hv2 : MadeAt H2 v ((List.range i).map fun j => wordAt (3 * j)) := hv.frame (by omega) (fun x hx => by
          obtain ⟨x1, x2, x3⟩ := hvn x hx
          have := hvlt x hx
          rw [f2 x x1 x2 x3]; simp (disch := first | omega | (simp only [nx_push, nx_set, nx_kill]; done) | (simp only [nx_push, nx_set, nx_kill]; omega)) only [get_push_ne, get_push_eq, get_set_ne, get_set_eq, get_kill_ne, nx_push, nx_set, nx_kill])
        obtain ⟨v3, H3, q1, q2, q3, q4, q5⟩ := append_one H2 v _ (wordAt (3 * i)) hv2 (by simp; omega)
        simp (disch := first | omega | (show allOne _ = true; simp [allOne, Value.oneCell']) | (simp only [List.length_cons, List.length_nil, List.length_set, List.length_map, List.length_replicate, List.length_append, List.length_take, List.length_drop, Int.toNat_natCast, Int.toNat_of_nonneg, nx_push, nx_set, nx_kill]; done) | (simp only [List.length_cons, List.length_nil, List.length_set, List.length_map, List.length_replicate, List.length_append, List.length_take, List.length_drop, Int.toNat_natCast, Int.toNat_of_nonneg, nx_push, nx_set, nx_kill]; omega)) only [go_sem, reduceCtorEq, Nat.reduceAdd, Nat.reduceSub, Nat.reduceMul, Nat.reduceLT, Nat.reduceLeDiff, Nat.reduceEqDiff, Nat.reduceBEq, Nat.reduceBNe, Int.reduceBEq, Int.reduceEq, Int.reduceLT, Int.reduceLE, Int.reduceAdd, Int.reduceSub, ↓reduceIte, Int.reduceToNat, Nat.reduceShiftRight, Nat.reduceAnd, hsource_slice, hsrc_cells, List.drop_zero, List.take_succ_cons, List.take_zero, q1]
        refine ⟨_, ?_, i + 1, v3, rfl, by omega, hA3.frame ?_, ?_, ⟨by omega, by omega, by omega⟩, ?_, fle_of (by simp [flook])⟩
        · omega
        · rintro x (rfl | rfl | rfl)
          · exact q4 _ (by omega) (fun hx => (hvn _ hx).1 rfl)
          · exact q4 _ (by omega) (fun hx => (hvn _ hx).2.1 rfl)
          · exact q4 _ (by omega) (fun hx => (hvn _ hx).2.2 rfl)
        · rw [List.range_succ, List.map_append]; exact q2
        · intro x hx
          have := q5 x hx
          exact ⟨by omega, by omega, by omega⟩
    · simp (disch := first | omega | (show allOne _ = true; simp [allOne, Value.oneCell']) | (simp only [List.length_cons, List.length_nil, List.length_set, List.length_map, List.length_replicate, List.length_append, List.length_take, List.length_drop, Int.toNat_natCast, Int.toNat_of_nonneg, nx_push, nx_set, nx_kill]; done) | (simp only [List.length_cons, List.length_nil, List.length_set, List.length_map, List.length_replicate, List.length_append, List.length_take, List.length_drop, Int.toNat_natCast, Int.toNat_of_nonneg, nx_push, nx_set, nx_kill]; omega)) only [go_sem, reduceCtorEq, Nat.reduceAdd, Nat.reduceSub, Nat.reduceMul, Nat.reduceLT, Nat.reduceLeDiff, Nat.reduceEqDiff, Nat.reduceBEq, Nat.reduceBNe, Int.reduceBEq, Int.reduceEq, Int.reduceLT, Int.reduceLE, Int.reduceAdd, Int.reduceSub, ↓reduceIte, Int.reduceToNat, Nat.reduceShiftRight, Nat.reduceAnd]
      have hin : i = n := by omega
      rw [hin] at hA hv
      clear hle hc hi
      have hlenv : ((List.range n).map fun j => wordAt (3 * j)).length = n := by simp
      rcases hv with ⟨hv0, _⟩ | ⟨ob, _, rfl, hob, hog⟩
      · have : n = 0 := by simpa using hv0
        omega
      · rw [hlenv]
        obtain ⟨o1, o2, o3⟩ := hvn ob (by simp [vblk])
        have hat : ∀ j, j < n → (((List.range n).map fun j => wordAt (3 * j)).map U)[j]? = some (U (wordAt (3 * j))) := fun j hj => by simp [hj]
        refine Hwp.loop (fun m fr H2 => ∃ k, m = n - k ∧ k ≤ n ∧ AtA H2 g gw gh (3 * n + 5) (chainT n fun j => if j < k then nxtW n c j else 2) ∧ H2.get ob = some (.cells (((List.range n).map fun j => wordAt (3 * j)).map U) true) ∧ H2.next = H'.next ∧
           FLe (hfr 189 [(63, I k), (62, I n), (11, .slice (some ⟨ob, 0, some 2⟩) n n), (9, ptr g 0), (8, I n), (7, .bool true), (2, .bool c), (1, .int .u8 b)]) fr) n ?_ ?_
        · refine ⟨0, by omega, by omega, ?_, hog, rfl, fle_of (by simp [flook])⟩
          simpa using hA
        · rintro m fr H2 ⟨k, rfl, hk, hA2, hog2, hnx, hle⟩
          refine Hwp.weaken hle (HW.sound _ _ _ _ ?_)
          by_cases hc : k < n
          · have hup : ∀ x, x = nxtW n c k → (chainT n fun j => if j < k then nxtW n c j else 2).set k ⟨1, [k * 8, x]⟩ = chainT n fun j => if j < k + 1 then nxtW n c j else 2 := by
              rintro x rfl
              rw [chainT_set hc]
              congr 1; funext j
              by_cases h1 : j = k
              · subst h1; simp
              · by_cases h2 : j < k
                · simp [h1, h2, show j < k + 1 by omega]
                · simp [h1, h2, show ¬ j < k + 1 by omega]
            have hgk : (chainT n fun j => if j < k then nxtW n c j else 2)[k]? = some ⟨1, [k * 8, 2]⟩ := by rw [chainT_get hc]; simp
            have hpk : placeOf (chainT n fun j => if j < k then nxtW n c j else 2) k = 3 * k := chainT_place (by omega)
            have hset : ∀ x, x < 18446744073709551616 → x = nxtW n c k → AtA (H2.set gw (.cells ((wcells (3 * n + 5) (chainT n fun j => if j < k then nxtW n c j else 2)).set (placeOf (chainT n fun j => if j < k then nxtW n c j else 2) k + 1 + 1) (U x)) true)) g gw gh (3 * n + 5) (chainT n fun j => if j < k + 1 then nxtW n c j else 2) := by
              intro x hx hxe
              have := hA2.set hgk (i := 1) (by simp) hx
              rw [← hup x hxe]; exact this
            have h1k := hat k hc
            have h10 := hat 0 (by omega)
            by_cases hk1 : k + 1 < n
            · have h1k1 := hat (k + 1) hk1
              simp (disch := first | omega | (show allOne _ = true; simp [allOne, Value.oneCell']) | (simp only [List.length_cons, List.length_nil, List.length_set, List.length_map, List.length_replicate, List.length_append, List.length_take, List.length_drop, Int.toNat_natCast, Int.toNat_of_nonneg, nx_push, nx_set, nx_kill]; done) | (simp only [List.length_cons, List.length_nil, List.length_set, List.length_map, List.length_replicate, List.length_append, List.length_take, List.length_drop, Int.toNat_natCast, Int.toNat_of_nonneg, nx_push, nx_set, nx_kill]; omega)) only [go_sem, reduceCtorEq, Nat.reduceAdd, Nat.reduceSub, Nat.reduceMul, Nat.reduceLT, Nat.reduceLeDiff, Nat.reduceEqDiff, Nat.reduceBEq, Nat.reduceBNe, Int.reduceBEq, Int.reduceEq, Int.reduceLT, Int.reduceLE, Int.reduceAdd, Int.reduceSub, ↓reduceIte, Int.reduceToNat, Nat.reduceShiftRight, Nat.reduceAnd]
              refine Hwp.drawn mixed [0, 0, 0, 6, 14, 0, 0, 64, 224, 480, 1023] (.op 0 (.op 1 (.op 2 (.op 3 (.op 4 (.op 5 (.op 6 (.op 7 (.op 8 (.op 9 (.eff 10 .done .stop))))))))))) (by kernel_rfl) ?_
              simp (disch := first | omega | (show allOne _ = true; simp [allOne, Value.oneCell']) | (simp only [List.length_cons, List.length_nil, List.length_set, List.length_map, List.length_replicate, List.length_append, List.length_take, List.length_drop, Int.toNat_natCast, Int.toNat_of_nonneg, nx_push, nx_set, nx_kill]; done) | (simp only [List.length_cons, List.length_nil, List.length_set, List.length_map, List.length_replicate, List.length_append, List.length_take, List.length_drop, Int.toNat_natCast, Int.toNat_of_nonneg, nx_push, nx_set, nx_kill]; omega)) only [go_sem, reduceCtorEq, Nat.reduceAdd, Nat.reduceSub, Nat.reduceMul, Nat.reduceLT, Nat.reduceLeDiff, Nat.reduceEqDiff, Nat.reduceBEq, Nat.reduceBNe, Int.reduceBEq, Int.reduceEq, Int.reduceLT, Int.reduceLE, Int.reduceAdd, Int.reduceSub, ↓reduceIte, Int.reduceToNat, Nat.reduceShiftRight, Nat.reduceAnd, ixa_ok, ldc_cells, hog2, h1k, h1k1]
              rw [← hpk]
              refine arena_Set1 _ _ _ _ _ _ hA2 k 1 (wordAt (3 * (k + 1))) _ hgk (by simp) (by unfold wordAt; omega) _ ?_
              simp (disch := first | omega | (show allOne _ = true; simp [allOne, Value.oneCell']) | (simp only [List.length_cons, List.length_nil, List.length_set, List.length_map, List.length_replicate, List.length_append, List.length_take, List.length_drop, Int.toNat_natCast, Int.toNat_of_nonneg, nx_push, nx_set, nx_kill]; done) | (simp only [List.length_cons, List.length_nil, List.length_set, List.length_map, List.length_replicate, List.length_append, List.length_take, List.length_drop, Int.toNat_natCast, Int.toNat_of_nonneg, nx_push, nx_set, nx_kill]; omega)) only [go_sem, reduceCtorEq, Nat.reduceAdd, Nat.reduceSub, Nat.reduceMul, Nat.reduceLT, Nat.reduceLeDiff, Nat.reduceEqDiff, Nat.reduceBEq, Nat.reduceBNe, Int.reduceBEq, Int.reduceEq, Int.reduceLT, Int.reduceLE, Int.reduceAdd, Int.reduceSub, ↓reduceIte, Int.reduceToNat, Nat.reduceShiftRight, Nat.reduceAnd]
              refine ⟨_, ?_, k + 1, rfl, by omega, hset _ (by unfold wordAt; omega) (by unfold nxtW; rw [if_pos hk1]), ?_, hnx, fle_of (by simp [flook])⟩
              · omega
              · (try simp (disch := first | omega | (simp only [nx_push, nx_set, nx_kill]; done) | (simp only [nx_push, nx_set, nx_kill]; omega)) only [get_push_ne, get_push_eq, get_set_ne, get_set_eq, get_kill_ne, nx_push, nx_set, nx_kill]); exact hog2
            · simp (disch := first | omega | (show allOne _ = true; simp [allOne, Value.oneCell']) | (simp only [List.length_cons, List.length_nil, List.length_set, List.length_map, List.length_replicate, List.length_append, List.length_take, List.length_drop, Int.toNat_natCast, Int.toNat_of_nonneg, nx_push, nx_set, nx_kill]; done) | (simp only [List.length_cons, List.length_nil, List.length_set, List.length_map, List.length_replicate, List.length_append, List.length_take, List.length_drop, Int.toNat_natCast, Int.toNat_of_nonneg, nx_push, nx_set, nx_kill]; omega)) only [go_sem, reduceCtorEq, Nat.reduceAdd, Nat.reduceSub, Nat.reduceMul, Nat.reduceLT, Nat.reduceLeDiff, Nat.reduceEqDiff, Nat.reduceBEq, Nat.reduceBNe, Int.reduceBEq, Int.reduceEq, Int.reduceLT, Int.reduceLE, Int.reduceAdd, Int.reduceSub, ↓reduceIte, Int.reduceToNat, Nat.reduceShiftRight, Nat.reduceAnd]
              cases c with
              | true =>
                simp (disch := first | omega | (show allOne _ = true; simp [allOne, Value.oneCell']) | (simp only [List.length_cons, List.length_nil, List.length_set, List.length_map, List.length_replicate, List.length_append, List.length_take, List.length_drop, Int.toNat_natCast, Int.toNat_of_nonneg, nx_push, nx_set, nx_kill]; done) | (simp only [List.length_cons, List.length_nil, List.length_set, List.length_map, List.length_replicate, List.length_append, List.length_take, List.length_drop, Int.toNat_natCast, Int.toNat_of_nonneg, nx_push, nx_set, nx_kill]; omega)) only [go_sem, reduceCtorEq, Nat.reduceAdd, Nat.reduceSub, Nat.reduceMul, Nat.reduceLT, Nat.reduceLeDiff, Nat.reduceEqDiff, Nat.reduceBEq, Nat.reduceBNe, Int.reduceBEq, Int.reduceEq, Int.reduceLT, Int.reduceLE, Int.reduceAdd, Int.reduceSub, ↓reduceIte, Int.reduceToNat, Nat.reduceShiftRight, Nat.reduceAnd]
                refine Hwp.drawn mixed [0, 0, 0, 6, 14, 0, 32, 96, 255] (.op 0 (.op 1 (.op 2 (.op 3 (.op 4 (.op 5 (.op 6 (.op 7 (.eff 8 .done .stop))))))))) (by kernel_rfl) ?_
                simp (disch := first | omega | (show allOne _ = true; simp [allOne, Value.oneCell']) | (simp only [List.length_cons, List.length_nil, List.length_set, List.length_map, List.length_replicate, List.length_append, List.length_take, List.length_drop, Int.toNat_natCast, Int.toNat_of_nonneg, nx_push, nx_set, nx_kill]; done) | (simp only [List.length_cons, List.length_nil, List.length_set, List.length_map, List.length_replicate, List.length_append, List.length_take, List.length_drop, Int.toNat_natCast, Int.toNat_of_nonneg, nx_push, nx_set, nx_kill]; omega)) only [go_sem, reduceCtorEq, Nat.reduceAdd, Nat.reduceSub, Nat.reduceMul, Nat.reduceLT, Nat.reduceLeDiff, Nat.reduceEqDiff, Nat.reduceBEq, Nat.reduceBNe, Int.reduceBEq, Int.reduceEq, Int.reduceLT, Int.reduceLE, Int.reduceAdd, Int.reduceSub, ↓reduceIte, Int.reduceToNat, Nat.reduceShiftRight, Nat.reduceAnd, ixa_ok, ldc_cells, hog2, h1k, h10]
                rw [← hpk]
                refine arena_Set1 _ _ _ _ _ _ hA2 k 1 1 _ hgk (by simp) (by omega) _ ?_
                simp (disch := first | omega | (show allOne _ = true; simp [allOne, Value.oneCell']) | (simp only [List.length_cons, List.length_nil, List.length_set, List.length_map, List.length_replicate, List.length_append, List.length_take, List.length_drop, Int.toNat_natCast, Int.toNat_of_nonneg, nx_push, nx_set, nx_kill]; done) | (simp only [List.length_cons, List.length_nil, List.length_set, List.length_map, List.length_replicate, List.length_append, List.length_take, List.length_drop, Int.toNat_natCast, Int.toNat_of_nonneg, nx_push, nx_set, nx_kill]; omega)) only [go_sem, reduceCtorEq, Nat.reduceAdd, Nat.reduceSub, Nat.reduceMul, Nat.reduceLT, Nat.reduceLeDiff, Nat.reduceEqDiff, Nat.reduceBEq, Nat.reduceBNe, Int.reduceBEq, Int.reduceEq, Int.reduceLT, Int.reduceLE, Int.reduceAdd, Int.reduceSub, ↓reduceIte, Int.reduceToNat, Nat.reduceShiftRight, Nat.reduceAnd]
                refine ⟨_, ?_, k + 1, rfl, by omega, hset 1 (by omega) (by unfold nxtW; rw [if_neg hk1]; rfl), ?_, hnx, fle_of (by simp [flook])⟩
                · omega
                · (try simp (disch := first | omega | (simp only [nx_push, nx_set, nx_kill]; done) | (simp only [nx_push, nx_set, nx_kill]; omega)) only [get_push_ne, get_push_eq, get_set_ne, get_set_eq, get_kill_ne, nx_push, nx_set, nx_kill]); exact hog2
              | false =>
                simp (disch := first | omega | (show allOne _ = true; simp [allOne, Value.oneCell']) | (simp only [List.length_cons, List.length_nil, List.length_set, List.length_map, List.length_replicate, List.length_append, List.length_take, List.length_drop, Int.toNat_natCast, Int.toNat_of_nonneg, nx_push, nx_set, nx_kill]; done) | (simp only [List.length_cons, List.length_nil, List.length_set, List.length_map, List.length_replicate, List.length_append, List.length_take, List.length_drop, Int.toNat_natCast, Int.toNat_of_nonneg, nx_push, nx_set, nx_kill]; omega)) only [go_sem, reduceCtorEq, Nat.reduceAdd, Nat.reduceSub, Nat.reduceMul, Nat.reduceLT, Nat.reduceLeDiff, Nat.reduceEqDiff, Nat.reduceBEq, Nat.reduceBNe, Int.reduceBEq, Int.reduceEq, Int.reduceLT, Int.reduceLE, Int.reduceAdd, Int.reduceSub, ↓reduceIte, Int.reduceToNat, Nat.reduceShiftRight, Nat.reduceAnd]
                refine ⟨_, ?_, k + 1, rfl, by omega, ?_, hog2, hnx, fle_of (by simp [flook])⟩
                · omega
                · have e := hup 2 (by unfold nxtW; rw [if_neg hk1]; rfl)
                  have : (chainT n fun j => if j < k then nxtW n false j else 2).set k ⟨1, [k * 8, 2]⟩ = chainT n fun j => if j < k then nxtW n false j else 2 := by
                    rw [chainT_set hc]; congr 1; funext j
                    by_cases h1 : j = k
                    · subst h1; simp
                    · simp [h1]
                  rw [this] at e
                  rw [← e]; exact hA2
          · have hkn : k = n := by omega
            rw [hkn] at hA2
            rw [chainT_congr (h := nxtW n c) (fun i hi => by rw [if_pos hi])] at hA2
            clear hle hk hc
            generalize hkk : b % n = kk
            have hkl : kk < n := by rw [← hkk]; exact Nat.mod_lt _ (by omega)
            have hbm : (b : Int) % (n : Int) = (kk : Int) := by rw [← hkk]; omega
            have h1k := hat kk hkl
            have hW : wantN n kk c = if c then n else n - kk := rfl
            have hbf := bfs_chain (c := c) hkl
            have hre := reach_chain (c := c) hkl
            have hwp := want_pos (c := c) hkl
            have hwl := want_le (n := n) (k := kk) (c := c)
            have hou := outT_chain (c := c) hkl
            rw [← hbf] at hou
            change outT _ _ = keptT n kk c at hou
            have hA3 : AtA (H2.push (.cells [U (wordAt (3 * kk))] true)) g gw gh (3 * n + 5) (chT n c) := hA2.frame (by rintro b (rfl | rfl | rfl) <;> simp (disch := first | omega | (simp only [nx_push, nx_set, nx_kill]; done) | (simp only [nx_push, nx_set, nx_kill]; omega)) only [get_push_ne, get_push_eq, get_set_ne, get_set_eq, get_kill_ne, nx_push, nx_set, nx_kill])
            have hm18 : wordAt (3 * kk) < 18446744073709551616 := by unfold wordAt; omega
            have tail0 : ∀ (R0 : Value → HHeap → Prop), (∀ H4 g' gw' gh' vb, AtA H4 g' gw' gh' (3 * n + 5) (keptT n kk c) → H4.get vb = some (.cells [U 1] true) → H2.next + 1 ≤ H4.next → (vb < H4.next ∧ g' < H4.next ∧ gw' < H4.next ∧ gh' < H4.next) → (∀ b, b < H2.next + 1 → H4.get b = (H2.push (.cells [U (wordAt (3 * kk))] true)).get b) → R0 (.tuple #[ptr g' 0, .slice (some ⟨vb, 0, some 2⟩) 1 1]) H4) →
                HCalls Try.prog 12 [ptr g 0, .slice (some ⟨H2.next, 0, none⟩) 1 1] (H2.push (.cells [.int .u64 (wordAt (3 * kk))] true)) R0 := by
              intro R0 hR0
              refine move_Live _ _ _ _ _ _ hA3 ⟨by simp (disch := first | omega | (simp only [nx_push, nx_set, nx_kill]; done) | (simp only [nx_push, nx_set, nx_kill]; omega)) only [get_push_ne, get_push_eq, get_set_ne, get_set_eq, get_kill_ne, nx_push, nx_set, nx_kill]; omega, by simp (disch := first | omega | (simp only [nx_push, nx_set, nx_kill]; done) | (simp only [nx_push, nx_set, nx_kill]; omega)) only [get_push_ne, get_push_eq, get_set_ne, get_set_eq, get_kill_ne, nx_push, nx_set, nx_kill]; omega, by simp (disch := first | omega | (simp only [nx_push, nx_set, nx_kill]; done) | (simp only [nx_push, nx_set, nx_kill]; omega)) only [get_push_ne, get_push_eq, get_set_ne, get_set_eq, get_kill_ne, nx_push, nx_set, nx_kill]; omega⟩ _ [wordAt (3 * kk)] (RowAt.one (by simp (disch := first | omega | (simp only [nx_push, nx_set, nx_kill]; done) | (simp only [nx_push, nx_set, nx_kill]; omega)) only [get_push_ne, get_push_eq, get_set_ne, get_set_eq, get_kill_ne, nx_push, nx_set, nx_kill]; omega) (by simp (disch := first | omega | (simp only [nx_push, nx_set, nx_kill]; done) | (simp only [nx_push, nx_set, nx_kill]; omega)) only [get_push_ne, get_push_eq, get_set_ne, get_set_eq, get_kill_ne, nx_push, nx_set, nx_kill])) (by simpa using hm18) (by simp) _ ?_
              intro H4 g' gw' gh' v hB hV hk hn hnew hlt hvb
              rw [hou] at hB
              have htr : [wordAt (3 * kk)].map (tr (chT n c) (bfs (chT n c) [wordAt (3 * kk)])) = [1] := by
                simp only [List.map_cons, List.map_nil]
                congr 1
                unfold tr
                rw [chainT_find hkl]
                simp only
                have e0 := place_chain (c := c) hkl hwp
                rw [show rnd n kk 0 = kk by unfold rnd; rw [if_pos (by omega)]; omega] at e0
                rw [hbf, e0]; rfl
              rw [htr] at hV
              rcases hV with ⟨hh, _⟩ | ⟨ob, _, hv, hob, hog⟩
              · simp at hh
              · subst hv
                rw [nx_push] at hn hk
                exact hR0 H4 g' gw' gh' ob hB hog hn ⟨hob, hlt⟩ hk
            cases c with
            | true => 
              replace hW : wantN n kk true = n := rfl
              simp (disch := first | omega | (show allOne _ = true; simp [allOne, Value.oneCell']) | (simp only [List.length_cons, List.length_nil, List.length_set, List.length_map, List.length_replicate, List.length_append, List.length_take, List.length_drop, Int.toNat_natCast, Int.toNat_of_nonneg, nx_push, nx_set, nx_kill]; done) | (simp only [List.length_cons, List.length_nil, List.length_set, List.length_map, List.length_replicate, List.length_append, List.length_take, List.length_drop, Int.toNat_natCast, Int.toNat_of_nonneg, nx_push, nx_set, nx_kill]; omega)) only [go_sem, reduceCtorEq, Nat.reduceAdd, Nat.reduceSub, Nat.reduceMul, Nat.reduceLT, Nat.reduceLeDiff, Nat.reduceEqDiff, Nat.reduceBEq, Nat.reduceBNe, Int.reduceBEq, Int.reduceEq, Int.reduceLT, Int.reduceLE, Int.reduceAdd, Int.reduceSub, ↓reduceIte, Int.reduceToNat, Nat.reduceShiftRight, Nat.reduceAnd, hbm, ixa_ok, ldc_cells, hog2, h1k]
              refine tail0 _ ?_
              clear tail0
              intro H4 g' gw' gh' vb hB hvb hn4 ⟨v1, v2, v3, v4⟩ hk4
              have hA5 : AtA H4 g gw gh (3 * n + 5) (chT n true) := hA3.frame (by rintro b (rfl | rfl | rfl) <;> exact hk4 _ (by omega))
              have hog5 : H4.get ob = some (.cells (((List.range n).map fun j => wordAt (3 * j)).map U) true) := by rw [hk4 _ (by omega), get_push_ne _ _ (by omega)]; exact hog2
              simp (disch := first | omega | (show allOne _ = true; simp [allOne, Value.oneCell']) | (simp only [List.length_cons, List.length_nil, List.length_set, List.length_map, List.length_replicate, List.length_append, List.length_take, List.length_drop, Int.toNat_natCast, Int.toNat_of_nonneg, nx_push, nx_set, nx_kill]; done) | (simp only [List.length_cons, List.length_nil, List.length_set, List.length_map, List.length_replicate, List.length_append, List.length_take, List.length_drop, Int.toNat_natCast, Int.toNat_of_nonneg, nx_push, nx_set, nx_kill]; omega)) only [go_sem, reduceCtorEq, Nat.reduceAdd, Nat.reduceSub, Nat.reduceMul, Nat.reduceLT, Nat.reduceLeDiff, Nat.reduceEqDiff, Nat.reduceBEq, Nat.reduceBNe, Int.reduceBEq, Int.reduceEq, Int.reduceLT, Int.reduceLE, Int.reduceAdd, Int.reduceSub, ↓reduceIte, Int.reduceToNat, Nat.reduceShiftRight, Nat.reduceAnd]
              refine arena_Used _ _ _ _ _ _ hB _ ?_
              rw [keptT_used]
              simp (disch := first | omega | (show allOne _ = true; simp [allOne, Value.oneCell']) | (simp only [List.length_cons, List.length_nil, List.length_set, List.length_map, List.length_replicate, List.length_append, List.length_take, List.length_drop, Int.toNat_natCast, Int.toNat_of_nonneg, nx_push, nx_set, nx_kill]; done) | (simp only [List.length_cons, List.length_nil, List.length_set, List.length_map, List.length_replicate, List.length_append, List.length_take, List.length_drop, Int.toNat_natCast, Int.toNat_of_nonneg, nx_push, nx_set, nx_kill]; omega)) only [go_sem, reduceCtorEq, Nat.reduceAdd, Nat.reduceSub, Nat.reduceMul, Nat.reduceLT, Nat.reduceLeDiff, Nat.reduceEqDiff, Nat.reduceBEq, Nat.reduceBNe, Int.reduceBEq, Int.reduceEq, Int.reduceLT, Int.reduceLE, Int.reduceAdd, Int.reduceSub, ↓reduceIte, Int.reduceToNat, Nat.reduceShiftRight, Nat.reduceAnd, ixa_ok, ldc_cells, hog5, h1k]
              have hA6 : AtA (H4.push (.cells [U (wordAt (3 * kk))] true)) g gw gh (3 * n + 5) (chT n true) := hA5.frame (by rintro b (rfl | rfl | rfl) <;> simp (disch := first | omega | (simp only [nx_push, nx_set, nx_kill]; done) | (simp only [nx_push, nx_set, nx_kill]; omega)) only [get_push_ne, get_push_eq, get_set_ne, get_set_eq, get_kill_ne, nx_push, nx_set, nx_kill])
              refine move_Reach _ _ _ _ _ _ hA6 ⟨by simp (disch := first | omega | (simp only [nx_push, nx_set, nx_kill]; done) | (simp only [nx_push, nx_set, nx_kill]; omega)) only [get_push_ne, get_push_eq, get_set_ne, get_set_eq, get_kill_ne, nx_push, nx_set, nx_kill]; omega, by simp (disch := first | omega | (simp only [nx_push, nx_set, nx_kill]; done) | (simp only [nx_push, nx_set, nx_kill]; omega)) only [get_push_ne, get_push_eq, get_set_ne, get_set_eq, get_kill_ne, nx_push, nx_set, nx_kill]; omega, by simp (disch := first | omega | (simp only [nx_push, nx_set, nx_kill]; done) | (simp only [nx_push, nx_set, nx_kill]; omega)) only [get_push_ne, get_push_eq, get_set_ne, get_set_eq, get_kill_ne, nx_push, nx_set, nx_kill]; omega⟩ _ [wordAt (3 * kk)] (RowAt.one (by simp (disch := first | omega | (simp only [nx_push, nx_set, nx_kill]; done) | (simp only [nx_push, nx_set, nx_kill]; omega)) only [get_push_ne, get_push_eq, get_set_ne, get_set_eq, get_kill_ne, nx_push, nx_set, nx_kill]; omega) (by simp (disch := first | omega | (simp only [nx_push, nx_set, nx_kill]; done) | (simp only [nx_push, nx_set, nx_kill]; omega)) only [get_push_ne, get_push_eq, get_set_ne, get_set_eq, get_kill_ne, nx_push, nx_set, nx_kill])) (by simpa using hm18) (by simp) _ ?_
              intro H6 hk6 hn6
              rw [nx_push] at hk6 hn6
              rw [hre]
              clear hA5 hA6 hA3
              have hvb6 : H6.get vb = some (.cells [U 1] true) := by rw [hk6 _ (by omega), get_push_ne _ _ (by omega)]; exact hvb
              simp (disch := first | omega | (show allOne _ = true; simp [allOne, Value.oneCell']) | (simp only [List.length_cons, List.length_nil, List.length_set, List.length_map, List.length_replicate, List.length_append, List.length_take, List.length_drop, Int.toNat_natCast, Int.toNat_of_nonneg, nx_push, nx_set, nx_kill]; done) | (simp only [List.length_cons, List.length_nil, List.length_set, List.length_map, List.length_replicate, List.length_append, List.length_take, List.length_drop, Int.toNat_natCast, Int.toNat_of_nonneg, nx_push, nx_set, nx_kill]; omega)) only [go_sem, reduceCtorEq, Nat.reduceAdd, Nat.reduceSub, Nat.reduceMul, Nat.reduceLT, Nat.reduceLeDiff, Nat.reduceEqDiff, Nat.reduceBEq, Nat.reduceBNe, Int.reduceBEq, Int.reduceEq, Int.reduceLT, Int.reduceLE, Int.reduceAdd, Int.reduceSub, ↓reduceIte, Int.reduceToNat, Nat.reduceShiftRight, Nat.reduceAnd, ixa_ok, ldc_cells, hvb6]
              have hB6 : AtA H6 g' gw' gh' (3 * n + 5) (keptT n kk true) := hB.frame (by rintro b (rfl | rfl | rfl) <;> (rw [hk6 _ (by omega), get_push_ne _ _ (by omega)]))
              clear hB
              refine Hwp.loop (fun m fr H' => ∃ i w, m = wantN n kk true - i ∧ i ≤ wantN n kk true ∧ H' = H6 ∧ (i < wantN n kk true → w = wordAt (3 * i)) ∧ (i = wantN n kk true → w = if true then 1 else 2) ∧
                 FLe (hfr 189 [(141, I i), (140, I (wantN n kk true)), (20, U w), (19, .slice (some ⟨vb, 0, some 2⟩) 1 1), (18, ptr g' 0), (16, I kk), (8, I n), (7, .bool true), (2, .bool true)]) fr) (wantN n kk true) ?_ ?_
              · exact ⟨0, 1, by omega, by omega, rfl, fun _ => rfl, by omega, fle_of (by simp [flook, hW]; try omega)⟩
              · rintro m fr H7 ⟨i, w, rfl, hi, rfl, hw1, hw2, hle⟩
                refine Hwp.weaken hle (HW.sound _ _ _ _ ?_)
                by_cases hc : i < wantN n kk true
                · have hwi := hw1 hc
                  subst hwi
                  simp (disch := first | omega | (show allOne _ = true; simp [allOne, Value.oneCell']) | (simp only [List.length_cons, List.length_nil, List.length_set, List.length_map, List.length_replicate, List.length_append, List.length_take, List.length_drop, Int.toNat_natCast, Int.toNat_of_nonneg, nx_push, nx_set, nx_kill]; done) | (simp only [List.length_cons, List.length_nil, List.length_set, List.length_map, List.length_replicate, List.length_append, List.length_take, List.length_drop, Int.toNat_natCast, Int.toNat_of_nonneg, nx_push, nx_set, nx_kill]; omega)) only [go_sem, reduceCtorEq, Nat.reduceAdd, Nat.reduceSub, Nat.reduceMul, Nat.reduceLT, Nat.reduceLeDiff, Nat.reduceEqDiff, Nat.reduceBEq, Nat.reduceBNe, Int.reduceBEq, Int.reduceEq, Int.reduceLT, Int.reduceLE, Int.reduceAdd, Int.reduceSub, ↓reduceIte, Int.reduceToNat, Nat.reduceShiftRight, Nat.reduceAnd]
                  refine arena_Get _ _ _ _ _ _ hB6 _ (by unfold wordAt; omega) 0 _ ?_
                  rw [show getV (keptT n kk true) (wordAt (3 * i)) 0 = .tuple #[U (rnd n kk i * 8), I 0] by unfold getV; rw [keptT_find hc]; rfl]
                  have hmod : ((kk : Int) + (i : Int)) % (n : Int) = (rnd n kk i : Int) := by
                    unfold rnd
                    split
                    · rw [Int.emod_eq_of_lt (by omega) (by omega)]; omega
                    · rw [show (kk : Int) + (i : Int) = ((kk + i - n : Nat) : Int) + (n : Int) by omega, Int.add_emod_right, Int.emod_eq_of_lt (by omega) (by omega)]
                  have hrl := rnd_lt hkl (show i < n by omega)
                  simp (disch := first | omega | (show allOne _ = true; simp [allOne, Value.oneCell']) | (simp only [List.length_cons, List.length_nil, List.length_set, List.length_map, List.length_replicate, List.length_append, List.length_take, List.length_drop, Int.toNat_natCast, Int.toNat_of_nonneg, nx_push, nx_set, nx_kill]; done) | (simp only [List.length_cons, List.length_nil, List.length_set, List.length_map, List.length_replicate, List.length_append, List.length_take, List.length_drop, Int.toNat_natCast, Int.toNat_of_nonneg, nx_push, nx_set, nx_kill]; omega)) only [go_sem, reduceCtorEq, Nat.reduceAdd, Nat.reduceSub, Nat.reduceMul, Nat.reduceLT, Nat.reduceLeDiff, Nat.reduceEqDiff, Nat.reduceBEq, Nat.reduceBNe, Int.reduceBEq, Int.reduceEq, Int.reduceLT, Int.reduceLE, Int.reduceAdd, Int.reduceSub, ↓reduceIte, Int.reduceToNat, Nat.reduceShiftRight, Nat.reduceAnd, hmod]
                  refine arena_Get _ _ _ _ _ _ hB6 _ (by unfold wordAt; omega) 1 _ ?_
                  rw [show getV (keptT n kk true) (wordAt (3 * i)) 1 = .tuple #[U (keptW n kk true i), I 0] by unfold getV; rw [keptT_find hc]; rfl]
                  simp (disch := first | omega | (show allOne _ = true; simp [allOne, Value.oneCell']) | (simp only [List.length_cons, List.length_nil, List.length_set, List.length_map, List.length_replicate, List.length_append, List.length_take, List.length_drop, Int.toNat_natCast, Int.toNat_of_nonneg, nx_push, nx_set, nx_kill]; done) | (simp only [List.length_cons, List.length_nil, List.length_set, List.length_map, List.length_replicate, List.length_append, List.length_take, List.length_drop, Int.toNat_natCast, Int.toNat_of_nonneg, nx_push, nx_set, nx_kill]; omega)) only [go_sem, reduceCtorEq, Nat.reduceAdd, Nat.reduceSub, Nat.reduceMul, Nat.reduceLT, Nat.reduceLeDiff, Nat.reduceEqDiff, Nat.reduceBEq, Nat.reduceBNe, Int.reduceBEq, Int.reduceEq, Int.reduceLT, Int.reduceLE, Int.reduceAdd, Int.reduceSub, ↓reduceIte, Int.reduceToNat, Nat.reduceShiftRight, Nat.reduceAnd]
                  refine ⟨_, ?_, i + 1, keptW n kk true i, rfl, by omega, fun h => by unfold keptW; rw [if_pos h], fun h => by unfold keptW; rw [if_neg (by omega)]; rfl, fle_of (by simp [flook])⟩
                  omega
                · have hwi := hw2 (by omega)
                  simp only [Bool.false_eq_true, if_true, if_false] at hwi
                  subst hwi
                  simp (disch := first | omega | (show allOne _ = true; simp [allOne, Value.oneCell']) | (simp only [List.length_cons, List.length_nil, List.length_set, List.length_map, List.length_replicate, List.length_append, List.length_take, List.length_drop, Int.toNat_natCast, Int.toNat_of_nonneg, nx_push, nx_set, nx_kill]; done) | (simp only [List.length_cons, List.length_nil, List.length_set, List.length_map, List.length_replicate, List.length_append, List.length_take, List.length_drop, Int.toNat_natCast, Int.toNat_of_nonneg, nx_push, nx_set, nx_kill]; omega)) only [go_sem, reduceCtorEq, Nat.reduceAdd, Nat.reduceSub, Nat.reduceMul, Nat.reduceLT, Nat.reduceLeDiff, Nat.reduceEqDiff, Nat.reduceBEq, Nat.reduceBNe, Int.reduceBEq, Int.reduceEq, Int.reduceLT, Int.reduceLE, Int.reduceAdd, Int.reduceSub, ↓reduceIte, Int.reduceToNat, Nat.reduceShiftRight, Nat.reduceAnd, ixa_ok, ldc_cells, hvb6]
                  exact hR _
            | false =>
              replace hW : wantN n kk false = n - kk := rfl
              simp (disch := first | omega | (show allOne _ = true; simp [allOne, Value.oneCell']) | (simp only [List.length_cons, List.length_nil, List.length_set, List.length_map, List.length_replicate, List.length_append, List.length_take, List.length_drop, Int.toNat_natCast, Int.toNat_of_nonneg, nx_push, nx_set, nx_kill]; done) | (simp only [List.length_cons, List.length_nil, List.length_set, List.length_map, List.length_replicate, List.length_append, List.length_take, List.length_drop, Int.toNat_natCast, Int.toNat_of_nonneg, nx_push, nx_set, nx_kill]; omega)) only [go_sem, reduceCtorEq, Nat.reduceAdd, Nat.reduceSub, Nat.reduceMul, Nat.reduceLT, Nat.reduceLeDiff, Nat.reduceEqDiff, Nat.reduceBEq, Nat.reduceBNe, Int.reduceBEq, Int.reduceEq, Int.reduceLT, Int.reduceLE, Int.reduceAdd, Int.reduceSub, ↓reduceIte, Int.reduceToNat, Nat.reduceShiftRight, Nat.reduceAnd, hbm, ixa_ok, ldc_cells, hog2, h1k]
              refine tail0 _ ?_
              clear tail0
              intro H4 g' gw' gh' vb hB hvb hn4 ⟨v1, v2, v3, v4⟩ hk4
              have hA5 : AtA H4 g gw gh (3 * n + 5) (chT n false) := hA3.frame (by rintro b (rfl | rfl | rfl) <;> exact hk4 _ (by omega))
              have hog5 : H4.get ob = some (.cells (((List.range n).map fun j => wordAt (3 * j)).map U) true) := by rw [hk4 _ (by omega), get_push_ne _ _ (by omega)]; exact hog2
              simp (disch := first | omega | (show allOne _ = true; simp [allOne, Value.oneCell']) | (simp only [List.length_cons, List.length_nil, List.length_set, List.length_map, List.length_replicate, List.length_append, List.length_take, List.length_drop, Int.toNat_natCast, Int.toNat_of_nonneg, nx_push, nx_set, nx_kill]; done) | (simp only [List.length_cons, List.length_nil, List.length_set, List.length_map, List.length_replicate, List.length_append, List.length_take, List.length_drop, Int.toNat_natCast, Int.toNat_of_nonneg, nx_push, nx_set, nx_kill]; omega)) only [go_sem, reduceCtorEq, Nat.reduceAdd, Nat.reduceSub, Nat.reduceMul, Nat.reduceLT, Nat.reduceLeDiff, Nat.reduceEqDiff, Nat.reduceBEq, Nat.reduceBNe, Int.reduceBEq, Int.reduceEq, Int.reduceLT, Int.reduceLE, Int.reduceAdd, Int.reduceSub, ↓reduceIte, Int.reduceToNat, Nat.reduceShiftRight, Nat.reduceAnd]
              refine arena_Used _ _ _ _ _ _ hB _ ?_
              rw [keptT_used]
              simp (disch := first | omega | (show allOne _ = true; simp [allOne, Value.oneCell']) | (simp only [List.length_cons, List.length_nil, List.length_set, List.length_map, List.length_replicate, List.length_append, List.length_take, List.length_drop, Int.toNat_natCast, Int.toNat_of_nonneg, nx_push, nx_set, nx_kill]; done) | (simp only [List.length_cons, List.length_nil, List.length_set, List.length_map, List.length_replicate, List.length_append, List.length_take, List.length_drop, Int.toNat_natCast, Int.toNat_of_nonneg, nx_push, nx_set, nx_kill]; omega)) only [go_sem, reduceCtorEq, Nat.reduceAdd, Nat.reduceSub, Nat.reduceMul, Nat.reduceLT, Nat.reduceLeDiff, Nat.reduceEqDiff, Nat.reduceBEq, Nat.reduceBNe, Int.reduceBEq, Int.reduceEq, Int.reduceLT, Int.reduceLE, Int.reduceAdd, Int.reduceSub, ↓reduceIte, Int.reduceToNat, Nat.reduceShiftRight, Nat.reduceAnd, ixa_ok, ldc_cells, hog5, h1k]
              have hA6 : AtA (H4.push (.cells [U (wordAt (3 * kk))] true)) g gw gh (3 * n + 5) (chT n false) := hA5.frame (by rintro b (rfl | rfl | rfl) <;> simp (disch := first | omega | (simp only [nx_push, nx_set, nx_kill]; done) | (simp only [nx_push, nx_set, nx_kill]; omega)) only [get_push_ne, get_push_eq, get_set_ne, get_set_eq, get_kill_ne, nx_push, nx_set, nx_kill])
              refine move_Reach _ _ _ _ _ _ hA6 ⟨by simp (disch := first | omega | (simp only [nx_push, nx_set, nx_kill]; done) | (simp only [nx_push, nx_set, nx_kill]; omega)) only [get_push_ne, get_push_eq, get_set_ne, get_set_eq, get_kill_ne, nx_push, nx_set, nx_kill]; omega, by simp (disch := first | omega | (simp only [nx_push, nx_set, nx_kill]; done) | (simp only [nx_push, nx_set, nx_kill]; omega)) only [get_push_ne, get_push_eq, get_set_ne, get_set_eq, get_kill_ne, nx_push, nx_set, nx_kill]; omega, by simp (disch := first | omega | (simp only [nx_push, nx_set, nx_kill]; done) | (simp only [nx_push, nx_set, nx_kill]; omega)) only [get_push_ne, get_push_eq, get_set_ne, get_set_eq, get_kill_ne, nx_push, nx_set, nx_kill]; omega⟩ _ [wordAt (3 * kk)] (RowAt.one (by simp (disch := first | omega | (simp only [nx_push, nx_set, nx_kill]; done) | (simp only [nx_push, nx_set, nx_kill]; omega)) only [get_push_ne, get_push_eq, get_set_ne, get_set_eq, get_kill_ne, nx_push, nx_set, nx_kill]; omega) (by simp (disch := first | omega | (simp only [nx_push, nx_set, nx_kill]; done) | (simp only [nx_push, nx_set, nx_kill]; omega)) only [get_push_ne, get_push_eq, get_set_ne, get_set_eq, get_kill_ne, nx_push, nx_set, nx_kill])) (by simpa using hm18) (by simp) _ ?_
              intro H6 hk6 hn6
              rw [nx_push] at hk6 hn6
              rw [hre]
              clear hA5 hA6 hA3
              have hvb6 : H6.get vb = some (.cells [U 1] true) := by rw [hk6 _ (by omega), get_push_ne _ _ (by omega)]; exact hvb
              simp (disch := first | omega | (show allOne _ = true; simp [allOne, Value.oneCell']) | (simp only [List.length_cons, List.length_nil, List.length_set, List.length_map, List.length_replicate, List.length_append, List.length_take, List.length_drop, Int.toNat_natCast, Int.toNat_of_nonneg, nx_push, nx_set, nx_kill]; done) | (simp only [List.length_cons, List.length_nil, List.length_set, List.length_map, List.length_replicate, List.length_append, List.length_take, List.length_drop, Int.toNat_natCast, Int.toNat_of_nonneg, nx_push, nx_set, nx_kill]; omega)) only [go_sem, reduceCtorEq, Nat.reduceAdd, Nat.reduceSub, Nat.reduceMul, Nat.reduceLT, Nat.reduceLeDiff, Nat.reduceEqDiff, Nat.reduceBEq, Nat.reduceBNe, Int.reduceBEq, Int.reduceEq, Int.reduceLT, Int.reduceLE, Int.reduceAdd, Int.reduceSub, ↓reduceIte, Int.reduceToNat, Nat.reduceShiftRight, Nat.reduceAnd, ixa_ok, ldc_cells, hvb6]
              have hB6 : AtA H6 g' gw' gh' (3 * n + 5) (keptT n kk false) := hB.frame (by rintro b (rfl | rfl | rfl) <;> (rw [hk6 _ (by omega), get_push_ne _ _ (by omega)]))
              clear hB
              refine Hwp.loop (fun m fr H' => ∃ i w, m = wantN n kk false - i ∧ i ≤ wantN n kk false ∧ H' = H6 ∧ (i < wantN n kk false → w = wordAt (3 * i)) ∧ (i = wantN n kk false → w = if false then 1 else 2) ∧
                 FLe (hfr 189 [(141, I i), (140, I (wantN n kk false)), (20, U w), (19, .slice (some ⟨vb, 0, some 2⟩) 1 1), (18, ptr g' 0), (16, I kk), (8, I n), (7, .bool true), (2, .bool false)]) fr) (wantN n kk false) ?_ ?_
              · exact ⟨0, 1, by omega, by omega, rfl, fun _ => rfl, by omega, fle_of (by simp [flook, hW]; try omega)⟩
              · rintro m fr H7 ⟨i, w, rfl, hi, rfl, hw1, hw2, hle⟩
                refine Hwp.weaken hle (HW.sound _ _ _ _ ?_)
                by_cases hc : i < wantN n kk false
                · have hwi := hw1 hc
                  subst hwi
                  simp (disch := first | omega | (show allOne _ = true; simp [allOne, Value.oneCell']) | (simp only [List.length_cons, List.length_nil, List.length_set, List.length_map, List.length_replicate, List.length_append, List.length_take, List.length_drop, Int.toNat_natCast, Int.toNat_of_nonneg, nx_push, nx_set, nx_kill]; done) | (simp only [List.length_cons, List.length_nil, List.length_set, List.length_map, List.length_replicate, List.length_append, List.length_take, List.length_drop, Int.toNat_natCast, Int.toNat_of_nonneg, nx_push, nx_set, nx_kill]; omega)) only [go_sem, reduceCtorEq, Nat.reduceAdd, Nat.reduceSub, Nat.reduceMul, Nat.reduceLT, Nat.reduceLeDiff, Nat.reduceEqDiff, Nat.reduceBEq, Nat.reduceBNe, Int.reduceBEq, Int.reduceEq, Int.reduceLT, Int.reduceLE, Int.reduceAdd, Int.reduceSub, ↓reduceIte, Int.reduceToNat, Nat.reduceShiftRight, Nat.reduceAnd]
                  refine arena_Get _ _ _ _ _ _ hB6 _ (by unfold wordAt; omega) 0 _ ?_
                  rw [show getV (keptT n kk false) (wordAt (3 * i)) 0 = .tuple #[U (rnd n kk i * 8), I 0] by unfold getV; rw [keptT_find hc]; rfl]
                  have hmod : ((kk : Int) + (i : Int)) % (n : Int) = (rnd n kk i : Int) := by
                    unfold rnd
                    split
                    · rw [Int.emod_eq_of_lt (by omega) (by omega)]; omega
                    · rw [show (kk : Int) + (i : Int) = ((kk + i - n : Nat) : Int) + (n : Int) by omega, Int.add_emod_right, Int.emod_eq_of_lt (by omega) (by omega)]
                  have hrl := rnd_lt hkl (show i < n by omega)
                  simp (disch := first | omega | (show allOne _ = true; simp [allOne, Value.oneCell']) | (simp only [List.length_cons, List.length_nil, List.length_set, List.length_map, List.length_replicate, List.length_append, List.length_take, List.length_drop, Int.toNat_natCast, Int.toNat_of_nonneg, nx_push, nx_set, nx_kill]; done) | (simp only [List.length_cons, List.length_nil, List.length_set, List.length_map, List.length_replicate, List.length_append, List.length_take, List.length_drop, Int.toNat_natCast, Int.toNat_of_nonneg, nx_push, nx_set, nx_kill]; omega)) only [go_sem, reduceCtorEq, Nat.reduceAdd, Nat.reduceSub, Nat.reduceMul, Nat.reduceLT, Nat.reduceLeDiff, Nat.reduceEqDiff, Nat.reduceBEq, Nat.reduceBNe, Int.reduceBEq, Int.reduceEq, Int.reduceLT, Int.reduceLE, Int.reduceAdd, Int.reduceSub, ↓reduceIte, Int.reduceToNat, Nat.reduceShiftRight, Nat.reduceAnd, hmod]
                  refine arena_Get _ _ _ _ _ _ hB6 _ (by unfold wordAt; omega) 1 _ ?_
                  rw [show getV (keptT n kk false) (wordAt (3 * i)) 1 = .tuple #[U (keptW n kk false i), I 0] by unfold getV; rw [keptT_find hc]; rfl]
                  simp (disch := first | omega | (show allOne _ = true; simp [allOne, Value.oneCell']) | (simp only [List.length_cons, List.length_nil, List.length_set, List.length_map, List.length_replicate, List.length_append, List.length_take, List.length_drop, Int.toNat_natCast, Int.toNat_of_nonneg, nx_push, nx_set, nx_kill]; done) | (simp only [List.length_cons, List.length_nil, List.length_set, List.length_map, List.length_replicate, List.length_append, List.length_take, List.length_drop, Int.toNat_natCast, Int.toNat_of_nonneg, nx_push, nx_set, nx_kill]; omega)) only [go_sem, reduceCtorEq, Nat.reduceAdd, Nat.reduceSub, Nat.reduceMul, Nat.reduceLT, Nat.reduceLeDiff, Nat.reduceEqDiff, Nat.reduceBEq, Nat.reduceBNe, Int.reduceBEq, Int.reduceEq, Int.reduceLT, Int.reduceLE, Int.reduceAdd, Int.reduceSub, ↓reduceIte, Int.reduceToNat, Nat.reduceShiftRight, Nat.reduceAnd]
                  refine ⟨_, ?_, i + 1, keptW n kk false i, rfl, by omega, fun h => by unfold keptW; rw [if_pos h], fun h => by unfold keptW; rw [if_neg (by omega)]; rfl, fle_of (by simp [flook])⟩
                  omega
                · have hwi := hw2 (by omega)
                  simp only [Bool.false_eq_true, if_true, if_false] at hwi
                  subst hwi
                  simp (disch := first | omega | (show allOne _ = true; simp [allOne, Value.oneCell']) | (simp only [List.length_cons, List.length_nil, List.length_set, List.length_map, List.length_replicate, List.length_append, List.length_take, List.length_drop, Int.toNat_natCast, Int.toNat_of_nonneg, nx_push, nx_set, nx_kill]; done) | (simp only [List.length_cons, List.length_nil, List.length_set, List.length_map, List.length_replicate, List.length_append, List.length_take, List.length_drop, Int.toNat_natCast, Int.toNat_of_nonneg, nx_push, nx_set, nx_kill]; omega)) only [go_sem, reduceCtorEq, Nat.reduceAdd, Nat.reduceSub, Nat.reduceMul, Nat.reduceLT, Nat.reduceLeDiff, Nat.reduceEqDiff, Nat.reduceBEq, Nat.reduceBNe, Int.reduceBEq, Int.reduceEq, Int.reduceLT, Int.reduceLE, Int.reduceAdd, Int.reduceSub, ↓reduceIte, Int.reduceToNat, Nat.reduceShiftRight, Nat.reduceAnd, ixa_ok, ldc_cells, hvb6]
                  exact hR _
end Go.HL
