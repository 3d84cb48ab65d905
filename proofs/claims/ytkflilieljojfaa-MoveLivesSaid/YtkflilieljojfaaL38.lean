/-
  Joined: D3.
-/
import Derived.Test.YtkflilieljojfaaL37
/-
  Walks: laws.
-/
namespace Go.HL
open Go.RowKit Go.Proofs
set_option maxHeartbeats 4000000
set_option maxRecDepth 100000
set_option linter.unusedSimpArgs false
set_option linter.unusedVariables false

theorem HeapArg.old {H H' : HHeap} {v : Value} {roots : List Nat} (h : HeapArg H v roots) (ok : H.Ok) (f : ∀ b, b < H.next → H'.get b = H.get b) : HeapArg H' v roots := by
  obtain ⟨⟨size, tv, rv, n, cells, h1, h2, h3, h4, h5⟩, h6⟩ := h
  exact ⟨⟨size, tv, rv, n, cells, h1, h2, h3.frame ok f, h4.frame ok f, fun i hi => by
    obtain ⟨k, lv, l, e1, e2, e3, e4⟩ := h5 i hi
    exact ⟨k, lv, l, e1, e2, e3.frame ok f, e4⟩⟩, h6⟩
theorem law_words (H : HHeap) (s s' : Value) (l m : List Nat) (hs : RowAt H s (l.map U)) (hs' : RowAt H s' (m.map U)) (hl : l.length ≤ 1000000) (R : Value → HHeap → Prop) (hR : R (.bool (decide (l = m))) H) : HCalls Try.prog 14 [s, s'] H R := by
  have hs1 := hs
  have hs2 := hs'
  obtain ⟨a, c, rfl, _⟩ := hs1
  obtain ⟨a', c', rfl, _⟩ := hs2
  refine HCalls.of_hw Try.func14 rfl _ Try.ntmps14 _ (by rw [Try.results14]) ?_
  rw [hframe0_eq _ _ (by simp)]
  simp only [List.zipIdx_cons, List.zipIdx_nil, List.map_cons, List.map_nil, Nat.reduceAdd]
  have e1 : ((l.map U).length : Int) = (l.length : Int) := by simp
  have e2 : ((m.map U).length : Int) = (m.length : Int) := by simp
  by_cases hlm : l.length = m.length
  · simp (disch := first | omega | (show allOne _ = true; simp [allOne, Value.oneCell']) | (simp only [List.length_cons, List.length_nil, List.length_set, List.length_map, List.length_replicate, List.length_append, List.length_take, List.length_drop, Int.toNat_natCast, Int.toNat_of_nonneg, nx_push, nx_set, nx_kill]; done) | (simp only [List.length_cons, List.length_nil, List.length_set, List.length_map, List.length_replicate, List.length_append, List.length_take, List.length_drop, Int.toNat_natCast, Int.toNat_of_nonneg, nx_push, nx_set, nx_kill]; omega)) only [go_sem, reduceCtorEq, Nat.reduceAdd, Nat.reduceSub, Nat.reduceMul, Nat.reduceLT, Nat.reduceLeDiff, Nat.reduceEqDiff, Nat.reduceBEq, Nat.reduceBNe, Int.reduceBEq, Int.reduceEq, Int.reduceLT, Int.reduceLE, Int.reduceAdd, Int.reduceSub, ↓reduceIte, Int.reduceToNat, Nat.reduceShiftRight, Nat.reduceAnd, e1, e2]
    refine Hwp.loop (fun n fr H' => ∃ i, n = l.length - i ∧ i ≤ l.length ∧ H' = H ∧ (∀ j, j < i → l[j]? = m[j]?) ∧
      FLe (hfr 26 [(13, I i), (12, I l.length), (0, .slice a (l.map U).length c), (1, .slice a' (m.map U).length c')]) fr) l.length ?_ ?_
    · exact ⟨0, by omega, by omega, rfl, fun j hj => by omega, fle_of (by simp [flook])⟩
    · rintro n fr H' ⟨i, rfl, hi, rfl, heq, hle⟩
      refine Hwp.weaken hle (HW.sound _ _ _ _ ?_)
      by_cases hc : i < l.length
      · obtain ⟨x, hx⟩ : ∃ x, l[i]? = some x := ⟨_, List.getElem?_eq_getElem hc⟩
        obtain ⟨y, hy⟩ : ∃ y, m[i]? = some y := ⟨_, List.getElem?_eq_getElem (by omega)⟩
        obtain ⟨b, o, k, c1, cs, rw1, q1, q2, q3⟩ := hs.get (i := i) (v := U x) (by rw [List.getElem?_map, hx]; rfl)
        obtain ⟨b', o', k', c1', cs', rw1', q1', q2', q3'⟩ := hs'.get (i := i) (v := U y) (by rw [List.getElem?_map, hy]; rfl)
        cases q1; cases q1'
        simp (disch := first | omega | (show allOne _ = true; simp [allOne, Value.oneCell']) | (simp only [List.length_cons, List.length_nil, List.length_set, List.length_map, List.length_replicate, List.length_append, List.length_take, List.length_drop, Int.toNat_natCast, Int.toNat_of_nonneg, nx_push, nx_set, nx_kill]; done) | (simp only [List.length_cons, List.length_nil, List.length_set, List.length_map, List.length_replicate, List.length_append, List.length_take, List.length_drop, Int.toNat_natCast, Int.toNat_of_nonneg, nx_push, nx_set, nx_kill]; omega)) only [go_sem, reduceCtorEq, Nat.reduceAdd, Nat.reduceSub, Nat.reduceMul, Nat.reduceLT, Nat.reduceLeDiff, Nat.reduceEqDiff, Nat.reduceBEq, Nat.reduceBNe, Int.reduceBEq, Int.reduceEq, Int.reduceLT, Int.reduceLE, Int.reduceAdd, Int.reduceSub, ↓reduceIte, Int.reduceToNat, Nat.reduceShiftRight, Nat.reduceAnd]
        refine Hwp.drawn mixed [0, 0, 3, 7, 0, 0, 48, 112, 255] (.op 0 (.op 1 (.op 2 (.op 3 (.op 4 (.op 5 (.op 6 (.op 7 (.op 8 .done))))))))) (by kernel_rfl) ?_
        by_cases hxy : x = y
        · subst hxy
          simp (disch := first | omega | (show allOne _ = true; simp [allOne, Value.oneCell']) | (simp only [List.length_cons, List.length_nil, List.length_set, List.length_map, List.length_replicate, List.length_append, List.length_take, List.length_drop, Int.toNat_natCast, Int.toNat_of_nonneg, nx_push, nx_set, nx_kill]; done) | (simp only [List.length_cons, List.length_nil, List.length_set, List.length_map, List.length_replicate, List.length_append, List.length_take, List.length_drop, Int.toNat_natCast, Int.toNat_of_nonneg, nx_push, nx_set, nx_kill]; omega)) only [go_sem, reduceCtorEq, Nat.reduceAdd, Nat.reduceSub, Nat.reduceMul, Nat.reduceLT, Nat.reduceLeDiff, Nat.reduceEqDiff, Nat.reduceBEq, Nat.reduceBNe, Int.reduceBEq, Int.reduceEq, Int.reduceLT, Int.reduceLE, Int.reduceAdd, Int.reduceSub, ↓reduceIte, Int.reduceToNat, Nat.reduceShiftRight, Nat.reduceAnd, ixa_ok, ldc_cells, q2, q3, q2', q3']
          refine ⟨_, ?_, i + 1, rfl, by omega, fun j hj => ?_, fle_of (by simp [flook])⟩
          · omega
          · rcases Nat.lt_or_ge j i with h | h
            · exact heq j h
            · rw [show j = i by omega, hx, hy]
        · simp (disch := first | omega | (show allOne _ = true; simp [allOne, Value.oneCell']) | (simp only [List.length_cons, List.length_nil, List.length_set, List.length_map, List.length_replicate, List.length_append, List.length_take, List.length_drop, Int.toNat_natCast, Int.toNat_of_nonneg, nx_push, nx_set, nx_kill]; done) | (simp only [List.length_cons, List.length_nil, List.length_set, List.length_map, List.length_replicate, List.length_append, List.length_take, List.length_drop, Int.toNat_natCast, Int.toNat_of_nonneg, nx_push, nx_set, nx_kill]; omega)) only [go_sem, reduceCtorEq, Nat.reduceAdd, Nat.reduceSub, Nat.reduceMul, Nat.reduceLT, Nat.reduceLeDiff, Nat.reduceEqDiff, Nat.reduceBEq, Nat.reduceBNe, Int.reduceBEq, Int.reduceEq, Int.reduceLT, Int.reduceLE, Int.reduceAdd, Int.reduceSub, ↓reduceIte, Int.reduceToNat, Nat.reduceShiftRight, Nat.reduceAnd, ixa_ok, ldc_cells, q2, q3, q2', q3']
          have : l ≠ m := fun e => by subst e; rw [hx] at hy; cases hy; exact hxy rfl
          rw [show decide (l = m) = false by simp [this]] at hR
          exact hR
      · simp (disch := first | omega | (show allOne _ = true; simp [allOne, Value.oneCell']) | (simp only [List.length_cons, List.length_nil, List.length_set, List.length_map, List.length_replicate, List.length_append, List.length_take, List.length_drop, Int.toNat_natCast, Int.toNat_of_nonneg, nx_push, nx_set, nx_kill]; done) | (simp only [List.length_cons, List.length_nil, List.length_set, List.length_map, List.length_replicate, List.length_append, List.length_take, List.length_drop, Int.toNat_natCast, Int.toNat_of_nonneg, nx_push, nx_set, nx_kill]; omega)) only [go_sem, reduceCtorEq, Nat.reduceAdd, Nat.reduceSub, Nat.reduceMul, Nat.reduceLT, Nat.reduceLeDiff, Nat.reduceEqDiff, Nat.reduceBEq, Nat.reduceBNe, Int.reduceBEq, Int.reduceEq, Int.reduceLT, Int.reduceLE, Int.reduceAdd, Int.reduceSub, ↓reduceIte, Int.reduceToNat, Nat.reduceShiftRight, Nat.reduceAnd]
        have : l = m := by
          apply List.ext_getElem?
          intro j
          rcases Nat.lt_or_ge j i with h | h
          · exact heq j h
          · rw [List.getElem?_eq_none_iff.2 (by omega), List.getElem?_eq_none_iff.2 (by omega)]
        rw [show decide (l = m) = true by simp [this]] at hR
        exact hR
  · simp (disch := first | omega | (show allOne _ = true; simp [allOne, Value.oneCell']) | (simp only [List.length_cons, List.length_nil, List.length_set, List.length_map, List.length_replicate, List.length_append, List.length_take, List.length_drop, Int.toNat_natCast, Int.toNat_of_nonneg, nx_push, nx_set, nx_kill]; done) | (simp only [List.length_cons, List.length_nil, List.length_set, List.length_map, List.length_replicate, List.length_append, List.length_take, List.length_drop, Int.toNat_natCast, Int.toNat_of_nonneg, nx_push, nx_set, nx_kill]; omega)) only [go_sem, reduceCtorEq, Nat.reduceAdd, Nat.reduceSub, Nat.reduceMul, Nat.reduceLT, Nat.reduceLeDiff, Nat.reduceEqDiff, Nat.reduceBEq, Nat.reduceBNe, Int.reduceBEq, Int.reduceEq, Int.reduceLT, Int.reduceLE, Int.reduceAdd, Int.reduceSub, ↓reduceIte, Int.reduceToNat, Nat.reduceShiftRight, Nat.reduceAnd, e1, e2]
    have : l ≠ m := fun e => hlm (by rw [e])
    rw [show decide (l = m) = false by simp [this]] at hR
    exact hR

theorem law_MoveMore (H : HHeap) (v : Value) (roots0 : List Nat) (hv : HeapArg H v roots0) (at_ : Nat) (hat : at_ < 256) (R : Value → HHeap → Prop) (hR : ∀ H', R (.bool true) H') : HCalls Try.prog 8 [v, .int .u8 at_] H R := by
  refine HCalls.ok fun hok => ?_
  have hv1 := hv
  obtain ⟨⟨size, tv0, rv0, kk, cells, rfl, _, ⟨_, _, ta, tc, rfl, _⟩, ⟨_, _, ra, rc, rfl, _⟩, _⟩, _⟩ := hv1
  refine HCalls.of_hw Try.func8 rfl _ Try.ntmps8 _ (by rw [Try.results8]) ?_
  rw [hframe0_eq _ _ (by simp)]
  simp only [List.zipIdx_cons, List.zipIdx_nil, List.map_cons, List.map_nil, Nat.reduceAdd]
  simp (disch := first | omega | (show allOne _ = true; simp [allOne, Value.oneCell']) | (simp only [List.length_cons, List.length_nil, List.length_set, List.length_map, List.length_replicate, List.length_append, List.length_take, List.length_drop, Int.toNat_natCast, Int.toNat_of_nonneg, nx_push, nx_set, nx_kill]; done) | (simp only [List.length_cons, List.length_nil, List.length_set, List.length_map, List.length_replicate, List.length_append, List.length_take, List.length_drop, Int.toNat_natCast, Int.toNat_of_nonneg, nx_push, nx_set, nx_kill]; omega)) only [go_sem, reduceCtorEq, Nat.reduceAdd, Nat.reduceSub, Nat.reduceMul, Nat.reduceLT, Nat.reduceLeDiff, Nat.reduceEqDiff, Nat.reduceBEq, Nat.reduceBNe, Int.reduceBEq, Int.reduceEq, Int.reduceLT, Int.reduceLE, Int.reduceAdd, Int.reduceSub, ↓reduceIte, Int.reduceToNat, Nat.reduceShiftRight, Nat.reduceAnd, hbox_agg]
  
  refine law_shown _ _ ?_
  intro H0 hk0 hn0
  rw [nx_push] at hk0 hn0
  have hb0 : H0.get H.next = some (.cells [I size, .slice ta kk tc, .slice ra roots0.length rc] true) := by rw [hk0 _ (by omega)]; simp (disch := first | omega | (simp only [nx_push, nx_set, nx_kill]; done) | (simp only [nx_push, nx_set, nx_kill]; omega)) only [get_push_ne, get_push_eq, get_set_ne, get_set_eq, get_kill_ne, nx_push, nx_set, nx_kill]
  have hv0 : HeapArg H0 (.agg #[I size, .slice ta kk tc, .slice ra roots0.length rc]) roots0 := hv.old hok (fun b hb => by rw [hk0 b (by omega)]; simp (disch := first | omega | (simp only [nx_push, nx_set, nx_kill]; done) | (simp only [nx_push, nx_set, nx_kill]; omega)) only [get_push_ne, get_push_eq, get_set_ne, get_set_eq, get_kill_ne, nx_push, nx_set, nx_kill])
  have h3 : ∀ x y z : Value, ([x, y, z].drop 0).take 3 = [x, y, z] := fun _ _ _ => rfl
  simp (disch := first | omega | (show allOne _ = true; simp [allOne, Value.oneCell']) | (simp only [List.length_cons, List.length_nil, List.length_set, List.length_map, List.length_replicate, List.length_append, List.length_take, List.length_drop, Int.toNat_natCast, Int.toNat_of_nonneg, nx_push, nx_set, nx_kill]; done) | (simp only [List.length_cons, List.length_nil, List.length_set, List.length_map, List.length_replicate, List.length_append, List.length_take, List.length_drop, Int.toNat_natCast, Int.toNat_of_nonneg, nx_push, nx_set, nx_kill]; omega)) only [go_sem, reduceCtorEq, Nat.reduceAdd, Nat.reduceSub, Nat.reduceMul, Nat.reduceLT, Nat.reduceLeDiff, Nat.reduceEqDiff, Nat.reduceBEq, Nat.reduceBNe, Int.reduceBEq, Int.reduceEq, Int.reduceLT, Int.reduceLE, Int.reduceAdd, Int.reduceSub, ↓reduceIte, Int.reduceToNat, Nat.reduceShiftRight, Nat.reduceAnd, hb0, lda_cells, h3]
  refine law_build _ _ roots0 hv0 _ ?_
  intro H1 n g gw gh gr T tv lvs rv n1 n2 hA hRf hrv hk1 hn1 hg hsep
  simp (disch := first | omega | (show allOne _ = true; simp [allOne, Value.oneCell']) | (simp only [List.length_cons, List.length_nil, List.length_set, List.length_map, List.length_replicate, List.length_append, List.length_take, List.length_drop, Int.toNat_natCast, Int.toNat_of_nonneg, nx_push, nx_set, nx_kill]; done) | (simp only [List.length_cons, List.length_nil, List.length_set, List.length_map, List.length_replicate, List.length_append, List.length_take, List.length_drop, Int.toNat_natCast, Int.toNat_of_nonneg, nx_push, nx_set, nx_kill]; omega)) only [go_sem, reduceCtorEq, Nat.reduceAdd, Nat.reduceSub, Nat.reduceMul, Nat.reduceLT, Nat.reduceLeDiff, Nat.reduceEqDiff, Nat.reduceBEq, Nat.reduceBNe, Int.reduceBEq, Int.reduceEq, Int.reduceLT, Int.reduceLE, Int.reduceAdd, Int.reduceSub, ↓reduceIte, Int.reduceToNat, Nat.reduceShiftRight, Nat.reduceAnd]
  generalize hrs : roots0.take 20 = roots at hrv
  have hrt : ∀ x ∈ roots, x < 18446744073709551616 := fun x hx => hv.lt x (by rw [← hrs] at hx; exact List.mem_of_mem_take hx)
  have hr20 : roots.length ≤ 20 := by rw [← hrs]; simp; omega
  obtain ⟨r, hr⟩ : ∃ r, r = (roots.map U).length := ⟨_, rfl⟩
  have hrr : r = roots.length := by rw [hr]; simp
  obtain ⟨a, c, hrv1, _⟩ := id hrv
  rw [← hr] at hrv1
  subst hrv1
  obtain ⟨k, hk⟩ : ∃ k : Nat, (at_ : Int) % ((r : Int) + 1) = (k : Int) := ⟨((at_ : Int) % ((r : Int) + 1)).toNat, by rw [Int.toNat_of_nonneg (Int.emod_nonneg _ (by omega))]⟩
  have hkr : k ≤ r := by have := Int.emod_lt_of_pos (at_ : Int) (show (0 : Int) < (r : Int) + 1 by omega); omega
  have hkr' : k ≤ (roots.map U).length := by omega
  obtain ⟨s1, q1, q1r, _⟩ := hrv.hi Try.underlying23 sz42 (k := .i64) (m := k) hkr'
  obtain ⟨s2, q2, q2r, _⟩ := hrv.lo Try.underlying23 sz42 (k := .i64) (m := k) hkr'
  rw [← List.map_take] at q1r
  rw [← List.map_drop] at q2r
  obtain ⟨a1, c1, hs1, _⟩ := id q1r
  obtain ⟨a2, c2, hs2, _⟩ := id q2r
  simp (disch := first | omega | (show allOne _ = true; simp [allOne, Value.oneCell']) | (simp only [List.length_cons, List.length_nil, List.length_set, List.length_map, List.length_replicate, List.length_append, List.length_take, List.length_drop, Int.toNat_natCast, Int.toNat_of_nonneg, nx_push, nx_set, nx_kill]; done) | (simp only [List.length_cons, List.length_nil, List.length_set, List.length_map, List.length_replicate, List.length_append, List.length_take, List.length_drop, Int.toNat_natCast, Int.toNat_of_nonneg, nx_push, nx_set, nx_kill]; omega)) only [go_sem, reduceCtorEq, Nat.reduceAdd, Nat.reduceSub, Nat.reduceMul, Nat.reduceLT, Nat.reduceLeDiff, Nat.reduceEqDiff, Nat.reduceBEq, Nat.reduceBNe, Int.reduceBEq, Int.reduceEq, Int.reduceLT, Int.reduceLE, Int.reduceAdd, Int.reduceSub, ↓reduceIte, Int.reduceToNat, Nat.reduceShiftRight, Nat.reduceAnd, hk]
  refine Hwp.ok fun hok1 => ?_
  obtain ⟨lg1, lg2, lg3⟩ := hA.lt hok1
  refine Hwp.drawn mixed [0, 0, 0, 6, 15, 0, 0, 0, 192, 511, 0, 0, 4095, 8191, 16383, 32767] (.op 0 (.op 1 (.op 2 (.op 3 (.op 5 (.op 6 (.op 7 (.op 8 (.op 10 (.op 11 (.eff 4 (.eff 9 (.eff 12 (.op 13 (.op 14 (.op 15 .done))) .stop) .stop) .stop))))))))))) (by kernel_rfl) ?_
  simp (disch := first | omega | (show allOne _ = true; simp [allOne, Value.oneCell']) | (simp only [List.length_cons, List.length_nil, List.length_set, List.length_map, List.length_replicate, List.length_append, List.length_take, List.length_drop, Int.toNat_natCast, Int.toNat_of_nonneg, nx_push, nx_set, nx_kill]; done) | (simp only [List.length_cons, List.length_nil, List.length_set, List.length_map, List.length_replicate, List.length_append, List.length_take, List.length_drop, Int.toNat_natCast, Int.toNat_of_nonneg, nx_push, nx_set, nx_kill]; omega)) only [go_sem, reduceCtorEq, Nat.reduceAdd, Nat.reduceSub, Nat.reduceMul, Nat.reduceLT, Nat.reduceLeDiff, Nat.reduceEqDiff, Nat.reduceBEq, Nat.reduceBNe, Int.reduceBEq, Int.reduceEq, Int.reduceLT, Int.reduceLE, Int.reduceAdd, Int.reduceSub, ↓reduceIte, Int.reduceToNat, Nat.reduceShiftRight, Nat.reduceAnd, q1, q2]
  have hru := hA.room
  have hbig : usedOf T ≤ 65536 := by omega
  have hcl := bfs_closed T roots
  have hrF : ∀ w ∈ roots, ∀ i, findI T w = some i → i ∈ bfs T roots := fun w hw i hi => bfs_root hw hi
  have m1 : sumR T (bfs T (roots.take k)) ≤ sumR T (bfs T roots) := sumR_mono _ _ (bfs_nodup _ _) (bfs_mono fun w hw => List.mem_of_mem_take hw)
  have m2 : sumR T (bfs T (roots.drop k)) ≤ sumR T (bfs T roots) := sumR_mono _ _ (bfs_nodup _ _) (bfs_mono fun w hw => List.mem_of_mem_drop hw)
  have m3 : sumR T (bfs T roots) ≤ sumR T (bfs T (roots.take k)) + sumR T (bfs T (roots.drop k)) := by
    have := sumR_union (T := T) (a := roots.take k) (b := roots.drop k)
    rwa [List.take_append_drop] at this
  have m4 : sumR T (bfs T roots) ≤ usedOf T := sumR_le T _ (bfs_nodup _ _) hcl.lt
  have m5 : sumR (outT T (bfs T roots)) (bfs (outT T (bfs T roots)) ((roots.take k).map (tr T (bfs T roots)))) = sumR T (bfs T (roots.take k)) := by
    rw [tr_bfs hcl hbig (fun w hw i hi => hrF w (List.mem_of_mem_take hw) i hi), tr_sumR _ (bfs_mono fun w hw => List.mem_of_mem_take hw)]
  have m6 : sumR (outT T (bfs T roots)) (bfs (outT T (bfs T roots)) ((roots.drop k).map (tr T (bfs T roots)))) = sumR T (bfs T (roots.drop k)) := by
    rw [tr_bfs hcl hbig (fun w hw i hi => hrF w (List.mem_of_mem_drop hw) i hi), tr_sumR _ (bfs_mono fun w hw => List.mem_of_mem_drop hw)]
  generalize hx : sumR T (bfs T (roots.take k)) = x at m1 m3 m5
  generalize hy : sumR T (bfs T (roots.drop k)) = y at m2 m3 m6
  generalize hz : sumR T (bfs T roots) = z at m1 m2 m3 m4
  refine move_Reach _ _ _ _ _ _ hA ⟨lg1, lg2, lg3⟩ _ _ (q1r.row hok1) (fun w hw => hrt w (List.mem_of_mem_take hw)) (by simp; omega) _ ?_
  intro H2 hk2 hn2
  rw [hx]
  have hA2 : AtA H2 g gw gh n T := hA.frame (by rintro b (rfl | rfl | rfl) <;> exact hk2 _ (by omega))
  simp (disch := first | omega | (show allOne _ = true; simp [allOne, Value.oneCell']) | (simp only [List.length_cons, List.length_nil, List.length_set, List.length_map, List.length_replicate, List.length_append, List.length_take, List.length_drop, Int.toNat_natCast, Int.toNat_of_nonneg, nx_push, nx_set, nx_kill]; done) | (simp only [List.length_cons, List.length_nil, List.length_set, List.length_map, List.length_replicate, List.length_append, List.length_take, List.length_drop, Int.toNat_natCast, Int.toNat_of_nonneg, nx_push, nx_set, nx_kill]; omega)) only [go_sem, reduceCtorEq, Nat.reduceAdd, Nat.reduceSub, Nat.reduceMul, Nat.reduceLT, Nat.reduceLeDiff, Nat.reduceEqDiff, Nat.reduceBEq, Nat.reduceBNe, Int.reduceBEq, Int.reduceEq, Int.reduceLT, Int.reduceLE, Int.reduceAdd, Int.reduceSub, ↓reduceIte, Int.reduceToNat, Nat.reduceShiftRight, Nat.reduceAnd]
  refine HCalls.ok fun hok2 => ?_
  refine move_Reach _ _ _ _ _ _ hA2 (hA2.lt hok2) _ _ ((q2r.old hok1 hk2).row hok2) (fun w hw => hrt w (List.mem_of_mem_drop hw)) (by simp; omega) _ ?_
  intro H3 hk3 hn3
  rw [hy]
  have hk3' : ∀ b, b < H1.next → H3.get b = H1.get b := fun b hb => by rw [hk3 b (by omega), hk2 b hb]
  have hA3 : AtA H3 g gw gh n T := hA.frame (by rintro b (rfl | rfl | rfl) <;> exact hk3' _ (by omega))
  simp (disch := first | omega | (show allOne _ = true; simp [allOne, Value.oneCell']) | (simp only [List.length_cons, List.length_nil, List.length_set, List.length_map, List.length_replicate, List.length_append, List.length_take, List.length_drop, Int.toNat_natCast, Int.toNat_of_nonneg, nx_push, nx_set, nx_kill]; done) | (simp only [List.length_cons, List.length_nil, List.length_set, List.length_map, List.length_replicate, List.length_append, List.length_take, List.length_drop, Int.toNat_natCast, Int.toNat_of_nonneg, nx_push, nx_set, nx_kill]; omega)) only [go_sem, reduceCtorEq, Nat.reduceAdd, Nat.reduceSub, Nat.reduceMul, Nat.reduceLT, Nat.reduceLeDiff, Nat.reduceEqDiff, Nat.reduceBEq, Nat.reduceBNe, Int.reduceBEq, Int.reduceEq, Int.reduceLT, Int.reduceLE, Int.reduceAdd, Int.reduceSub, ↓reduceIte, Int.reduceToNat, Nat.reduceShiftRight, Nat.reduceAnd]
  refine HCalls.ok fun hok3 => ?_
  refine move_Reach _ _ _ _ _ _ hA3 (hA3.lt hok3) _ _ ((hrv.old hok1 hk3').row hok3) hrt (by omega) _ ?_
  intro H4 hk4 hn4
  rw [hz]
  have hk4' : ∀ b, b < H1.next → H4.get b = H1.get b := fun b hb => by rw [hk4 b (by omega), hk3' b hb]
  have hA4 : AtA H4 g gw gh n T := hA.frame (by rintro b (rfl | rfl | rfl) <;> exact hk4' _ (by omega))
  simp (disch := first | omega | (show allOne _ = true; simp [allOne, Value.oneCell']) | (simp only [List.length_cons, List.length_nil, List.length_set, List.length_map, List.length_replicate, List.length_append, List.length_take, List.length_drop, Int.toNat_natCast, Int.toNat_of_nonneg, nx_push, nx_set, nx_kill]; done) | (simp only [List.length_cons, List.length_nil, List.length_set, List.length_map, List.length_replicate, List.length_append, List.length_take, List.length_drop, Int.toNat_natCast, Int.toNat_of_nonneg, nx_push, nx_set, nx_kill]; omega)) only [go_sem, reduceCtorEq, Nat.reduceAdd, Nat.reduceSub, Nat.reduceMul, Nat.reduceLT, Nat.reduceLeDiff, Nat.reduceEqDiff, Nat.reduceBEq, Nat.reduceBNe, Int.reduceBEq, Int.reduceEq, Int.reduceLT, Int.reduceLE, Int.reduceAdd, Int.reduceSub, ↓reduceIte, Int.reduceToNat, Nat.reduceShiftRight, Nat.reduceAnd]
  refine HCalls.ok fun hok4 => ?_
  refine move_Live _ _ _ _ _ _ hA4 (hA4.lt hok4) _ _ ((hrv.old hok1 hk4').row hok4) hrt (by omega) _ ?_
  intro H5 g' gw' gh' v5 hB hV hk5 hn5 hnew hlt5 hvb
  simp (disch := first | omega | (show allOne _ = true; simp [allOne, Value.oneCell']) | (simp only [List.length_cons, List.length_nil, List.length_set, List.length_map, List.length_replicate, List.length_append, List.length_take, List.length_drop, Int.toNat_natCast, Int.toNat_of_nonneg, nx_push, nx_set, nx_kill]; done) | (simp only [List.length_cons, List.length_nil, List.length_set, List.length_map, List.length_replicate, List.length_append, List.length_take, List.length_drop, Int.toNat_natCast, Int.toNat_of_nonneg, nx_push, nx_set, nx_kill]; omega)) only [go_sem, reduceCtorEq, Nat.reduceAdd, Nat.reduceSub, Nat.reduceMul, Nat.reduceLT, Nat.reduceLeDiff, Nat.reduceEqDiff, Nat.reduceBEq, Nat.reduceBNe, Int.reduceBEq, Int.reduceEq, Int.reduceLT, Int.reduceLE, Int.reduceAdd, Int.reduceSub, ↓reduceIte, Int.reduceToNat, Nat.reduceShiftRight, Nat.reduceAnd]
  have hk5' : ∀ b, b < H1.next → H5.get b = H1.get b := fun b hb => by rw [hk5 b (by omega), hk4' b hb]
  have hA5 : AtA H5 g gw gh n T := hA.frame (by rintro b (rfl | rfl | rfl) <;> exact hk5' _ (by omega))
  have hbu := outT_used T (bfs T roots)
  rw [hz] at hbu
  generalize outT T (bfs T roots) = T' at hB m5 m6 hbu
  generalize htl : roots.map (tr T (bfs T roots)) = l' at hV
  have htk : (roots.take k).map (tr T (bfs T roots)) = l'.take k := by rw [← htl, List.map_take]
  have htd : (roots.drop k).map (tr T (bfs T roots)) = l'.drop k := by rw [← htl, List.map_drop]
  have hl' : l'.length = r := by rw [← htl]; simp [hrr]
  have hlt' : ∀ w ∈ l', w < 18446744073709551616 := by
    intro w hw
    rw [← htl] at hw
    obtain ⟨u, hu, rfl⟩ := List.mem_map.1 hw
    exact tr_lt (bfs_nodup _ _) hcl.lt hbig (hrt u hu) (hrF u hu)
  rw [htk] at m5
  rw [htd] at m6
  have hvs : RowS H5 v5 (l'.map U) := by
    rcases hV with ⟨h1, h2⟩ | ⟨b, h1, h2, h3, h4⟩
    · subst h1; subst h2; exact RowS.of_gr (GrAt.nil _ _)
    · exact RowS.of_gr (n := l'.length) ⟨by simp, .inr ⟨b, fun e => h1 (List.eq_nil_of_length_eq_zero e), h2, h4⟩⟩
  obtain ⟨a5, c5, hv5, _⟩ := id hvs
  rw [List.length_map, hl'] at hv5
  subst hv5
  have hkl' : k ≤ (l'.map U).length := by simp; omega
  obtain ⟨s3, q3, q3r, _⟩ := hvs.hi Try.underlying23 sz42 (k := .i64) (m := k) hkl'
  obtain ⟨s4, q4, q4r, _⟩ := hvs.lo Try.underlying23 sz42 (k := .i64) (m := k) hkl'
  rw [← List.map_take] at q3r
  rw [← List.map_drop] at q4r
  simp (disch := first | omega | (show allOne _ = true; simp [allOne, Value.oneCell']) | (simp only [List.length_cons, List.length_nil, List.length_set, List.length_map, List.length_replicate, List.length_append, List.length_take, List.length_drop, Int.toNat_natCast, Int.toNat_of_nonneg, nx_push, nx_set, nx_kill]; done) | (simp only [List.length_cons, List.length_nil, List.length_set, List.length_map, List.length_replicate, List.length_append, List.length_take, List.length_drop, Int.toNat_natCast, Int.toNat_of_nonneg, nx_push, nx_set, nx_kill]; omega)) only [go_sem, reduceCtorEq, Nat.reduceAdd, Nat.reduceSub, Nat.reduceMul, Nat.reduceLT, Nat.reduceLeDiff, Nat.reduceEqDiff, Nat.reduceBEq, Nat.reduceBNe, Int.reduceBEq, Int.reduceEq, Int.reduceLT, Int.reduceLE, Int.reduceAdd, Int.reduceSub, ↓reduceIte, Int.reduceToNat, Nat.reduceShiftRight, Nat.reduceAnd]
  obtain ⟨mx, hmx, hmax⟩ : ∃ mx : Nat, mx = max x y ∧ hmax2 (.int .i64 (x : Int)) (.int .i64 (y : Int)) = some (.int .i64 (mx : Int)) := ⟨_, rfl, by unfold hmax2; simp only; split <;> (congr 2; omega)⟩
  simp (disch := first | omega | (show allOne _ = true; simp [allOne, Value.oneCell']) | (simp only [List.length_cons, List.length_nil, List.length_set, List.length_map, List.length_replicate, List.length_append, List.length_take, List.length_drop, Int.toNat_natCast, Int.toNat_of_nonneg, nx_push, nx_set, nx_kill]; done) | (simp only [List.length_cons, List.length_nil, List.length_set, List.length_map, List.length_replicate, List.length_append, List.length_take, List.length_drop, Int.toNat_natCast, Int.toNat_of_nonneg, nx_push, nx_set, nx_kill]; omega)) only [go_sem, reduceCtorEq, Nat.reduceAdd, Nat.reduceSub, Nat.reduceMul, Nat.reduceLT, Nat.reduceLeDiff, Nat.reduceEqDiff, Nat.reduceBEq, Nat.reduceBNe, Int.reduceBEq, Int.reduceEq, Int.reduceLT, Int.reduceLE, Int.reduceAdd, Int.reduceSub, ↓reduceIte, Int.reduceToNat, Nat.reduceShiftRight, Nat.reduceAnd, hmax]
  refine arena_Used _ _ _ _ _ _ hA5 _ ?_
  simp (disch := first | omega | (show allOne _ = true; simp [allOne, Value.oneCell']) | (simp only [List.length_cons, List.length_nil, List.length_set, List.length_map, List.length_replicate, List.length_append, List.length_take, List.length_drop, Int.toNat_natCast, Int.toNat_of_nonneg, nx_push, nx_set, nx_kill]; done) | (simp only [List.length_cons, List.length_nil, List.length_set, List.length_map, List.length_replicate, List.length_append, List.length_take, List.length_drop, Int.toNat_natCast, Int.toNat_of_nonneg, nx_push, nx_set, nx_kill]; omega)) only [go_sem, reduceCtorEq, Nat.reduceAdd, Nat.reduceSub, Nat.reduceMul, Nat.reduceLT, Nat.reduceLeDiff, Nat.reduceEqDiff, Nat.reduceBEq, Nat.reduceBNe, Int.reduceBEq, Int.reduceEq, Int.reduceLT, Int.reduceLE, Int.reduceAdd, Int.reduceSub, ↓reduceIte, Int.reduceToNat, Nat.reduceShiftRight, Nat.reduceAnd]
  refine arena_Used _ _ _ _ _ _ hB _ ?_
  simp (disch := first | omega | (show allOne _ = true; simp [allOne, Value.oneCell']) | (simp only [List.length_cons, List.length_nil, List.length_set, List.length_map, List.length_replicate, List.length_append, List.length_take, List.length_drop, Int.toNat_natCast, Int.toNat_of_nonneg, nx_push, nx_set, nx_kill]; done) | (simp only [List.length_cons, List.length_nil, List.length_set, List.length_map, List.length_replicate, List.length_append, List.length_take, List.length_drop, Int.toNat_natCast, Int.toNat_of_nonneg, nx_push, nx_set, nx_kill]; omega)) only [go_sem, reduceCtorEq, Nat.reduceAdd, Nat.reduceSub, Nat.reduceMul, Nat.reduceLT, Nat.reduceLeDiff, Nat.reduceEqDiff, Nat.reduceBEq, Nat.reduceBNe, Int.reduceBEq, Int.reduceEq, Int.reduceLT, Int.reduceLE, Int.reduceAdd, Int.reduceSub, ↓reduceIte, Int.reduceToNat, Nat.reduceShiftRight, Nat.reduceAnd, hbu, q3]
  refine HCalls.ok fun hok5 => ?_
  refine move_Reach _ _ _ _ _ _ hB hlt5 _ _ (q3r.row hok5) (fun w hw => hlt' w (List.mem_of_mem_take hw)) (by simp; omega) _ ?_
  intro H6 hk6 hn6
  rw [m5]
  simp (disch := first | omega | (show allOne _ = true; simp [allOne, Value.oneCell']) | (simp only [List.length_cons, List.length_nil, List.length_set, List.length_map, List.length_replicate, List.length_append, List.length_take, List.length_drop, Int.toNat_natCast, Int.toNat_of_nonneg, nx_push, nx_set, nx_kill]; done) | (simp only [List.length_cons, List.length_nil, List.length_set, List.length_map, List.length_replicate, List.length_append, List.length_take, List.length_drop, Int.toNat_natCast, Int.toNat_of_nonneg, nx_push, nx_set, nx_kill]; omega)) only [go_sem, reduceCtorEq, Nat.reduceAdd, Nat.reduceSub, Nat.reduceMul, Nat.reduceLT, Nat.reduceLeDiff, Nat.reduceEqDiff, Nat.reduceBEq, Nat.reduceBNe, Int.reduceBEq, Int.reduceEq, Int.reduceLT, Int.reduceLE, Int.reduceAdd, Int.reduceSub, ↓reduceIte, Int.reduceToNat, Nat.reduceShiftRight, Nat.reduceAnd, q4]
  refine HCalls.ok fun hok6 => ?_
  have hB6 : AtA H6 g' gw' gh' n T' := hB.frame (by rintro b (rfl | rfl | rfl) <;> exact hk6 _ (by omega))
  refine move_Reach _ _ _ _ _ _ hB6 (hB6.lt hok6) _ _ ((q4r.old hok5 hk6).row hok6) (fun w hw => hlt' w (List.mem_of_mem_drop hw)) (by simp; omega) _ ?_
  intro H7 hk7 hn7
  rw [m6]
  simp (disch := first | omega | (show allOne _ = true; simp [allOne, Value.oneCell']) | (simp only [List.length_cons, List.length_nil, List.length_set, List.length_map, List.length_replicate, List.length_append, List.length_take, List.length_drop, Int.toNat_natCast, Int.toNat_of_nonneg, nx_push, nx_set, nx_kill]; done) | (simp only [List.length_cons, List.length_nil, List.length_set, List.length_map, List.length_replicate, List.length_append, List.length_take, List.length_drop, Int.toNat_natCast, Int.toNat_of_nonneg, nx_push, nx_set, nx_kill]; omega)) only [go_sem, reduceCtorEq, Nat.reduceAdd, Nat.reduceSub, Nat.reduceMul, Nat.reduceLT, Nat.reduceLeDiff, Nat.reduceEqDiff, Nat.reduceBEq, Nat.reduceBNe, Int.reduceBEq, Int.reduceEq, Int.reduceLT, Int.reduceLE, Int.reduceAdd, Int.reduceSub, ↓reduceIte, Int.reduceToNat, Nat.reduceShiftRight, Nat.reduceAnd]
  exact hR _
end Go.HL
