/-
  Joined: D11.
-/
import Derived.Test.YtkflilieljojfaaL47
/-
  Walks: the law of what is kept, and the document's answer.
-/
namespace Go.HL
open Go.RowKit Go.Proofs
set_option maxHeartbeats 4000000
set_option maxRecDepth 100000
set_option linter.unusedSimpArgs false
set_option linter.unusedVariables false

theorem law_MoveLives (H : HHeap) (v : Value) (roots0 : List Nat) (hv : HeapArg H v roots0) (R : Value → HHeap → Prop) (hR : ∀ H', R (.bool true) H') : HCalls Try.prog 3 [v] H R := by
  refine HCalls.ok fun hok => ?_
  have hv1 := hv
  obtain ⟨⟨size, tv0, rv0, kk, cells, rfl, _, ⟨_, _, ta, tc, rfl, _⟩, ⟨_, _, ra, rc, rfl, _⟩, _⟩, _⟩ := hv1
  refine HCalls.of_hw Try.func3 rfl _ Try.ntmps3 _ (by rw [Try.results3]) ?_
  rw [hframe0_eq _ _ (by simp)]
  simp only [List.zipIdx_cons, List.zipIdx_nil, List.map_cons, List.map_nil, Nat.reduceAdd]
  simp (disch := first | omega | (show allOne _ = true; simp [allOne, Value.oneCell']) | (simp only [List.length_cons, List.length_nil, List.length_set, List.length_map, List.length_replicate, List.length_append, List.length_take, List.length_drop, Int.toNat_natCast, Int.toNat_of_nonneg, nx_push, nx_set, nx_kill]; done) | (simp only [List.length_cons, List.length_nil, List.length_set, List.length_map, List.length_replicate, List.length_append, List.length_take, List.length_drop, Int.toNat_natCast, Int.toNat_of_nonneg, nx_push, nx_set, nx_kill]; omega)) only [go_sem, reduceCtorEq, Nat.reduceAdd, Nat.reduceSub, Nat.reduceMul, Nat.reduceLT, Nat.reduceLeDiff, Nat.reduceEqDiff, Nat.reduceBEq, Nat.reduceBNe, Int.reduceBEq, Int.reduceEq, Int.reduceLT, Int.reduceLE, Int.reduceAdd, Int.reduceSub, ↓reduceIte, Int.reduceToNat, Nat.reduceShiftRight, Nat.reduceAnd, hbox_agg]
  refine law_shown _ _ ?_
  intro H0 hk0 hn0
  rw [nx_push] at hk0 hn0
  have hb0 : H0.get H.next = some (.cells [I size, .slice ta kk tc, .slice ra roots0.length rc] true) := by rw [hk0 _ (by omega)]; simp (disch := first | omega | (simp only [nx_push, nx_set, nx_kill]; done) | (simp only [nx_push, nx_set, nx_kill]; omega)) only [get_push_ne, get_push_eq, get_set_ne, get_set_eq, get_kill_ne, nx_push, nx_set, nx_kill]
  have hv0 : HeapArg H0 (.agg #[I size, .slice ta kk tc, .slice ra roots0.length rc]) roots0 := hv.old hok (fun b hb => by rw [hk0 b (by omega)]; simp (disch := first | omega | (simp only [nx_push, nx_set, nx_kill]; done) | (simp only [nx_push, nx_set, nx_kill]; omega)) only [get_push_ne, get_push_eq, get_set_ne, get_set_eq, get_kill_ne, nx_push, nx_set, nx_kill])
  have h3 : ∀ x y z : Value, ([x, y, z].drop 0).take 3 = [x, y, z] := fun _ _ _ => rfl
  simp (disch := first | omega | (show allOne _ = true; simp [allOne, Value.oneCell']) | (simp only [List.length_cons, List.length_nil, List.length_set, List.length_map, List.length_replicate, List.length_append, List.length_take, List.length_drop, Int.toNat_natCast, Int.toNat_of_nonneg, nx_push, nx_set, nx_kill]; done) | (simp only [List.length_cons, List.length_nil, List.length_set, List.length_map, List.length_replicate, List.length_append, List.length_take, List.length_drop, Int.toNat_natCast, Int.toNat_of_nonneg, nx_push, nx_set, nx_kill]; omega)) only [go_sem, reduceCtorEq, Nat.reduceAdd, Nat.reduceSub, Nat.reduceMul, Nat.reduceLT, Nat.reduceLeDiff, Nat.reduceEqDiff, Nat.reduceBEq, Nat.reduceBNe, Int.reduceBEq, Int.reduceEq, Int.reduceLT, Int.reduceLE, Int.reduceAdd, Int.reduceSub, ↓reduceIte, Int.reduceToNat, Nat.reduceShiftRight, Nat.reduceAnd, hb0, lda_cells, h3]
  refine law_build _ _ roots0 hv0 _ ?_
  intro H1 n g gw gh gr T tv lvs rv n1 n2 hA hRf hrv hk1 hn1 hg hsep
  simp (disch := first | omega | (show allOne _ = true; simp [allOne, Value.oneCell']) | (simp only [List.length_cons, List.length_nil, List.length_set, List.length_map, List.length_replicate, List.length_append, List.length_take, List.length_drop, Int.toNat_natCast, Int.toNat_of_nonneg, nx_push, nx_set, nx_kill]; done) | (simp only [List.length_cons, List.length_nil, List.length_set, List.length_map, List.length_replicate, List.length_append, List.length_take, List.length_drop, Int.toNat_natCast, Int.toNat_of_nonneg, nx_push, nx_set, nx_kill]; omega)) only [go_sem, reduceCtorEq, Nat.reduceAdd, Nat.reduceSub, Nat.reduceMul, Nat.reduceLT, Nat.reduceLeDiff, Nat.reduceEqDiff, Nat.reduceBEq, Nat.reduceBNe, Int.reduceBEq, Int.reduceEq, Int.reduceLT, Int.reduceLE, Int.reduceAdd, Int.reduceSub, ↓reduceIte, Int.reduceToNat, Nat.reduceShiftRight, Nat.reduceAnd]
  generalize hrs : roots0.take 20 = roots at hrv
  have hrt : ∀ x ∈ roots, x < 18446744073709551616 := fun x hx => hv.lt x (by rw [← hrs] at hx; exact List.mem_of_mem_take hx)
  have hr20 : roots.length ≤ 20 := by rw [← hrs]; simp; omega
  have hru := hA.room
  have hbig : usedOf T ≤ 65536 := by omega
  refine HCalls.ok fun hok1 => ?_
  obtain ⟨lg1, lg2, lg3⟩ := hA.lt hok1
  have hrl := hRf.lt hok1
  refine HCalls.gotOk (move_Live _ _ _ _ _ _ hA (hA.lt hok1) _ _ (hrv.row hok1) hrt (by omega) _ ?_)
  intro H2 g' gw' gh' v2 hB hV hk2 hn2 hnew hlt2 hvb hok2 _
  simp (disch := first | omega | (show allOne _ = true; simp [allOne, Value.oneCell']) | (simp only [List.length_cons, List.length_nil, List.length_set, List.length_map, List.length_replicate, List.length_append, List.length_take, List.length_drop, Int.toNat_natCast, Int.toNat_of_nonneg, nx_push, nx_set, nx_kill]; done) | (simp only [List.length_cons, List.length_nil, List.length_set, List.length_map, List.length_replicate, List.length_append, List.length_take, List.length_drop, Int.toNat_natCast, Int.toNat_of_nonneg, nx_push, nx_set, nx_kill]; omega)) only [go_sem, reduceCtorEq, Nat.reduceAdd, Nat.reduceSub, Nat.reduceMul, Nat.reduceLT, Nat.reduceLeDiff, Nat.reduceEqDiff, Nat.reduceBEq, Nat.reduceBNe, Int.reduceBEq, Int.reduceEq, Int.reduceLT, Int.reduceLE, Int.reduceAdd, Int.reduceSub, ↓reduceIte, Int.reduceToNat, Nat.reduceShiftRight, Nat.reduceAnd]
  have hM := moved hbig hrt
  have hRf2 : RefAt H2 gr n T tv lvs := hRf.frame hn2 fun x hx => hk2 x (hrl x hx)
  refine HCalls.gotOk (r03_Live _ _ _ _ _ _ hRf2 (by omega) n1 hru _ _ ((hrv.old hok1 hk2).row hok2) hrt (by omega) _ ?_)
  intro H3 gb tvb lvb v3 hC hW hk3 hn3 hb3 hok3 _
  simp (disch := first | omega | (show allOne _ = true; simp [allOne, Value.oneCell']) | (simp only [List.length_cons, List.length_nil, List.length_set, List.length_map, List.length_replicate, List.length_append, List.length_take, List.length_drop, Int.toNat_natCast, Int.toNat_of_nonneg, nx_push, nx_set, nx_kill]; done) | (simp only [List.length_cons, List.length_nil, List.length_set, List.length_map, List.length_replicate, List.length_append, List.length_take, List.length_drop, Int.toNat_natCast, Int.toNat_of_nonneg, nx_push, nx_set, nx_kill]; omega)) only [go_sem, reduceCtorEq, Nat.reduceAdd, Nat.reduceSub, Nat.reduceMul, Nat.reduceLT, Nat.reduceLeDiff, Nat.reduceEqDiff, Nat.reduceBEq, Nat.reduceBNe, Int.reduceBEq, Int.reduceEq, Int.reduceLT, Int.reduceLE, Int.reduceAdd, Int.reduceSub, ↓reduceIte, Int.reduceToNat, Nat.reduceShiftRight, Nat.reduceAnd]
  have hk3' : ∀ b, b < H1.next → H3.get b = H1.get b := fun b hb => by rw [hk3 b (by omega), hk2 b hb]
  have hA3 : AtA H3 g gw gh n T := hA.frame (by rintro b (rfl | rfl | rfl) <;> exact hk3' _ (by omega))
  obtain ⟨lh1, lh2, lh3⟩ := hlt2
  have hB3 : AtA H3 g' gw' gh' n (outT T (bfs T roots)) := hB.frame (by rintro b (rfl | rfl | rfl) <;> exact hk3 _ (by omega))
  have hRf3 : RefAt H3 gr n T tv lvs := hRf.frame (by omega) fun x hx => hk3' x (hrl x hx)
  refine law_words _ _ _ _ _ ((hV.rowS.old hok2 hk3).row hok3) (hW.rowS.row hok3) (by simp; omega) _ ?_
  rw [show decide (roots.map (tr T (bfs T roots)) = roots.map (tr T (bfs T roots))) = true by simp]
  simp (disch := first | omega | (show allOne _ = true; simp [allOne, Value.oneCell']) | (simp only [List.length_cons, List.length_nil, List.length_set, List.length_map, List.length_replicate, List.length_append, List.length_take, List.length_drop, Int.toNat_natCast, Int.toNat_of_nonneg, nx_push, nx_set, nx_kill]; done) | (simp only [List.length_cons, List.length_nil, List.length_set, List.length_map, List.length_replicate, List.length_append, List.length_take, List.length_drop, Int.toNat_natCast, Int.toNat_of_nonneg, nx_push, nx_set, nx_kill]; omega)) only [go_sem, reduceCtorEq, Nat.reduceAdd, Nat.reduceSub, Nat.reduceMul, Nat.reduceLT, Nat.reduceLeDiff, Nat.reduceEqDiff, Nat.reduceBEq, Nat.reduceBNe, Int.reduceBEq, Int.reduceEq, Int.reduceLT, Int.reduceLE, Int.reduceAdd, Int.reduceSub, ↓reduceIte, Int.reduceToNat, Nat.reduceShiftRight, Nat.reduceAnd]
  refine HCalls.gotOk (law_alike _ _ _ _ _ _ _ _ _ hB3 hC _ ?_)
  intro H4 hk4 hn4 hok4 _
  simp (disch := first | omega | (show allOne _ = true; simp [allOne, Value.oneCell']) | (simp only [List.length_cons, List.length_nil, List.length_set, List.length_map, List.length_replicate, List.length_append, List.length_take, List.length_drop, Int.toNat_natCast, Int.toNat_of_nonneg, nx_push, nx_set, nx_kill]; done) | (simp only [List.length_cons, List.length_nil, List.length_set, List.length_map, List.length_replicate, List.length_append, List.length_take, List.length_drop, Int.toNat_natCast, Int.toNat_of_nonneg, nx_push, nx_set, nx_kill]; omega)) only [go_sem, reduceCtorEq, Nat.reduceAdd, Nat.reduceSub, Nat.reduceMul, Nat.reduceLT, Nat.reduceLeDiff, Nat.reduceEqDiff, Nat.reduceBEq, Nat.reduceBNe, Int.reduceBEq, Int.reduceEq, Int.reduceLT, Int.reduceLE, Int.reduceAdd, Int.reduceSub, ↓reduceIte, Int.reduceToNat, Nat.reduceShiftRight, Nat.reduceAnd]
  have hA4 : AtA H4 g gw gh n T := hA3.frame (by obtain ⟨a1, a2, a3⟩ := hA3.lt hok3; rintro b (rfl | rfl | rfl) <;> exact hk4 _ (by omega))
  have hRf4 : RefAt H4 gr n T tv lvs := hRf3.frame hn4 fun x hx => hk4 x (hRf3.lt hok3 x hx)
  refine HCalls.gotOk (law_alike _ _ _ _ _ _ _ _ _ hA4 hRf4 _ ?_)
  intro H5 hk5 hn5 hok5 _
  simp (disch := first | omega | (show allOne _ = true; simp [allOne, Value.oneCell']) | (simp only [List.length_cons, List.length_nil, List.length_set, List.length_map, List.length_replicate, List.length_append, List.length_take, List.length_drop, Int.toNat_natCast, Int.toNat_of_nonneg, nx_push, nx_set, nx_kill]; done) | (simp only [List.length_cons, List.length_nil, List.length_set, List.length_map, List.length_replicate, List.length_append, List.length_take, List.length_drop, Int.toNat_natCast, Int.toNat_of_nonneg, nx_push, nx_set, nx_kill]; omega)) only [go_sem, reduceCtorEq, Nat.reduceAdd, Nat.reduceSub, Nat.reduceMul, Nat.reduceLT, Nat.reduceLeDiff, Nat.reduceEqDiff, Nat.reduceBEq, Nat.reduceBNe, Int.reduceBEq, Int.reduceEq, Int.reduceLT, Int.reduceLE, Int.reduceAdd, Int.reduceSub, ↓reduceIte, Int.reduceToNat, Nat.reduceShiftRight, Nat.reduceAnd]
  have hk5' : ∀ b, b < H1.next → H5.get b = H1.get b := fun b hb => by rw [hk5 b (by omega), hk4 b (by omega), hk3' b hb]
  have hA5 : AtA H5 g gw gh n T := hA.frame (by rintro b (rfl | rfl | rfl) <;> exact hk5' _ (by omega))
  have hRf5 : RefAt H5 gr n T tv lvs := hRf.frame (by omega) fun x hx => hk5' x (hrl x hx)
  refine HCalls.gotOk (move_Reach _ _ _ _ _ _ hA5 (hA5.lt hok5) _ _ ((hrv.old hok1 hk5').row hok5) hrt (by omega) _ ?_)
  intro H6 hk6 hn6 hok6 _
  simp (disch := first | omega | (show allOne _ = true; simp [allOne, Value.oneCell']) | (simp only [List.length_cons, List.length_nil, List.length_set, List.length_map, List.length_replicate, List.length_append, List.length_take, List.length_drop, Int.toNat_natCast, Int.toNat_of_nonneg, nx_push, nx_set, nx_kill]; done) | (simp only [List.length_cons, List.length_nil, List.length_set, List.length_map, List.length_replicate, List.length_append, List.length_take, List.length_drop, Int.toNat_natCast, Int.toNat_of_nonneg, nx_push, nx_set, nx_kill]; omega)) only [go_sem, reduceCtorEq, Nat.reduceAdd, Nat.reduceSub, Nat.reduceMul, Nat.reduceLT, Nat.reduceLeDiff, Nat.reduceEqDiff, Nat.reduceBEq, Nat.reduceBNe, Int.reduceBEq, Int.reduceEq, Int.reduceLT, Int.reduceLE, Int.reduceAdd, Int.reduceSub, ↓reduceIte, Int.reduceToNat, Nat.reduceShiftRight, Nat.reduceAnd]
  have hk6' : ∀ b, b < H1.next → H6.get b = H1.get b := fun b hb => by rw [hk6 b (by omega), hk5' b hb]
  have hRf6 : RefAt H6 gr n T tv lvs := hRf.frame (by omega) fun x hx => hk6' x (hrl x hx)
  refine r03_Reach _ _ _ _ _ _ hRf6 hbig _ _ ((hrv.old hok1 hk6').row hok6) hrt (by omega) _ ?_
  intro H7 hk7 hn7
  simp (disch := first | omega | (show allOne _ = true; simp [allOne, Value.oneCell']) | (simp only [List.length_cons, List.length_nil, List.length_set, List.length_map, List.length_replicate, List.length_append, List.length_take, List.length_drop, Int.toNat_natCast, Int.toNat_of_nonneg, nx_push, nx_set, nx_kill]; done) | (simp only [List.length_cons, List.length_nil, List.length_set, List.length_map, List.length_replicate, List.length_append, List.length_take, List.length_drop, Int.toNat_natCast, Int.toNat_of_nonneg, nx_push, nx_set, nx_kill]; omega)) only [go_sem, reduceCtorEq, Nat.reduceAdd, Nat.reduceSub, Nat.reduceMul, Nat.reduceLT, Nat.reduceLeDiff, Nat.reduceEqDiff, Nat.reduceBEq, Nat.reduceBNe, Int.reduceBEq, Int.reduceEq, Int.reduceLT, Int.reduceLE, Int.reduceAdd, Int.reduceSub, ↓reduceIte, Int.reduceToNat, Nat.reduceShiftRight, Nat.reduceAnd]
  exact hR _
end Go.HL
