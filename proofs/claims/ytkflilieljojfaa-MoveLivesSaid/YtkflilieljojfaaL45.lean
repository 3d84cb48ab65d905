/-
  Joined: D5.
-/
import Derived.Test.YtkflilieljojfaaL44
/-
  Walks: laws, on: what is kept is gone on with.
-/
namespace Go.HL
open Go.RowKit Go.Proofs
set_option maxHeartbeats 4000000
set_option maxRecDepth 100000
set_option linter.unusedSimpArgs false
set_option linter.unusedVariables false

theorem sblk_v (v : Value) : sblk v = vblk v := by
  unfold sblk vblk
  cases v with
  | slice a l c => cases a <;> rfl
  | _ => rfl
theorem append_two (H : HHeap) (l : List Nat) (w : Nat) (hl : l.length ≤ 1000) : ∃ sa Ha sb Hb, apd (H.push (.cells [] true)) 1 8 (.slice (some ⟨H.next, 0, none⟩) 0 0) (l.map U, l.length) = some (sa, Ha) ∧
    hsource (Ha.push (.cells [U w] true)) 1 (.slice (some ⟨Ha.next, 0, none⟩) 1 1) = some ([U w], 1) ∧ apd (Ha.push (.cells [U w] true)) 1 8 sa ([U w], 1) = some (sb, Hb) ∧ (∀ x, x < H.next → Hb.get x = H.get x) ∧ H.next ≤ Hb.next ∧ RowS Hb sb ((l ++ [w]).map U) := by
  rcases Nat.eq_zero_or_pos l.length with h0 | h0
  · have : l = [] := List.eq_nil_of_length_eq_zero h0
    subst this
    refine ⟨.slice (some ⟨H.next, 0, none⟩) 0 0, H.push (.cells [] true), .slice (some ⟨H.next + 1 + 1, 0, some 2⟩) 1 1, ((H.push (.cells [] true)).push (.cells [U w] true)).push (.cells [U w] true), apd_zero _ _ _ _ _ _, ?_, ?_, ?_, ?_, ?_⟩
    · rw [hsource_slice]; simp (disch := first | omega | (simp only [nx_push, nx_set, nx_kill]; done) | (simp only [nx_push, nx_set, nx_kill]; omega)) only [get_push_ne, get_push_eq, get_set_ne, get_set_eq, get_kill_ne, nx_push, nx_set, nx_kill]; rfl
    · rw [apd_some _ _ _ _ _ _ _ _ _ (by omega) (by omega) (by omega)]
      simp (disch := first | omega | (simp only [nx_push, nx_set, nx_kill]; done) | (simp only [nx_push, nx_set, nx_kill]; omega)) only [get_push_ne, get_push_eq, get_set_ne, get_set_eq, get_kill_ne, nx_push, nx_set, nx_kill]
      rw [apo_fresh _ _ _ _ _ _ _ (by omega)]; simp (disch := first | omega | (simp only [nx_push, nx_set, nx_kill]; done) | (simp only [nx_push, nx_set, nx_kill]; omega)) only [get_push_ne, get_push_eq, get_set_ne, get_set_eq, get_kill_ne, nx_push, nx_set, nx_kill]
    · intro x hx; simp (disch := first | omega | (simp only [nx_push, nx_set, nx_kill]; done) | (simp only [nx_push, nx_set, nx_kill]; omega)) only [get_push_ne, get_push_eq, get_set_ne, get_set_eq, get_kill_ne, nx_push, nx_set, nx_kill]
    · simp (disch := first | omega | (simp only [nx_push, nx_set, nx_kill]; done) | (simp only [nx_push, nx_set, nx_kill]; omega)) only [get_push_ne, get_push_eq, get_set_ne, get_set_eq, get_kill_ne, nx_push, nx_set, nx_kill]; omega
    · exact RowS.of_gr (n := 1) ⟨by simp, .inr ⟨H.next + 1 + 1, by omega, rfl, by simp (disch := first | omega | (simp only [nx_push, nx_set, nx_kill]; done) | (simp only [nx_push, nx_set, nx_kill]; omega)) only [get_push_ne, get_push_eq, get_set_ne, get_set_eq, get_kill_ne, nx_push, nx_set, nx_kill]; rfl⟩⟩
  · refine ⟨.slice (some ⟨H.next + 1, 0, some 2⟩) l.length l.length, (H.push (.cells [] true)).push (.cells (l.map U) true), .slice (some ⟨H.next + 1 + 1 + 1, 0, some 2⟩) (l.length + 1) (l.length + 1),
      ((((H.push (.cells [] true)).push (.cells (l.map U) true)).push (.cells [U w] true)).kill (H.next + 1)).push (.cells (l.map U ++ [U w]) true), ?_, ?_, ?_, ?_, ?_, ?_⟩
    · rw [apd_some _ _ _ _ _ _ _ _ _ (by omega) (by omega) (by omega)]
      simp (disch := first | omega | (simp only [nx_push, nx_set, nx_kill]; done) | (simp only [nx_push, nx_set, nx_kill]; omega)) only [get_push_ne, get_push_eq, get_set_ne, get_set_eq, get_kill_ne, nx_push, nx_set, nx_kill]
      rw [apo_fresh _ _ _ _ _ _ _ (by omega)]; simp (disch := first | omega | (simp only [nx_push, nx_set, nx_kill]; done) | (simp only [nx_push, nx_set, nx_kill]; omega)) only [get_push_ne, get_push_eq, get_set_ne, get_set_eq, get_kill_ne, nx_push, nx_set, nx_kill]
    · rw [hsource_slice]; simp (disch := first | omega | (simp only [nx_push, nx_set, nx_kill]; done) | (simp only [nx_push, nx_set, nx_kill]; omega)) only [get_push_ne, get_push_eq, get_set_ne, get_set_eq, get_kill_ne, nx_push, nx_set, nx_kill]; rfl
    · rw [apd_some _ _ _ _ _ _ _ _ _ (by omega) (by omega) (by omega)]
      simp (disch := first | omega | (simp only [nx_push, nx_set, nx_kill]; done) | (simp only [nx_push, nx_set, nx_kill]; omega)) only [get_push_ne, get_push_eq, get_set_ne, get_set_eq, get_kill_ne, nx_push, nx_set, nx_kill]
      rw [apo_grow 1 _ _ 1 _ _ (by omega) (by omega) (by simp)]; simp (disch := first | omega | (simp only [nx_push, nx_set, nx_kill]; done) | (simp only [nx_push, nx_set, nx_kill]; omega)) only [get_push_ne, get_push_eq, get_set_ne, get_set_eq, get_kill_ne, nx_push, nx_set, nx_kill]
    · intro x hx; simp (disch := first | omega | (simp only [nx_push, nx_set, nx_kill]; done) | (simp only [nx_push, nx_set, nx_kill]; omega)) only [get_push_ne, get_push_eq, get_set_ne, get_set_eq, get_kill_ne, nx_push, nx_set, nx_kill]
    · simp (disch := first | omega | (simp only [nx_push, nx_set, nx_kill]; done) | (simp only [nx_push, nx_set, nx_kill]; omega)) only [get_push_ne, get_push_eq, get_set_ne, get_set_eq, get_kill_ne, nx_push, nx_set, nx_kill]; omega
    · exact RowS.of_gr (n := l.length + 1) ⟨by simp, .inr ⟨H.next + 1 + 1 + 1, by omega, rfl, by simp (disch := first | omega | (simp only [nx_push, nx_set, nx_kill]; done) | (simp only [nx_push, nx_set, nx_kill]; omega)) only [get_push_ne, get_push_eq, get_set_ne, get_set_eq, get_kill_ne, nx_push, nx_set, nx_kill]; simp⟩⟩
theorem law_MoveGoes (H : HHeap) (v : Value) (roots0 : List Nat) (hv : HeapArg H v roots0) (at_ : Nat) (hat : at_ < 256) (R : Value → HHeap → Prop) (hR : ∀ H', R (.bool true) H') : HCalls Try.prog 9 [v, .int .u8 at_] H R := by
  refine HCalls.ok fun hok => ?_
  have hv1 := hv
  obtain ⟨⟨size, tv0, rv0, kk, cells, rfl, _, ⟨_, _, ta, tc, rfl, _⟩, ⟨_, _, ra, rc, rfl, _⟩, _⟩, _⟩ := hv1
  refine HCalls.of_hw Try.func9 rfl _ Try.ntmps9 _ (by rw [Try.results9]) ?_
  rw [hframe0_eq _ _ (by simp)]
  simp only [List.zipIdx_cons, List.zipIdx_nil, List.map_cons, List.map_nil, Nat.reduceAdd]
  simp (disch := first | omega | (show allOne _ = true; simp [allOne, Value.oneCell']) | (simp only [List.length_cons, List.length_nil, List.length_set, List.length_map, List.length_replicate, List.length_append, List.length_take, List.length_drop, Int.toNat_natCast, Int.toNat_of_nonneg, nx_push, nx_set, nx_kill]; done) | (simp only [List.length_cons, List.length_nil, List.length_set, List.length_map, List.length_replicate, List.length_append, List.length_take, List.length_drop, Int.toNat_natCast, Int.toNat_of_nonneg, nx_push, nx_set, nx_kill]; omega)) only [go_sem, reduceCtorEq, Nat.reduceAdd, Nat.reduceSub, Nat.reduceMul, Nat.reduceLT, Nat.reduceLeDiff, Nat.reduceEqDiff, Nat.reduceBEq, Nat.reduceBNe, Int.reduceBEq, Int.reduceEq, Int.reduceLT, Int.reduceLE, Int.reduceAdd, Int.reduceSub, ↓reduceIte, Int.reduceToNat, Nat.reduceShiftRight, Nat.reduceAnd, hbox_agg]
  refine law_shown _ _ ?_
  intro H0 hk0 hn0
  rw [nx_push] at hk0 hn0
  have hb0 : H0.get H.next = some (.cells [I size, .slice ta kk tc, .slice ra roots0.length rc] true) := by rw [hk0 _ (by omega)]; simp (disch := first | omega | (simp only [nx_push, nx_set, nx_kill]; done) | (simp only [nx_push, nx_set, nx_kill]; omega)) only [get_push_ne, get_push_eq, get_set_ne, get_set_eq, get_kill_ne, nx_push, nx_set, nx_kill]
  have hv0 : HeapArg H0 (.agg #[I size, .slice ta kk tc, .slice ra roots0.length rc]) roots0 := hv.old hok (fun b hb => by rw [hk0 b (by omega)]; simp (disch := first | omega | (simp only [nx_push, nx_set, nx_kill]; done) | (simp only [nx_push, nx_set, nx_kill]; omega)) only [get_push_ne, get_push_eq, get_set_ne, get_set_eq, get_kill_ne, nx_push, nx_set, nx_kill])
  have h3 : ∀ x y z : Value, ([x, y, z].drop 0).take 3 = [x, y, z] := fun _ _ _ => rfl
  simp (disch := first | omega | (show allOne _ = true; simp [allOne, Value.oneCell']) | (simp only [List.length_cons, List.length_nil, List.length_set, List.length_map, List.length_replicate, List.length_append, List.length_take, List.length_drop, Int.toNat_natCast, Int.toNat_of_nonneg, nx_push, nx_set, nx_kill]; done) | (simp only [List.length_cons, List.length_nil, List.length_set, List.length_map, List.length_replicate, List.length_append, List.length_take, List.length_drop, Int.toNat_natCast, Int.toNat_of_nonneg, nx_push, nx_set, nx_kill]; omega)) only [go_sem, reduceCtorEq, Nat.reduceAdd, Nat.reduceSub, Nat.reduceMul, Nat.reduceLT, Nat.reduceLeDiff, Nat.reduceEqDiff, Nat.reduceBEq, Nat.reduceBNe, Int.reduceBEq, Int.reduceEq, Int.reduceLT, Int.reduceLE, Int.reduceAdd, Int.reduceSub, ↓reduceIte, Int.reduceToNat, Nat.reduceShiftRight, Nat.reduceAnd, hb0, lda_cells, h3]
  refine law_build _ _ roots0 hv0 _ ?_
  intro H1 n g gw gh gr T tv lvs rv n1 n2 hA hRf hrv hk1 hn1 hg hsep
  simp (disch := first | omega | (show allOne _ = true; simp [allOne, Value.oneCell']) | (simp only [List.length_cons, List.length_nil, List.length_set, List.length_map, List.length_replicate, List.length_append, List.length_take, List.length_drop, Int.toNat_natCast, Int.toNat_of_nonneg, nx_push, nx_set, nx_kill]; done) | (simp only [List.length_cons, List.length_nil, List.length_set, List.length_map, List.length_replicate, List.length_append, List.length_take, List.length_drop, Int.toNat_natCast, Int.toNat_of_nonneg, nx_push, nx_set, nx_kill]; omega)) only [go_sem, reduceCtorEq, Nat.reduceAdd, Nat.reduceSub, Nat.reduceMul, Nat.reduceLT, Nat.reduceLeDiff, Nat.reduceEqDiff, Nat.reduceBEq, Nat.reduceBNe, Int.reduceBEq, Int.reduceEq, Int.reduceLT, Int.reduceLE, Int.reduceAdd, Int.reduceSub, ↓reduceIte, Int.reduceToNat, Nat.reduceShiftRight, Nat.reduceAnd]
  generalize hrs : roots0.take 20 = roots at hrv
  have hrt : ∀ x ∈ roots, x < 18446744073709551616 := fun x hx => hv.lt x (by rw [← hrs] at hx; exact List.mem_of_mem_take hx)
  have hr20 : roots.length ≤ 20 := by rw [← hrs]; simp; omega
  have hru := hA.room
  have hbig : usedOf T ≤ 65536 := by omega
  refine HCalls.ok fun hok1 => ?_
  refine move_Live _ _ _ _ _ _ hA (hA.lt hok1) _ _ (hrv.row hok1) hrt (by omega) _ ?_
  intro H5 g' gw' gh' v5 hB hV hk5 hn5 hnew hlt5 hvb
  simp (disch := first | omega | (show allOne _ = true; simp [allOne, Value.oneCell']) | (simp only [List.length_cons, List.length_nil, List.length_set, List.length_map, List.length_replicate, List.length_append, List.length_take, List.length_drop, Int.toNat_natCast, Int.toNat_of_nonneg, nx_push, nx_set, nx_kill]; done) | (simp only [List.length_cons, List.length_nil, List.length_set, List.length_map, List.length_replicate, List.length_append, List.length_take, List.length_drop, Int.toNat_natCast, Int.toNat_of_nonneg, nx_push, nx_set, nx_kill]; omega)) only [go_sem, reduceCtorEq, Nat.reduceAdd, Nat.reduceSub, Nat.reduceMul, Nat.reduceLT, Nat.reduceLeDiff, Nat.reduceEqDiff, Nat.reduceBEq, Nat.reduceBNe, Int.reduceBEq, Int.reduceEq, Int.reduceLT, Int.reduceLE, Int.reduceAdd, Int.reduceSub, ↓reduceIte, Int.reduceToNat, Nat.reduceShiftRight, Nat.reduceAnd]
  have hM := moved hbig hrt
  generalize outT T (bfs T roots) = T' at hB hM
  generalize roots.map (tr T (bfs T roots)) = l' at hV hM
  refine arena_Used _ _ _ _ _ _ hB _ ?_
  have hul := hM.le
  obtain ⟨m, hm, hm10⟩ : ∃ m : Nat, (at_ : Int) % 10 = (m : Int) ∧ m < 10 := ⟨at_ % 10, by omega, by omega⟩
  simp (disch := first | omega | (show allOne _ = true; simp [allOne, Value.oneCell']) | (simp only [List.length_cons, List.length_nil, List.length_set, List.length_map, List.length_replicate, List.length_append, List.length_take, List.length_drop, Int.toNat_natCast, Int.toNat_of_nonneg, nx_push, nx_set, nx_kill]; done) | (simp only [List.length_cons, List.length_nil, List.length_set, List.length_map, List.length_replicate, List.length_append, List.length_take, List.length_drop, Int.toNat_natCast, Int.toNat_of_nonneg, nx_push, nx_set, nx_kill]; omega)) only [go_sem, reduceCtorEq, Nat.reduceAdd, Nat.reduceSub, Nat.reduceMul, Nat.reduceLT, Nat.reduceLeDiff, Nat.reduceEqDiff, Nat.reduceBEq, Nat.reduceBNe, Int.reduceBEq, Int.reduceEq, Int.reduceLT, Int.reduceLE, Int.reduceAdd, Int.reduceSub, ↓reduceIte, Int.reduceToNat, Nat.reduceShiftRight, Nat.reduceAnd, hm, mks_ok]
  have hB1 : AtA (H5.push (.cells (List.replicate m (.int .u64 0)) true)) g' gw' gh' n T' := hB.frame (by rintro b (rfl | rfl | rfl) <;> simp (disch := first | omega | (simp only [nx_push, nx_set, nx_kill]; done) | (simp only [nx_push, nx_set, nx_kill]; omega)) only [get_push_ne, get_push_eq, get_set_ne, get_set_eq, get_kill_ne, nx_push, nx_set, nx_kill])
  have hrep : List.replicate m (Value.int .u64 0) = (List.replicate m 0).map U := by simp
  refine arena_AllocV _ _ _ _ _ _ hB1 9 (List.replicate m 0) m (by simp) (by simp) (some ⟨H5.next, 0, none⟩) m (fun H' hf => ?_) _ ?_
  · rw [hsource_slice, hf _ (by omega) (by omega) (by omega)]
    simp (disch := first | omega | (simp only [nx_push, nx_set, nx_kill]; done) | (simp only [nx_push, nx_set, nx_kill]; omega)) only [get_push_ne, get_push_eq, get_set_ne, get_set_eq, get_kill_ne, nx_push, nx_set, nx_kill]
    rcases Nat.eq_zero_or_pos m with h0 | h0
    · subst h0; rfl
    · rw [hsrc_cells _ _ _ _ _ h0 (by simp), List.drop_zero, Nat.mul_one, hrep, List.take_of_length_le (by simp)]
  intro H6 hC hf6 hn6
  rw [nx_push] at hn6
  have hv56 : RowS H6 v5 (l'.map U) := hV.rowS.frame (fun b hb => by
    have := hvb b (by rwa [← sblk_v])
    rw [hf6 b (by omega) (by omega) (by omega)]
    have hbl : b < H5.next := by
      rcases hV with ⟨_, h2⟩ | ⟨b', _, h2, h3, _⟩
      · subst h2; simp [sblk] at hb
      · subst h2; simp [sblk] at hb; omega
    simp (disch := first | omega | (simp only [nx_push, nx_set, nx_kill]; done) | (simp only [nx_push, nx_set, nx_kill]; omega)) only [get_push_ne, get_push_eq, get_set_ne, get_set_eq, get_kill_ne, nx_push, nx_set, nx_kill])
  have hrt' : (List.replicate m 0).length = m := by simp
  unfold allocT allocV at *
  by_cases hroom : usedOf T' + m + 1 ≤ n
  · rw [if_pos ⟨by omega, by omega, by omega⟩] at hC
    rw [if_pos ⟨by omega, by omega⟩, if_pos (by omega)]
    have hT9 : ((9 : Int)).toNat = 9 := rfl
    rw [hT9] at hC
    have hu9 : usedOf (T' ++ [⟨9, List.replicate m 0⟩]) = usedOf T' + m + 1 := by rw [usedOf_append]; simp [usedOf, Thing.room]; omega
    obtain ⟨p1, p2, p3⟩ := more_thing (T := T') (l := l') (t := ⟨9, List.replicate m 0⟩) (by rw [hu9]; omega) hM.range hM.clean hM.cleanT (by intro w hw; simp at hw; omega)
    rw [hu9] at p1
    simp (disch := first | omega | (show allOne _ = true; simp [allOne, Value.oneCell']) | (simp only [List.length_cons, List.length_nil, List.length_set, List.length_map, List.length_replicate, List.length_append, List.length_take, List.length_drop, Int.toNat_natCast, Int.toNat_of_nonneg, nx_push, nx_set, nx_kill]; done) | (simp only [List.length_cons, List.length_nil, List.length_set, List.length_map, List.length_replicate, List.length_append, List.length_take, List.length_drop, Int.toNat_natCast, Int.toNat_of_nonneg, nx_push, nx_set, nx_kill]; omega)) only [go_sem, reduceCtorEq, Nat.reduceAdd, Nat.reduceSub, Nat.reduceMul, Nat.reduceLT, Nat.reduceLeDiff, Nat.reduceEqDiff, Nat.reduceBEq, Nat.reduceBNe, Int.reduceBEq, Int.reduceEq, Int.reduceLT, Int.reduceLE, Int.reduceAdd, Int.reduceSub, ↓reduceIte, Int.reduceToNat, Nat.reduceShiftRight, Nat.reduceAnd]
    refine HCalls.ok fun hok6 => ?_
    refine arena_Size _ _ _ _ _ _ hC _ ?_
    obtain ⟨a5, c5, hv5, hv5c, hv5d⟩ := id hv56
    rw [List.length_map] at hv5 hv5c
    subst hv5
    have hs5 : ∀ H' : HHeap, (∀ b, b < H6.next → H'.get b = H6.get b) → hsource H' 1 (.slice a5 l'.length c5) = some (l'.map U, l'.length) := fun H' hf => (hv56.row hok6).source hf
    obtain ⟨sa, Ha, sb, Hb, q1, qh, q2, q3, q4, q5⟩ := append_two H6 l' (wordAt (usedOf T')) (by have := hM.len; omega)
    have hs5' := hs5 (H6.push (.cells [] true)) (fun b hb => by simp (disch := first | omega | (simp only [nx_push, nx_set, nx_kill]; done) | (simp only [nx_push, nx_set, nx_kill]; omega)) only [get_push_ne, get_push_eq, get_set_ne, get_set_eq, get_kill_ne, nx_push, nx_set, nx_kill])
    have hll := hM.len
    simp (disch := first | omega | (show allOne _ = true; simp [allOne, Value.oneCell']) | (simp only [List.length_cons, List.length_nil, List.length_set, List.length_map, List.length_replicate, List.length_append, List.length_take, List.length_drop, Int.toNat_natCast, Int.toNat_of_nonneg, nx_push, nx_set, nx_kill]; done) | (simp only [List.length_cons, List.length_nil, List.length_set, List.length_map, List.length_replicate, List.length_append, List.length_take, List.length_drop, Int.toNat_natCast, Int.toNat_of_nonneg, nx_push, nx_set, nx_kill]; omega)) only [go_sem, reduceCtorEq, Nat.reduceAdd, Nat.reduceSub, Nat.reduceMul, Nat.reduceLT, Nat.reduceLeDiff, Nat.reduceEqDiff, Nat.reduceBEq, Nat.reduceBNe, Int.reduceBEq, Int.reduceEq, Int.reduceLT, Int.reduceLE, Int.reduceAdd, Int.reduceSub, ↓reduceIte, Int.reduceToNat, Nat.reduceShiftRight, Nat.reduceAnd, hs5', q1, q2, qh]
    have hCb : AtA Hb g' gw' gh' n (T' ++ [⟨9, List.replicate m 0⟩]) := hC.frame (by rintro b (rfl | rfl | rfl) <;> exact q3 _ (by omega))
    have hvb5 : RowS Hb (.slice a5 l'.length c5) (l'.map U) := hv56.old hok6 q3
    refine HCalls.ok fun hokb => ?_
    have hltw : wordAt (usedOf T') < 18446744073709551616 := by unfold wordAt; omega
    refine move_Live _ _ _ _ _ _ hCb (hCb.lt hokb) _ (l' ++ [wordAt (usedOf T')]) (q5.row hokb) (by
      intro w hw
      rcases List.mem_append.1 hw with hw | hw
      · exact hM.lt w hw
      · rw [List.mem_singleton.1 hw]; exact hltw) (by simp; omega) _ ?_
    intro H9 g9 gw9 gh9 v9 hD hV9 hk9 hn9 hnew9 hlt9 hvb9
    simp (disch := first | omega | (show allOne _ = true; simp [allOne, Value.oneCell']) | (simp only [List.length_cons, List.length_nil, List.length_set, List.length_map, List.length_replicate, List.length_append, List.length_take, List.length_drop, Int.toNat_natCast, Int.toNat_of_nonneg, nx_push, nx_set, nx_kill]; done) | (simp only [List.length_cons, List.length_nil, List.length_set, List.length_map, List.length_replicate, List.length_append, List.length_take, List.length_drop, Int.toNat_natCast, Int.toNat_of_nonneg, nx_push, nx_set, nx_kill]; omega)) only [go_sem, reduceCtorEq, Nat.reduceAdd, Nat.reduceSub, Nat.reduceMul, Nat.reduceLT, Nat.reduceLeDiff, Nat.reduceEqDiff, Nat.reduceBEq, Nat.reduceBNe, Int.reduceBEq, Int.reduceEq, Int.reduceLT, Int.reduceLE, Int.reduceAdd, Int.reduceSub, ↓reduceIte, Int.reduceToNat, Nat.reduceShiftRight, Nat.reduceAnd]
    have hu3 := outT_used (T' ++ [⟨9, List.replicate m 0⟩]) (bfs (T' ++ [⟨9, List.replicate m 0⟩]) (l' ++ [wordAt (usedOf T')]))
    rw [p1] at hu3
    rw [List.map_append, p2, List.map_cons, List.map_nil] at hV9
    have hxlt := tr_lt (T := T' ++ [⟨9, List.replicate m 0⟩]) (bfs_nodup _ (l' ++ [wordAt (usedOf T')])) (bfs_closed _ _).lt (by rw [hu9]; omega) hltw (fun i hi => bfs_root (by simp) hi)
    generalize tr (T' ++ [⟨9, List.replicate m 0⟩]) (bfs (T' ++ [⟨9, List.replicate m 0⟩]) (l' ++ [wordAt (usedOf T')])) (wordAt (usedOf T')) = x at hV9 p3 hxlt
    generalize outT (T' ++ [⟨9, List.replicate m 0⟩]) (bfs (T' ++ [⟨9, List.replicate m 0⟩]) (l' ++ [wordAt (usedOf T')])) = T9 at hD p3 hu3
    have hvs9 := hV9.rowS
    obtain ⟨a9, c9, hv9, _⟩ := id hvs9
    rw [show ((l' ++ [x]).map U).length = l'.length + 1 by simp] at hv9
    subst hv9
    obtain ⟨s9, r1, r2, _⟩ := hvs9.hi Try.underlying23 sz42 (k := .i64) (m := l'.length) (by simp)
    rw [← List.map_take, List.take_left] at r2
    have hC9 : AtA H9 g' gw' gh' n (T' ++ [⟨9, List.replicate m 0⟩]) := hCb.frame (by rintro b (rfl | rfl | rfl) <;> exact hk9 _ (hokb _ _ (by first | exact hCb.a | exact hCb.w | exact hCb.h)))
    have hv9' : RowS H9 (.slice a5 l'.length c5) (l'.map U) := hvb5.old hokb hk9
    have hw9 : (wordAt (usedOf T') : Int) = (usedOf T' : Int) * 8 + 1 := by unfold wordAt; omega
    simp (disch := first | omega | (show allOne _ = true; simp [allOne, Value.oneCell']) | (simp only [List.length_cons, List.length_nil, List.length_set, List.length_map, List.length_replicate, List.length_append, List.length_take, List.length_drop, Int.toNat_natCast, Int.toNat_of_nonneg, nx_push, nx_set, nx_kill]; done) | (simp only [List.length_cons, List.length_nil, List.length_set, List.length_map, List.length_replicate, List.length_append, List.length_take, List.length_drop, Int.toNat_natCast, Int.toNat_of_nonneg, nx_push, nx_set, nx_kill]; omega)) only [go_sem, reduceCtorEq, Nat.reduceAdd, Nat.reduceSub, Nat.reduceMul, Nat.reduceLT, Nat.reduceLeDiff, Nat.reduceEqDiff, Nat.reduceBEq, Nat.reduceBNe, Int.reduceBEq, Int.reduceEq, Int.reduceLT, Int.reduceLE, Int.reduceAdd, Int.reduceSub, ↓reduceIte, Int.reduceToNat, Nat.reduceShiftRight, Nat.reduceAnd, hw9]
    refine arena_Used _ _ _ _ _ _ hC9 _ ?_
    rw [hu9]
    simp (disch := first | omega | (show allOne _ = true; simp [allOne, Value.oneCell']) | (simp only [List.length_cons, List.length_nil, List.length_set, List.length_map, List.length_replicate, List.length_append, List.length_take, List.length_drop, Int.toNat_natCast, Int.toNat_of_nonneg, nx_push, nx_set, nx_kill]; done) | (simp only [List.length_cons, List.length_nil, List.length_set, List.length_map, List.length_replicate, List.length_append, List.length_take, List.length_drop, Int.toNat_natCast, Int.toNat_of_nonneg, nx_push, nx_set, nx_kill]; omega)) only [go_sem, reduceCtorEq, Nat.reduceAdd, Nat.reduceSub, Nat.reduceMul, Nat.reduceLT, Nat.reduceLeDiff, Nat.reduceEqDiff, Nat.reduceBEq, Nat.reduceBNe, Int.reduceBEq, Int.reduceEq, Int.reduceLT, Int.reduceLE, Int.reduceAdd, Int.reduceSub, ↓reduceIte, Int.reduceToNat, Nat.reduceShiftRight, Nat.reduceAnd, r1]
    refine HCalls.ok fun hok9 => ?_
    refine law_words _ _ _ l' l' (r2.row hok9) (hv9'.row hok9) (by omega) _ ?_
    rw [show decide (l' = l') = true by simp]
    obtain ⟨bb, oo, kk9, cc, cs9, rw9, z1, z2, z3⟩ := (hvs9.row hok9).get (i := l'.length) (v := U x) (by simp)
    rw [show ((l' ++ [x]).map U).length = l'.length + 1 by simp] at z1
    cases z1
    simp (disch := first | omega | (show allOne _ = true; simp [allOne, Value.oneCell']) | (simp only [List.length_cons, List.length_nil, List.length_set, List.length_map, List.length_replicate, List.length_append, List.length_take, List.length_drop, Int.toNat_natCast, Int.toNat_of_nonneg, nx_push, nx_set, nx_kill]; done) | (simp only [List.length_cons, List.length_nil, List.length_set, List.length_map, List.length_replicate, List.length_append, List.length_take, List.length_drop, Int.toNat_natCast, Int.toNat_of_nonneg, nx_push, nx_set, nx_kill]; omega)) only [go_sem, reduceCtorEq, Nat.reduceAdd, Nat.reduceSub, Nat.reduceMul, Nat.reduceLT, Nat.reduceLeDiff, Nat.reduceEqDiff, Nat.reduceBEq, Nat.reduceBNe, Int.reduceBEq, Int.reduceEq, Int.reduceLT, Int.reduceLE, Int.reduceAdd, Int.reduceSub, ↓reduceIte, Int.reduceToNat, Nat.reduceShiftRight, Nat.reduceAnd, ixa_ok, ldc_cells, z2, z3]
    refine arena_Kind _ _ _ _ _ _ hD _ hxlt _ ?_
    rw [p3]
    simp (disch := first | omega | (show allOne _ = true; simp [allOne, Value.oneCell']) | (simp only [List.length_cons, List.length_nil, List.length_set, List.length_map, List.length_replicate, List.length_append, List.length_take, List.length_drop, Int.toNat_natCast, Int.toNat_of_nonneg, nx_push, nx_set, nx_kill]; done) | (simp only [List.length_cons, List.length_nil, List.length_set, List.length_map, List.length_replicate, List.length_append, List.length_take, List.length_drop, Int.toNat_natCast, Int.toNat_of_nonneg, nx_push, nx_set, nx_kill]; omega)) only [go_sem, reduceCtorEq, Nat.reduceAdd, Nat.reduceSub, Nat.reduceMul, Nat.reduceLT, Nat.reduceLeDiff, Nat.reduceEqDiff, Nat.reduceBEq, Nat.reduceBNe, Int.reduceBEq, Int.reduceEq, Int.reduceLT, Int.reduceLE, Int.reduceAdd, Int.reduceSub, ↓reduceIte, Int.reduceToNat, Nat.reduceShiftRight, Nat.reduceAnd]
    refine arena_Used _ _ _ _ _ _ hD _ ?_
    rw [hu3]
    simp (disch := first | omega | (show allOne _ = true; simp [allOne, Value.oneCell']) | (simp only [List.length_cons, List.length_nil, List.length_set, List.length_map, List.length_replicate, List.length_append, List.length_take, List.length_drop, Int.toNat_natCast, Int.toNat_of_nonneg, nx_push, nx_set, nx_kill]; done) | (simp only [List.length_cons, List.length_nil, List.length_set, List.length_map, List.length_replicate, List.length_append, List.length_take, List.length_drop, Int.toNat_natCast, Int.toNat_of_nonneg, nx_push, nx_set, nx_kill]; omega)) only [go_sem, reduceCtorEq, Nat.reduceAdd, Nat.reduceSub, Nat.reduceMul, Nat.reduceLT, Nat.reduceLeDiff, Nat.reduceEqDiff, Nat.reduceBEq, Nat.reduceBNe, Int.reduceBEq, Int.reduceEq, Int.reduceLT, Int.reduceLE, Int.reduceAdd, Int.reduceSub, ↓reduceIte, Int.reduceToNat, Nat.reduceShiftRight, Nat.reduceAnd]
    refine arena_Used _ _ _ _ _ _ hC9 _ ?_
    rw [hu9]
    simp (disch := first | omega | (show allOne _ = true; simp [allOne, Value.oneCell']) | (simp only [List.length_cons, List.length_nil, List.length_set, List.length_map, List.length_replicate, List.length_append, List.length_take, List.length_drop, Int.toNat_natCast, Int.toNat_of_nonneg, nx_push, nx_set, nx_kill]; done) | (simp only [List.length_cons, List.length_nil, List.length_set, List.length_map, List.length_replicate, List.length_append, List.length_take, List.length_drop, Int.toNat_natCast, Int.toNat_of_nonneg, nx_push, nx_set, nx_kill]; omega)) only [go_sem, reduceCtorEq, Nat.reduceAdd, Nat.reduceSub, Nat.reduceMul, Nat.reduceLT, Nat.reduceLeDiff, Nat.reduceEqDiff, Nat.reduceBEq, Nat.reduceBNe, Int.reduceBEq, Int.reduceEq, Int.reduceLT, Int.reduceLE, Int.reduceAdd, Int.reduceSub, ↓reduceIte, Int.reduceToNat, Nat.reduceShiftRight, Nat.reduceAnd]
    exact hR _
  · rw [if_neg (by omega)] at hC
    rw [if_pos ⟨by omega, by omega⟩, if_neg (by omega)]
    simp (disch := first | omega | (show allOne _ = true; simp [allOne, Value.oneCell']) | (simp only [List.length_cons, List.length_nil, List.length_set, List.length_map, List.length_replicate, List.length_append, List.length_take, List.length_drop, Int.toNat_natCast, Int.toNat_of_nonneg, nx_push, nx_set, nx_kill]; done) | (simp only [List.length_cons, List.length_nil, List.length_set, List.length_map, List.length_replicate, List.length_append, List.length_take, List.length_drop, Int.toNat_natCast, Int.toNat_of_nonneg, nx_push, nx_set, nx_kill]; omega)) only [go_sem, reduceCtorEq, Nat.reduceAdd, Nat.reduceSub, Nat.reduceMul, Nat.reduceLT, Nat.reduceLeDiff, Nat.reduceEqDiff, Nat.reduceBEq, Nat.reduceBNe, Int.reduceBEq, Int.reduceEq, Int.reduceLT, Int.reduceLE, Int.reduceAdd, Int.reduceSub, ↓reduceIte, Int.reduceToNat, Nat.reduceShiftRight, Nat.reduceAnd]
    refine arena_Size _ _ _ _ _ _ hC _ ?_
    simp (disch := first | omega | (show allOne _ = true; simp [allOne, Value.oneCell']) | (simp only [List.length_cons, List.length_nil, List.length_set, List.length_map, List.length_replicate, List.length_append, List.length_take, List.length_drop, Int.toNat_natCast, Int.toNat_of_nonneg, nx_push, nx_set, nx_kill]; done) | (simp only [List.length_cons, List.length_nil, List.length_set, List.length_map, List.length_replicate, List.length_append, List.length_take, List.length_drop, Int.toNat_natCast, Int.toNat_of_nonneg, nx_push, nx_set, nx_kill]; omega)) only [go_sem, reduceCtorEq, Nat.reduceAdd, Nat.reduceSub, Nat.reduceMul, Nat.reduceLT, Nat.reduceLeDiff, Nat.reduceEqDiff, Nat.reduceBEq, Nat.reduceBNe, Int.reduceBEq, Int.reduceEq, Int.reduceLT, Int.reduceLE, Int.reduceAdd, Int.reduceSub, ↓reduceIte, Int.reduceToNat, Nat.reduceShiftRight, Nat.reduceAnd]
    refine arena_Used _ _ _ _ _ _ hC _ ?_
    simp (disch := first | omega | (show allOne _ = true; simp [allOne, Value.oneCell']) | (simp only [List.length_cons, List.length_nil, List.length_set, List.length_map, List.length_replicate, List.length_append, List.length_take, List.length_drop, Int.toNat_natCast, Int.toNat_of_nonneg, nx_push, nx_set, nx_kill]; done) | (simp only [List.length_cons, List.length_nil, List.length_set, List.length_map, List.length_replicate, List.length_append, List.length_take, List.length_drop, Int.toNat_natCast, Int.toNat_of_nonneg, nx_push, nx_set, nx_kill]; omega)) only [go_sem, reduceCtorEq, Nat.reduceAdd, Nat.reduceSub, Nat.reduceMul, Nat.reduceLT, Nat.reduceLeDiff, Nat.reduceEqDiff, Nat.reduceBEq, Nat.reduceBNe, Int.reduceBEq, Int.reduceEq, Int.reduceLT, Int.reduceLE, Int.reduceAdd, Int.reduceSub, ↓reduceIte, Int.reduceToNat, Nat.reduceShiftRight, Nat.reduceAnd]
    exact hR _
end Go.HL
