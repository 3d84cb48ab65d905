/-
  Walks: laws, on: what is told is told as before.
-/
import Derived.Test.YtkflilieljojfaaD6
import Derived.Test.YtkflilieljojfaaA12
namespace Go.HL
open Go.RowKit Go.Proofs
set_option maxHeartbeats 4000000
set_option maxRecDepth 100000
set_option linter.unusedSimpArgs false
set_option linter.unusedVariables false

theorem ReachI.perm {T : Things} {roots sn todo todo' : List Nat} (h : ReachI T roots sn todo) (hp : ∀ w, w ∈ todo ↔ w ∈ todo') : ReachI T roots sn todo' :=
  ⟨h.nodup, h.lt, h.sound, fun w hw => h.tsound w ((hp w).2 hw), fun w hw i hi => (h.root w hw i hi).imp id (hp w).1, fun j hj w hw i hi => (h.clos j hj w hw i hi).imp id (hp w).1⟩

theorem nodup_sub : ∀ (a b : List Nat), a.Nodup → (∀ x ∈ a, x ∈ b) → a.length ≤ b.length
  | [], _, _, _ => by simp
  | x :: a, b, hn, h => by
    rw [List.nodup_cons] at hn
    have hx := h x (by simp)
    have := nodup_sub a (b.erase x) hn.2 (fun y hy => (List.mem_erase_of_ne (fun e => hn.1 (by rw [← e]; exact hy))).2 (h y (by simp [hy])))
    rw [List.length_erase_of_mem hx] at this
    have : 0 < b.length := List.length_pos_of_mem hx
    simp only [List.length_cons]; omega
structure SameI (H5 H : HHeap) (T : Things) (F vis ws : List Nat) (tv ov : Value) : Prop where
  qt : QAt H tv ws
  qo : QAt H ov (ws.map (tr T F))
  mt : H.get H5.next = some (.map (mapUU (toP T F vis)))
  mb : H.get (H5.next + 1) = some (.map (mapUU (backP T F vis)))
  keep : ∀ b, b < H5.next → H.get b = H5.get b
  next : H5.next + 2 ≤ H.next
  tsep : ∀ b ∈ sblk tv, H5.next + 2 ≤ b ∧ b < H.next ∧ b ∉ sblk ov
  osep : ∀ b ∈ sblk ov, H5.next + 2 ≤ b ∧ b < H.next
theorem SameI.add {H5 H : HHeap} {T : Things} {F vis ws : List Nat} {tv ov : Value} (h : SameI H5 H T F vis ws tv ov) (p : Nat) (hl : ws.length + 1 ≤ 1000000) :
    ∃ tv' Ha ov' Hb, apd (H.push (.cells [U p] true)) 1 8 tv ([U p], 1) = some (tv', Ha) ∧ apd (Ha.push (.cells [U (tr T F p)] true)) 1 8 ov ([U (tr T F p)], 1) = some (ov', Hb) ∧
      SameI H5 Hb T F vis (ws ++ [p]) tv' ov' := by
  have hn := h.next
  obtain ⟨tv', Ha, q1, q2, q3, q4, q5⟩ := h.qt.add (fun b hb => (h.tsep b hb).2.1) p hl
  have ho : QAt Ha ov (ws.map (tr T F)) := h.qo.frame fun b hb => q4 b (h.osep b hb).2 (fun hm => (h.tsep b hm).2.2 hb)
  obtain ⟨ov', Hb, r1, r2, r3, r4, r5⟩ := ho.add (fun b hb => by have := (h.osep b hb).2; omega) (tr T F p) (by simpa using hl)
  have hto : ∀ b ∈ sblk tv', b ∉ sblk ov := fun b hb hm => by have := (q5 b hb).1; have := (h.osep b hm).2; omega
  refine ⟨tv', Ha, ov', Hb, q1, r1, q2.frame (fun b hb => r4 b (q5 b hb).2 (hto b hb)), by simpa using r2, ?_, ?_, ?_, by omega, ?_, ?_⟩
  · rw [r4 _ (by omega) (fun hm => by have := (h.osep _ hm).1; omega), q4 _ (by omega) (fun hm => by have := (h.tsep _ hm).1; omega)]; exact h.mt
  · rw [r4 _ (by omega) (fun hm => by have := (h.osep _ hm).1; omega), q4 _ (by omega) (fun hm => by have := (h.tsep _ hm).1; omega)]; exact h.mb
  · intro b hb
    rw [r4 _ (by omega) (fun hm => by have := (h.osep _ hm).1; omega), q4 _ (by omega) (fun hm => by have := (h.tsep _ hm).1; omega)]; exact h.keep b hb
  · intro b hb
    have := q5 b hb
    exact ⟨by omega, by omega, fun hm => by have := (r5 b hm).1; omega⟩
  · intro b hb
    have := r5 b hb
    exact ⟨by omega, by omega⟩

theorem law_MoveSame (H : HHeap) (v : Value) (roots0 : List Nat) (hv : HeapArg H v roots0) (R : Value → HHeap → Prop) (hR : ∀ H', R (.bool true) H') : HCalls Try.prog 4 [v] H R := by
  refine HCalls.ok fun hok => ?_
  have hv1 := hv
  obtain ⟨⟨size, tv0, rv0, kk, cells, rfl, _, ⟨_, _, ta, tc, rfl, _⟩, ⟨_, _, ra, rc, rfl, _⟩, _⟩, _⟩ := hv1
  refine HCalls.of_hw Try.func4 rfl _ Try.ntmps4 _ (by rw [Try.results4]) ?_
  rw [hframe0_eq _ _ (by simp)]
  simp only [List.zipIdx_cons, List.zipIdx_nil, List.map_cons, List.map_nil, Nat.reduceAdd]
  simp (disch := first | omega | (show allOne _ = true; simp [allOne, Value.oneCell']) | (simp only [List.length_cons, List.length_nil, List.length_set, List.length_map, List.length_replicate, List.length_append, List.length_take, List.length_drop, Int.toNat_natCast, Int.toNat_of_nonneg, nx_push, nx_set, nx_kill]; done) | (simp only [List.length_cons, List.length_nil, List.length_set, List.length_map, List.length_replicate, List.length_append, List.length_take, List.length_drop, Int.toNat_natCast, Int.toNat_of_nonneg, nx_push, nx_set, nx_kill]; omega)) only [go_sem, reduceCtorEq, Nat.reduceAdd, Nat.reduceSub, Nat.reduceMul, Nat.reduceLT, Nat.reduceLeDiff, Nat.reduceEqDiff, Nat.reduceBEq, Nat.reduceBNe, Int.reduceBEq, Int.reduceEq, Int.reduceLT, Int.reduceLE, Int.reduceAdd, Int.reduceSub, ↓reduceIte, Int.reduceToNat, Nat.reduceShiftRight, Nat.reduceAnd, hbox_agg]
  refine law_shown _ _ ?_
  intro H0 hk0 hn0
  rw [nx_push] at hk0 hn0
  have hb0 : H0.get H.next = some (.cells [I size, .slice ta kk tc, .slice ra roots0.length rc] true) := by rw [hk0 _ (by omega)]; simp (disch := first | omega | (simp only [nx_push, nx_set, nx_kill]; done) | (simp only [nx_push, nx_set, nx_kill]; omega)) only [get_push_ne, get_push_eq, get_set_ne, get_set_eq, get_kill_ne, nx_push, nx_set, nx_kill]
  have hv0 : HeapArg H0 (.agg #[I size, .slice ta kk tc, .slice ra roots0.length rc]) roots0 := hv.old hok (fun b hb => by rw [hk0 b (by omega)]; simp (disch := first | omega | (simp only [nx_push, nx_set, nx_kill]; done) | (simp only [nx_push, nx_set, nx_kill]; omega)) only [get_push_ne, get_push_eq, get_set_ne, get_set_eq, get_kill_ne, nx_push, nx_set, nx_kill])
  have h3 : ∀ x y z : Value, ([x, y, z].drop 0).take 3 = [x, y, z] := fun _ _ _ => rfl
  simp (disch := first | omega | (show allOne _ = true; simp [allOne, Value.oneCell']) | (simp only [List.length_cons, List.length_nil, List.length_set, List.length_map, List.length_replicate, List.length_append, List.length_take, List.length_drop, Int.toNat_natCast, Int.toNat_of_nonneg, nx_push, nx_set, nx_kill]; done) | (simp only [List.length_cons, List.length_nil, List.length_set, List.length_map, List.length_replicate, List.length_append, List.length_take, List.length_drop, Int.toNat_natCast, Int.toNat_of_nonneg, nx_push, nx_set, nx_kill]; omega)) only [go_sem, reduceCtorEq, Nat.reduceAdd, Nat.reduceSub, Nat.reduceMul, Nat.reduceLT, Nat.reduceLeDiff, Nat.reduceEqDiff, Nat.reduceBEq, Nat.reduceBNe, Int.reduceBEq, Int.reduceEq, Int.reduceLT, Int.reduceLE, Int.reduceAdd, Int.reduceSub, ↓reduceIte, Int.reduceToNat, Nat.reduceShiftRight, Nat.reduceAnd, hb0, lda_cells, h3]
  refine law_build _ _ roots0 hv0 _ ?_
  intro H1 n g gw gh gr T tv lvs rv n1 n2 hA hRf hrv hk1 hn1 hg hsep
  simp (disch := first | omega | (show allOne _ = true; simp [allOne, Value.oneCell']) | (simp only [List.length_cons, List.length_nil, List.length_set, List.length_map, List.length_replicate, List.length_append, List.length_take, List.length_drop, Int.toNat_natCast, Int.toNat_of_nonneg, nx_push, nx_set, nx_kill]; done) | (simp only [List.length_cons, List.length_nil, List.length_set, List.length_map, List.length_replicate, List.length_append, List.length_take, List.length_drop, Int.toNat_natCast, Int.toNat_of_nonneg, nx_push, nx_set, nx_kill]; omega)) only [go_sem, reduceCtorEq, Nat.reduceAdd, Nat.reduceSub, Nat.reduceMul, Nat.reduceLT, Nat.reduceLeDiff, Nat.reduceEqDiff, Nat.reduceBEq, Nat.reduceBNe, Int.reduceBEq, Int.reduceEq, Int.reduceLT, Int.reduceLE, Int.reduceAdd, Int.reduceSub, ↓reduceIte, Int.reduceToNat, Nat.reduceShiftRight, Nat.reduceAnd]
  generalize hrs : roots0.take 20 = roots at hrv
  have hrt : ∀ x ∈ roots, x < 18446744073709551616 := fun x hx => hv.lt x (by rw [← hrs] at hx; exact List.mem_of_mem_take hx)
  have hr20 : roots.length ≤ 20 := by rw [← hrs]; simp; omega
  have hru := hA.room
  have hbig : usedOf T ≤ 65536 := by omega
  refine HCalls.ok fun hok1 => ?_
  refine HCalls.gotOk (move_Live _ _ _ _ _ _ hA (hA.lt hok1) _ _ (hrv.row hok1) hrt (by omega) _ ?_)
  intro H5 g' gw' gh' v5 hB hV hk5 hn5 hnew hlt5 hvb hok5 _
  simp (disch := first | omega | (show allOne _ = true; simp [allOne, Value.oneCell']) | (simp only [List.length_cons, List.length_nil, List.length_set, List.length_map, List.length_replicate, List.length_append, List.length_take, List.length_drop, Int.toNat_natCast, Int.toNat_of_nonneg, nx_push, nx_set, nx_kill]; done) | (simp only [List.length_cons, List.length_nil, List.length_set, List.length_map, List.length_replicate, List.length_append, List.length_take, List.length_drop, Int.toNat_natCast, Int.toNat_of_nonneg, nx_push, nx_set, nx_kill]; omega)) only [go_sem, reduceCtorEq, Nat.reduceAdd, Nat.reduceSub, Nat.reduceMul, Nat.reduceLT, Nat.reduceLeDiff, Nat.reduceEqDiff, Nat.reduceBEq, Nat.reduceBNe, Int.reduceBEq, Int.reduceEq, Int.reduceLT, Int.reduceLE, Int.reduceAdd, Int.reduceSub, ↓reduceIte, Int.reduceToNat, Nat.reduceShiftRight, Nat.reduceAnd]
  have hM := moved hbig hrt
  have hcl := bfs_closed T roots
  have hrF : ∀ w ∈ roots, ∀ i, findI T w = some i → i ∈ bfs T roots := fun w hw i hi => bfs_root hw hi
  have hvs := hV.rowS
  have hrv5 : RowS H5 rv (roots.map U) := hrv.old hok1 hk5
  have hA5 : AtA H5 g gw gh n T := hA.frame (by rintro b (rfl | rfl | rfl) <;> exact hk5 _ (hok1 _ _ (by first | exact hA.a | exact hA.w | exact hA.h)))
  obtain ⟨lg1, lg2, lg3⟩ := hA5.lt hok5
  obtain ⟨lh1, lh2, lh3⟩ := hlt5
  obtain ⟨a5, c5, hv5, _⟩ := id hvs
  rw [show ((roots.map (tr T (bfs T roots))).map U).length = roots.length by simp] at hv5
  subst hv5
  obtain ⟨ra1, rc1, hrv1, _⟩ := id hrv5
  rw [show (roots.map U).length = roots.length by simp] at hrv1
  subst hrv1
  have hsr := (hrv5.row hok5).source (H' := ((H5.push (.map [])).push (.map [])).push (.cells [] true)) (fun b hb => by simp (disch := first | omega | (simp only [nx_push, nx_set, nx_kill]; done) | (simp only [nx_push, nx_set, nx_kill]; omega)) only [get_push_ne, get_push_eq, get_set_ne, get_set_eq, get_kill_ne, nx_push, nx_set, nx_kill])
  obtain ⟨tv1, Ha, q1, q2, q3, q4, q5⟩ := QAt.start ((H5.push (.map [])).push (.map [])) roots (by omega)
  have hso := (hvs.row hok5).source (H' := Ha.push (.cells [] true)) (fun b hb => by
    rw [nx_push, nx_push] at q3 q4
    rw [get_push_ne _ _ (by omega), q4 b (by omega)]; simp (disch := first | omega | (simp only [nx_push, nx_set, nx_kill]; done) | (simp only [nx_push, nx_set, nx_kill]; omega)) only [get_push_ne, get_push_eq, get_set_ne, get_set_eq, get_kill_ne, nx_push, nx_set, nx_kill])
  obtain ⟨ov1, Hb, r1, r2, r3, r4, r5⟩ := QAt.start Ha (roots.map (tr T (bfs T roots))) (by simp; omega)
  simp only [nx_push] at q1 q3 q4 q5
  simp (disch := first | omega | (show allOne _ = true; simp [allOne, Value.oneCell']) | (simp only [List.length_cons, List.length_nil, List.length_set, List.length_map, List.length_replicate, List.length_append, List.length_take, List.length_drop, Int.toNat_natCast, Int.toNat_of_nonneg, nx_push, nx_set, nx_kill]; done) | (simp only [List.length_cons, List.length_nil, List.length_set, List.length_map, List.length_replicate, List.length_append, List.length_take, List.length_drop, Int.toNat_natCast, Int.toNat_of_nonneg, nx_push, nx_set, nx_kill]; omega)) only [go_sem, reduceCtorEq, Nat.reduceAdd, Nat.reduceSub, Nat.reduceMul, Nat.reduceLT, Nat.reduceLeDiff, Nat.reduceEqDiff, Nat.reduceBEq, Nat.reduceBNe, Int.reduceBEq, Int.reduceEq, Int.reduceLT, Int.reduceLE, Int.reduceAdd, Int.reduceSub, ↓reduceIte, Int.reduceToNat, Nat.reduceShiftRight, Nat.reduceAnd, hsr, q1, hso, r1]
  have hFl : (bfs T roots).length ≤ T.length := nodup_le _ hcl.nodup hcl.lt
  have hTl := length_le_used T
  have hsF := sumR_le T _ hcl.nodup hcl.lt
  refine Hwp.loop (fun m fr H' => ∃ vis ws tv ov, m = ((bfs T roots).length - vis.length) * 256 + ws.length ∧ ReachI T roots vis ws ∧ ws.length ≤ 20 + sumR T vis ∧ (∀ w ∈ ws, w < 18446744073709551616) ∧ SameI H5 H' T (bfs T roots) vis ws tv ov ∧
      FLe (hfr 183 [(13, I (sumR T vis)), (12, ov), (11, tv), (10, .map (some (H5.next + 1))), (9, .map (some H5.next)), (8, .slice a5 roots.length c5), (7, ptr g' 0), (6, .slice ra1 roots.length rc1), (4, ptr g 0), (3, .bool true)]) fr) ((bfs T roots).length * 256 + roots.length) ?_ ?_
  · refine ⟨[], roots, tv1, ov1, by simp, ReachI.start T roots, by omega, hrt, ⟨q2.frame (fun b hb => r4 b (q5 b hb).2), r2, ?_, ?_, ?_, by omega, ?_, ?_⟩, fle_of (by simp [flook, sumR])⟩
    · rw [r4 _ (by omega), q4 _ (by omega)]; simp (disch := first | omega | (simp only [nx_push, nx_set, nx_kill]; done) | (simp only [nx_push, nx_set, nx_kill]; omega)) only [get_push_ne, get_push_eq, get_set_ne, get_set_eq, get_kill_ne, nx_push, nx_set, nx_kill]; rfl
    · rw [r4 _ (by omega), q4 _ (by omega)]; simp (disch := first | omega | (simp only [nx_push, nx_set, nx_kill]; done) | (simp only [nx_push, nx_set, nx_kill]; omega)) only [get_push_ne, get_push_eq, get_set_ne, get_set_eq, get_kill_ne, nx_push, nx_set, nx_kill]; rfl
    · intro b hb; rw [r4 _ (by omega), q4 _ (by omega)]; simp (disch := first | omega | (simp only [nx_push, nx_set, nx_kill]; done) | (simp only [nx_push, nx_set, nx_kill]; omega)) only [get_push_ne, get_push_eq, get_set_ne, get_set_eq, get_kill_ne, nx_push, nx_set, nx_kill]
    · intro b hb
      have := q5 b hb
      exact ⟨by omega, by omega, fun hm => by have := r5 b hm; omega⟩
    · intro b hb
      have := r5 b hb
      exact ⟨by omega, by omega⟩
  · rintro m fr H' ⟨vis, ws, tv, ov, rfl, hI, hwl, hw64, hS, hle⟩
    refine Hwp.ok fun hok' => Hwp.weaken hle (HW.sound _ _ _ _ ?_)
    have hvF : ∀ i ∈ vis, i ∈ bfs T roots := fun i hi => (bfs_mem T roots i).2 (hI.sound i hi)
    have hvs' := sumR_mono (T := T) vis _ hI.nodup hvF
    have hA' : AtA H' g gw gh n T := hA5.frame (by rintro b (rfl | rfl | rfl) <;> exact hS.keep _ (by omega))
    have hB' : AtA H' g' gw' gh' n (outT T (bfs T roots)) := hB.frame (by rintro b (rfl | rfl | rfl) <;> exact hS.keep _ (by omega))
    cases ws with
    | nil =>
      obtain ⟨tb, to, tk, rfl⟩ := hS.qt.len
      simp (disch := first | omega | (show allOne _ = true; simp [allOne, Value.oneCell']) | (simp only [List.length_cons, List.length_nil, List.length_set, List.length_map, List.length_replicate, List.length_append, List.length_take, List.length_drop, Int.toNat_natCast, Int.toNat_of_nonneg, nx_push, nx_set, nx_kill]; done) | (simp only [List.length_cons, List.length_nil, List.length_set, List.length_map, List.length_replicate, List.length_append, List.length_take, List.length_drop, Int.toNat_natCast, Int.toNat_of_nonneg, nx_push, nx_set, nx_kill]; omega)) only [go_sem, reduceCtorEq, Nat.reduceAdd, Nat.reduceSub, Nat.reduceMul, Nat.reduceLT, Nat.reduceLeDiff, Nat.reduceEqDiff, Nat.reduceBEq, Nat.reduceBNe, Int.reduceBEq, Int.reduceEq, Int.reduceLT, Int.reduceLE, Int.reduceAdd, Int.reduceSub, ↓reduceIte, Int.reduceToNat, Nat.reduceShiftRight, Nat.reduceAnd, List.length_nil]
      have hfin := hI.finish
      refine arena_Used _ _ _ _ _ _ hB' _ ?_
      rw [outT_used, ← hfin]
      simp (disch := first | omega | (show allOne _ = true; simp [allOne, Value.oneCell']) | (simp only [List.length_cons, List.length_nil, List.length_set, List.length_map, List.length_replicate, List.length_append, List.length_take, List.length_drop, Int.toNat_natCast, Int.toNat_of_nonneg, nx_push, nx_set, nx_kill]; done) | (simp only [List.length_cons, List.length_nil, List.length_set, List.length_map, List.length_replicate, List.length_append, List.length_take, List.length_drop, Int.toNat_natCast, Int.toNat_of_nonneg, nx_push, nx_set, nx_kill]; omega)) only [go_sem, reduceCtorEq, Nat.reduceAdd, Nat.reduceSub, Nat.reduceMul, Nat.reduceLT, Nat.reduceLeDiff, Nat.reduceEqDiff, Nat.reduceBEq, Nat.reduceBNe, Int.reduceBEq, Int.reduceEq, Int.reduceLT, Int.reduceLE, Int.reduceAdd, Int.reduceSub, ↓reduceIte, Int.reduceToNat, Nat.reduceShiftRight, Nat.reduceAnd]
      refine HCalls.gotOk (move_Reach _ _ _ _ _ _ hA' (hA'.lt hok') _ _ ((hrv5.old hok5 hS.keep).row hok') hrt (by omega) _ ?_)
      intro H8 hk8 hn8 hok8 _
      rw [← hfin]
      simp (disch := first | omega | (show allOne _ = true; simp [allOne, Value.oneCell']) | (simp only [List.length_cons, List.length_nil, List.length_set, List.length_map, List.length_replicate, List.length_append, List.length_take, List.length_drop, Int.toNat_natCast, Int.toNat_of_nonneg, nx_push, nx_set, nx_kill]; done) | (simp only [List.length_cons, List.length_nil, List.length_set, List.length_map, List.length_replicate, List.length_append, List.length_take, List.length_drop, Int.toNat_natCast, Int.toNat_of_nonneg, nx_push, nx_set, nx_kill]; omega)) only [go_sem, reduceCtorEq, Nat.reduceAdd, Nat.reduceSub, Nat.reduceMul, Nat.reduceLT, Nat.reduceLeDiff, Nat.reduceEqDiff, Nat.reduceBEq, Nat.reduceBNe, Int.reduceBEq, Int.reduceEq, Int.reduceLT, Int.reduceLE, Int.reduceAdd, Int.reduceSub, ↓reduceIte, Int.reduceToNat, Nat.reduceShiftRight, Nat.reduceAnd]
      have hk8' : ∀ b, b < H5.next → H8.get b = H5.get b := fun b hb => by rw [hk8 b (by have := hS.next; omega)]; exact hS.keep b hb
      have hB8 : AtA H8 g' gw' gh' n (outT T (bfs T roots)) := hB.frame (by rintro b (rfl | rfl | rfl) <;> exact hk8' _ (by omega))
      refine move_Reach _ _ _ _ _ _ hB8 (hB8.lt hok8) _ _ ((hvs.old hok5 hk8').row hok8) hM.lt (by rw [hM.len]; omega) _ ?_
      intro H9 hk9 hn9
      rw [hM.range, sumR_range _ _ (Nat.le_refl _)]
      unfold placeOf
      rw [List.take_length, outT_used, ← hfin]
      simp (disch := first | omega | (show allOne _ = true; simp [allOne, Value.oneCell']) | (simp only [List.length_cons, List.length_nil, List.length_set, List.length_map, List.length_replicate, List.length_append, List.length_take, List.length_drop, Int.toNat_natCast, Int.toNat_of_nonneg, nx_push, nx_set, nx_kill]; done) | (simp only [List.length_cons, List.length_nil, List.length_set, List.length_map, List.length_replicate, List.length_append, List.length_take, List.length_drop, Int.toNat_natCast, Int.toNat_of_nonneg, nx_push, nx_set, nx_kill]; omega)) only [go_sem, reduceCtorEq, Nat.reduceAdd, Nat.reduceSub, Nat.reduceMul, Nat.reduceLT, Nat.reduceLeDiff, Nat.reduceEqDiff, Nat.reduceBEq, Nat.reduceBNe, Int.reduceBEq, Int.reduceEq, Int.reduceLT, Int.reduceLE, Int.reduceAdd, Int.reduceSub, ↓reduceIte, Int.reduceToNat, Nat.reduceShiftRight, Nat.reduceAnd]
      exact hR _
    | cons x ws =>
      obtain ⟨tb, to, tk, tcs, ht1, ht2, ht3⟩ := hS.qt.head
      obtain ⟨ob, oo, ok_, ocs, ho1, ho2, ho3⟩ := QAt.head (l := ws.map (tr T (bfs T roots))) hS.qo
      obtain ⟨tv2, ht4, ht5, ht6, ta2, ht7⟩ := hS.qt.pop Try.underlying23 sz42
      obtain ⟨ov2, ho4, ho5, ho6, oa2, ho7⟩ := QAt.pop (l := ws.map (tr T (bfs T roots))) Try.underlying23 sz42 hS.qo
      rw [List.length_map] at ho1 ho7
      subst ht1 ho1 
      have hx64 := hw64 x (by simp)
      have hxF : ∀ i, findI T x = some i → i ∈ bfs T roots := fun i hi => (bfs_mem T roots i).2 (hI.tsound x (by simp) i hi)
      have hy64 : tr T (bfs T roots) x < 18446744073709551616 := tr_lt hcl.nodup hcl.lt hbig hx64 hxF
      have hth := tr_thing hcl hbig hxF
      simp (disch := first | omega | (show allOne _ = true; simp [allOne, Value.oneCell']) | (simp only [List.length_cons, List.length_nil, List.length_set, List.length_map, List.length_replicate, List.length_append, List.length_take, List.length_drop, Int.toNat_natCast, Int.toNat_of_nonneg, nx_push, nx_set, nx_kill]; done) | (simp only [List.length_cons, List.length_nil, List.length_set, List.length_map, List.length_replicate, List.length_append, List.length_take, List.length_drop, Int.toNat_natCast, Int.toNat_of_nonneg, nx_push, nx_set, nx_kill]; omega)) only [go_sem, reduceCtorEq, Nat.reduceAdd, Nat.reduceSub, Nat.reduceMul, Nat.reduceLT, Nat.reduceLeDiff, Nat.reduceEqDiff, Nat.reduceBEq, Nat.reduceBNe, Int.reduceBEq, Int.reduceEq, Int.reduceLT, Int.reduceLE, Int.reduceAdd, Int.reduceSub, ↓reduceIte, Int.reduceToNat, Nat.reduceShiftRight, Nat.reduceAnd]
      refine Hwp.drawn mixed [0, 1, 3, 0, 8, 24, 7, 127] (.op 0 (.op 1 (.op 2 (.op 3 (.op 4 (.op 5 (.op 6 (.op 7 .done)))))))) (by kernel_rfl) ?_
      simp (disch := first | omega | (show allOne _ = true; simp [allOne, Value.oneCell']) | (simp only [List.length_cons, List.length_nil, List.length_set, List.length_map, List.length_replicate, List.length_append, List.length_take, List.length_drop, Int.toNat_natCast, Int.toNat_of_nonneg, nx_push, nx_set, nx_kill]; done) | (simp only [List.length_cons, List.length_nil, List.length_set, List.length_map, List.length_replicate, List.length_append, List.length_take, List.length_drop, Int.toNat_natCast, Int.toNat_of_nonneg, nx_push, nx_set, nx_kill]; omega)) only [go_sem, reduceCtorEq, Nat.reduceAdd, Nat.reduceSub, Nat.reduceMul, Nat.reduceLT, Nat.reduceLeDiff, Nat.reduceEqDiff, Nat.reduceBEq, Nat.reduceBNe, Int.reduceBEq, Int.reduceEq, Int.reduceLT, Int.reduceLE, Int.reduceAdd, Int.reduceSub, ↓reduceIte, Int.reduceToNat, Nat.reduceShiftRight, Nat.reduceAnd, ixa_ok, ldc_cells, ht2, ht3, ho2, ho3]
      refine Hwp.drawn mixed [0, 1, 0, 4, 3, 31] (.op 0 (.op 1 (.op 2 (.op 3 (.op 4 (.op 5 .done)))))) (by kernel_rfl) ?_
      simp (disch := first | omega | (show allOne _ = true; simp [allOne, Value.oneCell']) | (simp only [List.length_cons, List.length_nil, List.length_set, List.length_map, List.length_replicate, List.length_append, List.length_take, List.length_drop, Int.toNat_natCast, Int.toNat_of_nonneg, nx_push, nx_set, nx_kill]; done) | (simp only [List.length_cons, List.length_nil, List.length_set, List.length_map, List.length_replicate, List.length_append, List.length_take, List.length_drop, Int.toNat_natCast, Int.toNat_of_nonneg, nx_push, nx_set, nx_kill]; omega)) only [go_sem, reduceCtorEq, Nat.reduceAdd, Nat.reduceSub, Nat.reduceMul, Nat.reduceLT, Nat.reduceLeDiff, Nat.reduceEqDiff, Nat.reduceBEq, Nat.reduceBNe, Int.reduceBEq, Int.reduceEq, Int.reduceLT, Int.reduceLE, Int.reduceAdd, Int.reduceSub, ↓reduceIte, Int.reduceToNat, Nat.reduceShiftRight, Nat.reduceAnd, ht4, ho4]
      subst ht7 ho7
      have hS2 : SameI H5 H' T (bfs T roots) vis ws (.slice ta2 ws.length ws.length) (.slice oa2 ws.length ws.length) :=
        ⟨ht5, ho5, hS.mt, hS.mb, hS.keep, hS.next, fun b hb => by rw [ht6] at hb; rw [ho6]; exact hS.tsep b hb, fun b hb => by rw [ho6] at hb; exact hS.osep b hb⟩
      have hI2 : ReachI T roots vis (ws ++ [x]) := hI.perm (fun w => by simp [or_comm])
      simp only [List.length_cons] at hwl
      refine arena_Kind _ _ _ _ _ _ hA' x hx64 _ ?_
      simp (disch := first | omega | (show allOne _ = true; simp [allOne, Value.oneCell']) | (simp only [List.length_cons, List.length_nil, List.length_set, List.length_map, List.length_replicate, List.length_append, List.length_take, List.length_drop, Int.toNat_natCast, Int.toNat_of_nonneg, nx_push, nx_set, nx_kill]; done) | (simp only [List.length_cons, List.length_nil, List.length_set, List.length_map, List.length_replicate, List.length_append, List.length_take, List.length_drop, Int.toNat_natCast, Int.toNat_of_nonneg, nx_push, nx_set, nx_kill]; omega)) only [go_sem, reduceCtorEq, Nat.reduceAdd, Nat.reduceSub, Nat.reduceMul, Nat.reduceLT, Nat.reduceLeDiff, Nat.reduceEqDiff, Nat.reduceBEq, Nat.reduceBNe, Int.reduceBEq, Int.reduceEq, Int.reduceLT, Int.reduceLE, Int.reduceAdd, Int.reduceSub, ↓reduceIte, Int.reduceToNat, Nat.reduceShiftRight, Nat.reduceAnd]
      refine arena_Kind _ _ _ _ _ _ hB' _ hy64 _ ?_
      cases hf : findT T x with
      | none =>
        have hfi : findI T x = none := by
          cases e : findI T x with
          | none => rfl
          | some i => rw [findT_findI, e, Option.bind_some, List.getElem?_eq_getElem (findI_lt e)] at hf; cases hf
        rw [hf] at hth
        have k1 : kindN T x = 0 := by unfold kindN; rw [hf]
        have k2 : kindN (outT T (bfs T roots)) (tr T (bfs T roots) x) = 0 := by unfold kindN; rw [hth]; rfl
        have hb1 : bareN x = tr T (bfs T roots) x := by unfold tr bareN; rw [hfi]
        rw [k1, k2]
        simp (disch := first | omega | (show allOne _ = true; simp [allOne, Value.oneCell']) | (simp only [List.length_cons, List.length_nil, List.length_set, List.length_map, List.length_replicate, List.length_append, List.length_take, List.length_drop, Int.toNat_natCast, Int.toNat_of_nonneg, nx_push, nx_set, nx_kill]; done) | (simp only [List.length_cons, List.length_nil, List.length_set, List.length_map, List.length_replicate, List.length_append, List.length_take, List.length_drop, Int.toNat_natCast, Int.toNat_of_nonneg, nx_push, nx_set, nx_kill]; omega)) only [go_sem, reduceCtorEq, Nat.reduceAdd, Nat.reduceSub, Nat.reduceMul, Nat.reduceLT, Nat.reduceLeDiff, Nat.reduceEqDiff, Nat.reduceBEq, Nat.reduceBNe, Int.reduceBEq, Int.reduceEq, Int.reduceLT, Int.reduceLE, Int.reduceAdd, Int.reduceSub, ↓reduceIte, Int.reduceToNat, Nat.reduceShiftRight, Nat.reduceAnd]
        refine arena_Kind _ _ _ _ _ _ hA' x hx64 _ ?_
        rw [k1]
        simp (disch := first | omega | (show allOne _ = true; simp [allOne, Value.oneCell']) | (simp only [List.length_cons, List.length_nil, List.length_set, List.length_map, List.length_replicate, List.length_append, List.length_take, List.length_drop, Int.toNat_natCast, Int.toNat_of_nonneg, nx_push, nx_set, nx_kill]; done) | (simp only [List.length_cons, List.length_nil, List.length_set, List.length_map, List.length_replicate, List.length_append, List.length_take, List.length_drop, Int.toNat_natCast, Int.toNat_of_nonneg, nx_push, nx_set, nx_kill]; omega)) only [go_sem, reduceCtorEq, Nat.reduceAdd, Nat.reduceSub, Nat.reduceMul, Nat.reduceLT, Nat.reduceLeDiff, Nat.reduceEqDiff, Nat.reduceBEq, Nat.reduceBNe, Int.reduceBEq, Int.reduceEq, Int.reduceLT, Int.reduceLE, Int.reduceAdd, Int.reduceSub, ↓reduceIte, Int.reduceToNat, Nat.reduceShiftRight, Nat.reduceAnd]
        refine law_bare x hx64 _ _ ?_
        rw [hb1]
        simp (disch := first | omega | (show allOne _ = true; simp [allOne, Value.oneCell']) | (simp only [List.length_cons, List.length_nil, List.length_set, List.length_map, List.length_replicate, List.length_append, List.length_take, List.length_drop, Int.toNat_natCast, Int.toNat_of_nonneg, nx_push, nx_set, nx_kill]; done) | (simp only [List.length_cons, List.length_nil, List.length_set, List.length_map, List.length_replicate, List.length_append, List.length_take, List.length_drop, Int.toNat_natCast, Int.toNat_of_nonneg, nx_push, nx_set, nx_kill]; omega)) only [go_sem, reduceCtorEq, Nat.reduceAdd, Nat.reduceSub, Nat.reduceMul, Nat.reduceLT, Nat.reduceLeDiff, Nat.reduceEqDiff, Nat.reduceBEq, Nat.reduceBNe, Int.reduceBEq, Int.reduceEq, Int.reduceLT, Int.reduceLE, Int.reduceAdd, Int.reduceSub, ↓reduceIte, Int.reduceToNat, Nat.reduceShiftRight, Nat.reduceAnd]
        refine ⟨_, ?_, vis, ws, _, _, rfl, hI2.skip (fun i hi => by rw [hfi] at hi; cases hi), by omega, fun w hw => hw64 w (by simp [hw]), hS2, fle_of (by simp [flook])⟩
        simp only [List.length_cons]; omega
      | some t =>
        obtain ⟨i, hfi⟩ : ∃ i, findI T x = some i := by
          cases e : findI T x with
          | none => rw [findT_findI, e] at hf; cases hf
          | some i => exact ⟨i, rfl⟩
        have hti : T[i]? = some t := by rw [findT_findI, hfi, Option.bind_some] at hf; exact hf
        have hiF := hxF i hfi
        have htok := hA.ok t (List.mem_of_getElem? hti)
        have hwi : wordsI T i = t.l := by unfold wordsI; rw [hti]
        have htk1 := htok.k1
        have htlen := htok.len
        rw [hf, Option.map_some] at hth
        have k1 : kindN T x = t.kind := by unfold kindN; rw [hf]
        have k2 : kindN (outT T (bfs T roots)) (tr T (bfs T roots) x) = t.kind := by unfold kindN; rw [hth]
        have n1' : lenN T x = t.l.length := by unfold lenN; rw [hf]
        have n2' : lenN (outT T (bfs T roots)) (tr T (bfs T roots) x) = t.l.length := by unfold lenN; rw [hth]; simp
        have lk1 := toP_look hcl hvF hfi hiF
        have lk2 := backP_look hcl hvF hfi hiF
        rw [k1, k2]
        simp (disch := first | omega | (show allOne _ = true; simp [allOne, Value.oneCell']) | (simp only [List.length_cons, List.length_nil, List.length_set, List.length_map, List.length_replicate, List.length_append, List.length_take, List.length_drop, Int.toNat_natCast, Int.toNat_of_nonneg, nx_push, nx_set, nx_kill]; done) | (simp only [List.length_cons, List.length_nil, List.length_set, List.length_map, List.length_replicate, List.length_append, List.length_take, List.length_drop, Int.toNat_natCast, Int.toNat_of_nonneg, nx_push, nx_set, nx_kill]; omega)) only [go_sem, reduceCtorEq, Nat.reduceAdd, Nat.reduceSub, Nat.reduceMul, Nat.reduceLT, Nat.reduceLeDiff, Nat.reduceEqDiff, Nat.reduceBEq, Nat.reduceBNe, Int.reduceBEq, Int.reduceEq, Int.reduceLT, Int.reduceLE, Int.reduceAdd, Int.reduceSub, ↓reduceIte, Int.reduceToNat, Nat.reduceShiftRight, Nat.reduceAnd]
        refine arena_Kind _ _ _ _ _ _ hA' x hx64 _ ?_
        rw [k1]
        by_cases hiv : i ∈ vis
        · rw [if_pos hiv] at lk1 lk2
          have q1 := lk40_some hS.mt lk1
          have q2 := lk40_some hS.mb lk2
          simp (disch := first | omega | (show allOne _ = true; simp [allOne, Value.oneCell']) | (simp only [List.length_cons, List.length_nil, List.length_set, List.length_map, List.length_replicate, List.length_append, List.length_take, List.length_drop, Int.toNat_natCast, Int.toNat_of_nonneg, nx_push, nx_set, nx_kill]; done) | (simp only [List.length_cons, List.length_nil, List.length_set, List.length_map, List.length_replicate, List.length_append, List.length_take, List.length_drop, Int.toNat_natCast, Int.toNat_of_nonneg, nx_push, nx_set, nx_kill]; omega)) only [go_sem, reduceCtorEq, Nat.reduceAdd, Nat.reduceSub, Nat.reduceMul, Nat.reduceLT, Nat.reduceLeDiff, Nat.reduceEqDiff, Nat.reduceBEq, Nat.reduceBNe, Int.reduceBEq, Int.reduceEq, Int.reduceLT, Int.reduceLE, Int.reduceAdd, Int.reduceSub, ↓reduceIte, Int.reduceToNat, Nat.reduceShiftRight, Nat.reduceAnd, q1, q2]
          refine ⟨_, ?_, vis, ws, _, _, rfl, hI2.skip (fun j hj => by rw [hfi] at hj; cases hj; exact hiv), by omega, fun w hw => hw64 w (by simp [hw]), hS2, fle_of (by simp [flook])⟩
          simp only [List.length_cons]; omega
        · rw [if_neg hiv] at lk1 lk2
          have q1 := lk40_none hS.mt lk1
          have q2 := lk40_none hS.mb lk2
          have u1 := mu40 (v := tr T (bfs T roots) x) hS.mt lk1
          have u2 : ∀ o, hmapUpdate Try.prog (H'.set H5.next o) 40 (.map (some (H5.next + 1))) (.int .u64 (tr T (bfs T roots) x : Int)) (.int .u64 (x : Int)) = some ((H'.set H5.next o).set (H5.next + 1) (.map (mapUU (backP T (bfs T roots) vis ++ [(tr T (bfs T roots) x, x)])))) := fun o =>
            mu40 (by simp (disch := first | omega | (simp only [nx_push, nx_set, nx_kill]; done) | (simp only [nx_push, nx_set, nx_kill]; omega)) only [get_push_ne, get_push_eq, get_set_ne, get_set_eq, get_kill_ne, nx_push, nx_set, nx_kill]; exact hS.mb) lk2
          simp (disch := first | omega | (show allOne _ = true; simp [allOne, Value.oneCell']) | (simp only [List.length_cons, List.length_nil, List.length_set, List.length_map, List.length_replicate, List.length_append, List.length_take, List.length_drop, Int.toNat_natCast, Int.toNat_of_nonneg, nx_push, nx_set, nx_kill]; done) | (simp only [List.length_cons, List.length_nil, List.length_set, List.length_map, List.length_replicate, List.length_append, List.length_take, List.length_drop, Int.toNat_natCast, Int.toNat_of_nonneg, nx_push, nx_set, nx_kill]; omega)) only [go_sem, reduceCtorEq, Nat.reduceAdd, Nat.reduceSub, Nat.reduceMul, Nat.reduceLT, Nat.reduceLeDiff, Nat.reduceEqDiff, Nat.reduceBEq, Nat.reduceBNe, Int.reduceBEq, Int.reduceEq, Int.reduceLT, Int.reduceLE, Int.reduceAdd, Int.reduceSub, ↓reduceIte, Int.reduceToNat, Nat.reduceShiftRight, Nat.reduceAnd, q1, q2, u1, u2]
          have hrm : roomI T i = 1 + t.l.length := by unfold roomI; rw [hti]; rfl
          have hs13 : ((sumR T vis : Nat) : Int) + (1 + (t.l.length : Int)) = ((sumR T (vis ++ [i]) : Nat) : Int) := by rw [sumR_append, sumR_one, hrm]; omega
          have e1 : toP T (bfs T roots) vis ++ [(x, tr T (bfs T roots) x)] = toP T (bfs T roots) (vis ++ [i]) := by
            unfold toP; rw [List.map_append]
            have := (findI_word hfi).1
            have h2 : tr T (bfs T roots) x = wordAt (placeIn T (bfs T roots) i) := by unfold tr; rw [hfi]
            rw [h2, this]; rfl
          have e2 : backP T (bfs T roots) vis ++ [(tr T (bfs T roots) x, x)] = backP T (bfs T roots) (vis ++ [i]) := by
            unfold backP; rw [List.map_append]
            have := (findI_word hfi).1
            have h2 : tr T (bfs T roots) x = wordAt (placeIn T (bfs T roots) i) := by unfold tr; rw [hfi]
            rw [h2, this]; rfl
          rw [e1, e2]
          have hSn := hS.next
          have hnotin : ∀ b, b < H5.next + 2 → b ∉ sblk (Value.slice ta2 ws.length ws.length) ∧ b ∉ sblk (Value.slice oa2 ws.length ws.length) := fun b hb => ⟨fun hm => by have := (hS2.tsep b hm).1; omega, fun hm => by have := (hS2.osep b hm).1; omega⟩
          have hS3 : SameI H5 ((H'.set H5.next (.map (mapUU (toP T (bfs T roots) (vis ++ [i]))))).set (H5.next + 1) (.map (mapUU (backP T (bfs T roots) (vis ++ [i]))))) T (bfs T roots) (vis ++ [i]) ws (.slice ta2 ws.length ws.length) (.slice oa2 ws.length ws.length) :=
            ⟨hS2.qt.frame fun b hb => by have := (hS2.tsep b hb).1; simp (disch := first | omega | (simp only [nx_push, nx_set, nx_kill]; done) | (simp only [nx_push, nx_set, nx_kill]; omega)) only [get_push_ne, get_push_eq, get_set_ne, get_set_eq, get_kill_ne, nx_push, nx_set, nx_kill], hS2.qo.frame fun b hb => by have := (hS2.osep b hb).1; simp (disch := first | omega | (simp only [nx_push, nx_set, nx_kill]; done) | (simp only [nx_push, nx_set, nx_kill]; omega)) only [get_push_ne, get_push_eq, get_set_ne, get_set_eq, get_kill_ne, nx_push, nx_set, nx_kill], by simp (disch := first | omega | (simp only [nx_push, nx_set, nx_kill]; done) | (simp only [nx_push, nx_set, nx_kill]; omega)) only [get_push_ne, get_push_eq, get_set_ne, get_set_eq, get_kill_ne, nx_push, nx_set, nx_kill], by simp (disch := first | omega | (simp only [nx_push, nx_set, nx_kill]; done) | (simp only [nx_push, nx_set, nx_kill]; omega)) only [get_push_ne, get_push_eq, get_set_ne, get_set_eq, get_kill_ne, nx_push, nx_set, nx_kill], fun b hb => by simp (disch := first | omega | (simp only [nx_push, nx_set, nx_kill]; done) | (simp only [nx_push, nx_set, nx_kill]; omega)) only [get_push_ne, get_push_eq, get_set_ne, get_set_eq, get_kill_ne, nx_push, nx_set, nx_kill]; exact hS2.keep b hb, by simp (disch := first | omega | (simp only [nx_push, nx_set, nx_kill]; done) | (simp only [nx_push, nx_set, nx_kill]; omega)) only [get_push_ne, get_push_eq, get_set_ne, get_set_eq, get_kill_ne, nx_push, nx_set, nx_kill]; exact hSn,
              fun b hb => by have := hS2.tsep b hb; simp (disch := first | omega | (simp only [nx_push, nx_set, nx_kill]; done) | (simp only [nx_push, nx_set, nx_kill]; omega)) only [get_push_ne, get_push_eq, get_set_ne, get_set_eq, get_kill_ne, nx_push, nx_set, nx_kill]; exact this, fun b hb => by have := hS2.osep b hb; simp (disch := first | omega | (simp only [nx_push, nx_set, nx_kill]; done) | (simp only [nx_push, nx_set, nx_kill]; omega)) only [get_push_ne, get_push_eq, get_set_ne, get_set_eq, get_kill_ne, nx_push, nx_set, nx_kill]; exact this⟩
          have hI3 := hI2.more hfi hiv
          rw [hwi] at hI3
          generalize (H'.set H5.next (.map (mapUU (toP T (bfs T roots) (vis ++ [i]))))).set (H5.next + 1) (.map (mapUU (backP T (bfs T roots) (vis ++ [i])))) = H7 at hS3
          have hA7 : AtA H7 g gw gh n T := hA5.frame (by rintro b (rfl | rfl | rfl) <;> exact hS3.keep _ (by omega))
          have hB7 : AtA H7 g' gw' gh' n (outT T (bfs T roots)) := hB.frame (by rintro b (rfl | rfl | rfl) <;> exact hS3.keep _ (by omega))
          refine arena_Len _ _ _ _ _ _ hA7 x hx64 _ ?_
          simp (disch := first | omega | (show allOne _ = true; simp [allOne, Value.oneCell']) | (simp only [List.length_cons, List.length_nil, List.length_set, List.length_map, List.length_replicate, List.length_append, List.length_take, List.length_drop, Int.toNat_natCast, Int.toNat_of_nonneg, nx_push, nx_set, nx_kill]; done) | (simp only [List.length_cons, List.length_nil, List.length_set, List.length_map, List.length_replicate, List.length_append, List.length_take, List.length_drop, Int.toNat_natCast, Int.toNat_of_nonneg, nx_push, nx_set, nx_kill]; omega)) only [go_sem, reduceCtorEq, Nat.reduceAdd, Nat.reduceSub, Nat.reduceMul, Nat.reduceLT, Nat.reduceLeDiff, Nat.reduceEqDiff, Nat.reduceBEq, Nat.reduceBNe, Int.reduceBEq, Int.reduceEq, Int.reduceLT, Int.reduceLE, Int.reduceAdd, Int.reduceSub, ↓reduceIte, Int.reduceToNat, Nat.reduceShiftRight, Nat.reduceAnd]
          refine arena_Len _ _ _ _ _ _ hB7 _ hy64 _ ?_
          rw [n1', n2']
          simp (disch := first | omega | (show allOne _ = true; simp [allOne, Value.oneCell']) | (simp only [List.length_cons, List.length_nil, List.length_set, List.length_map, List.length_replicate, List.length_append, List.length_take, List.length_drop, Int.toNat_natCast, Int.toNat_of_nonneg, nx_push, nx_set, nx_kill]; done) | (simp only [List.length_cons, List.length_nil, List.length_set, List.length_map, List.length_replicate, List.length_append, List.length_take, List.length_drop, Int.toNat_natCast, Int.toNat_of_nonneg, nx_push, nx_set, nx_kill]; omega)) only [go_sem, reduceCtorEq, Nat.reduceAdd, Nat.reduceSub, Nat.reduceMul, Nat.reduceLT, Nat.reduceLeDiff, Nat.reduceEqDiff, Nat.reduceBEq, Nat.reduceBNe, Int.reduceBEq, Int.reduceEq, Int.reduceLT, Int.reduceLE, Int.reduceAdd, Int.reduceSub, ↓reduceIte, Int.reduceToNat, Nat.reduceShiftRight, Nat.reduceAnd]
          refine arena_Len _ _ _ _ _ _ hA7 x hx64 _ ?_
          rw [n1']
          have hvi : sumR T (vis ++ [i]) ≤ usedOf T := sumR_le T _ hI3.nodup hI3.lt
          simp (disch := first | omega | (show allOne _ = true; simp [allOne, Value.oneCell']) | (simp only [List.length_cons, List.length_nil, List.length_set, List.length_map, List.length_replicate, List.length_append, List.length_take, List.length_drop, Int.toNat_natCast, Int.toNat_of_nonneg, nx_push, nx_set, nx_kill]; done) | (simp only [List.length_cons, List.length_nil, List.length_set, List.length_map, List.length_replicate, List.length_append, List.length_take, List.length_drop, Int.toNat_natCast, Int.toNat_of_nonneg, nx_push, nx_set, nx_kill]; omega)) only [go_sem, reduceCtorEq, Nat.reduceAdd, Nat.reduceSub, Nat.reduceMul, Nat.reduceLT, Nat.reduceLeDiff, Nat.reduceEqDiff, Nat.reduceBEq, Nat.reduceBNe, Int.reduceBEq, Int.reduceEq, Int.reduceLT, Int.reduceLE, Int.reduceAdd, Int.reduceSub, ↓reduceIte, Int.reduceToNat, Nat.reduceShiftRight, Nat.reduceAnd, hs13]
          refine arena_Len _ _ _ _ _ _ hA7 x hx64 _ ?_
          rw [n1']
          simp (disch := first | omega | (show allOne _ = true; simp [allOne, Value.oneCell']) | (simp only [List.length_cons, List.length_nil, List.length_set, List.length_map, List.length_replicate, List.length_append, List.length_take, List.length_drop, Int.toNat_natCast, Int.toNat_of_nonneg, nx_push, nx_set, nx_kill]; done) | (simp only [List.length_cons, List.length_nil, List.length_set, List.length_map, List.length_replicate, List.length_append, List.length_take, List.length_drop, Int.toNat_natCast, Int.toNat_of_nonneg, nx_push, nx_set, nx_kill]; omega)) only [go_sem, reduceCtorEq, Nat.reduceAdd, Nat.reduceSub, Nat.reduceMul, Nat.reduceLT, Nat.reduceLeDiff, Nat.reduceEqDiff, Nat.reduceBEq, Nat.reduceBNe, Int.reduceBEq, Int.reduceEq, Int.reduceLT, Int.reduceLE, Int.reduceAdd, Int.reduceSub, ↓reduceIte, Int.reduceToNat, Nat.reduceShiftRight, Nat.reduceAnd]
          have hvl : (vis ++ [i]).length ≤ (bfs T roots).length := by
            have := nodup_sub (vis ++ [i]) (bfs T roots) hI3.nodup (fun j hj => (bfs_mem T roots j).2 (hI3.sound j hj))
            exact this
          rw [List.length_append, List.length_singleton] at hvl
          refine Hwp.loop (fun m fr H2 => ∃ j tv3 ov3, m = t.l.length - j ∧ j ≤ t.l.length ∧ SameI H5 H2 T (bfs T roots) (vis ++ [i]) (ws ++ t.l.take j) tv3 ov3 ∧
             FLe (hfr 183 [(136, I j), (135, I t.l.length), (15, U (tr T (bfs T roots) x)), (14, U x), (13, I (sumR T (vis ++ [i]))), (12, ov3), (11, tv3), (10, .map (some (H5.next + 1))), (9, .map (some H5.next)), (8, .slice a5 roots.length c5), (7, ptr g' 0), (6, .slice ra1 roots.length rc1), (4, ptr g 0), (3, .bool true)]) fr) t.l.length ?_ ?_
          · exact ⟨0, _, _, by omega, by omega, by simpa using hS3, fle_of (by simp [flook])⟩
          · clear hS3 hA7 hB7
            rintro m fr H8 ⟨j, tv3, ov3, rfl, hj, hS4, hle2⟩
            refine Hwp.weaken hle2 (HW.sound _ _ _ _ ?_)
            have hA8 : AtA H8 g gw gh n T := hA5.frame (by rintro b (rfl | rfl | rfl) <;> exact hS4.keep _ (by omega))
            have hB8 : AtA H8 g' gw' gh' n (outT T (bfs T roots)) := hB.frame (by rintro b (rfl | rfl | rfl) <;> exact hS4.keep _ (by omega))
            by_cases hc : j < t.l.length
            · obtain ⟨p, hp⟩ : ∃ p, t.l[j]? = some p := ⟨_, List.getElem?_eq_getElem hc⟩
              have g1 : getV T x j = .tuple #[U p, I 0] := by
                unfold getV; rw [hf]; simp only
                rw [if_pos ⟨by omega, by omega⟩]
                simp [List.getD, hp]
              have g2 : getV (outT T (bfs T roots)) (tr T (bfs T roots) x) j = .tuple #[U (tr T (bfs T roots) p), I 0] := by
                unfold getV; rw [hth]; simp only [List.length_map]
                rw [if_pos ⟨by omega, by omega⟩]
                simp [List.getD, hp]
              have hwsl : (ws ++ t.l.take j).length + 1 ≤ 1000000 := by
                have := hS4.qt.len
                simp; omega
              obtain ⟨tv4, Ha4, ov4, Hb4, z1, z2, z3⟩ := hS4.add p hwsl
              simp (disch := first | omega | (show allOne _ = true; simp [allOne, Value.oneCell']) | (simp only [List.length_cons, List.length_nil, List.length_set, List.length_map, List.length_replicate, List.length_append, List.length_take, List.length_drop, Int.toNat_natCast, Int.toNat_of_nonneg, nx_push, nx_set, nx_kill]; done) | (simp only [List.length_cons, List.length_nil, List.length_set, List.length_map, List.length_replicate, List.length_append, List.length_take, List.length_drop, Int.toNat_natCast, Int.toNat_of_nonneg, nx_push, nx_set, nx_kill]; omega)) only [go_sem, reduceCtorEq, Nat.reduceAdd, Nat.reduceSub, Nat.reduceMul, Nat.reduceLT, Nat.reduceLeDiff, Nat.reduceEqDiff, Nat.reduceBEq, Nat.reduceBNe, Int.reduceBEq, Int.reduceEq, Int.reduceLT, Int.reduceLE, Int.reduceAdd, Int.reduceSub, ↓reduceIte, Int.reduceToNat, Nat.reduceShiftRight, Nat.reduceAnd]
              refine arena_Get _ _ _ _ _ _ hA8 x hx64 j _ ?_
              rw [g1]
              simp (disch := first | omega | (show allOne _ = true; simp [allOne, Value.oneCell']) | (simp only [List.length_cons, List.length_nil, List.length_set, List.length_map, List.length_replicate, List.length_append, List.length_take, List.length_drop, Int.toNat_natCast, Int.toNat_of_nonneg, nx_push, nx_set, nx_kill]; done) | (simp only [List.length_cons, List.length_nil, List.length_set, List.length_map, List.length_replicate, List.length_append, List.length_take, List.length_drop, Int.toNat_natCast, Int.toNat_of_nonneg, nx_push, nx_set, nx_kill]; omega)) only [go_sem, reduceCtorEq, Nat.reduceAdd, Nat.reduceSub, Nat.reduceMul, Nat.reduceLT, Nat.reduceLeDiff, Nat.reduceEqDiff, Nat.reduceBEq, Nat.reduceBNe, Int.reduceBEq, Int.reduceEq, Int.reduceLT, Int.reduceLE, Int.reduceAdd, Int.reduceSub, ↓reduceIte, Int.reduceToNat, Nat.reduceShiftRight, Nat.reduceAnd]
              refine arena_Get _ _ _ _ _ _ hB8 _ hy64 j _ ?_
              rw [g2]
              simp (disch := first | omega | (show allOne _ = true; simp [allOne, Value.oneCell']) | (simp only [List.length_cons, List.length_nil, List.length_set, List.length_map, List.length_replicate, List.length_append, List.length_take, List.length_drop, Int.toNat_natCast, Int.toNat_of_nonneg, nx_push, nx_set, nx_kill]; done) | (simp only [List.length_cons, List.length_nil, List.length_set, List.length_map, List.length_replicate, List.length_append, List.length_take, List.length_drop, Int.toNat_natCast, Int.toNat_of_nonneg, nx_push, nx_set, nx_kill]; omega)) only [go_sem, reduceCtorEq, Nat.reduceAdd, Nat.reduceSub, Nat.reduceMul, Nat.reduceLT, Nat.reduceLeDiff, Nat.reduceEqDiff, Nat.reduceBEq, Nat.reduceBNe, Int.reduceBEq, Int.reduceEq, Int.reduceLT, Int.reduceLE, Int.reduceAdd, Int.reduceSub, ↓reduceIte, Int.reduceToNat, Nat.reduceShiftRight, Nat.reduceAnd, hsource_slice, hsrc_cells, List.drop_zero, List.take_succ_cons, List.take_zero, z1, z2]
              refine ⟨_, ?_, j + 1, tv4, ov4, rfl, by omega, ?_, fle_of (by simp [flook])⟩
              · omega
              · rw [List.take_add_one, hp, Option.toList_some, ← List.append_assoc]; exact z3
            · simp (disch := first | omega | (show allOne _ = true; simp [allOne, Value.oneCell']) | (simp only [List.length_cons, List.length_nil, List.length_set, List.length_map, List.length_replicate, List.length_append, List.length_take, List.length_drop, Int.toNat_natCast, Int.toNat_of_nonneg, nx_push, nx_set, nx_kill]; done) | (simp only [List.length_cons, List.length_nil, List.length_set, List.length_map, List.length_replicate, List.length_append, List.length_take, List.length_drop, Int.toNat_natCast, Int.toNat_of_nonneg, nx_push, nx_set, nx_kill]; omega)) only [go_sem, reduceCtorEq, Nat.reduceAdd, Nat.reduceSub, Nat.reduceMul, Nat.reduceLT, Nat.reduceLeDiff, Nat.reduceEqDiff, Nat.reduceBEq, Nat.reduceBNe, Int.reduceBEq, Int.reduceEq, Int.reduceLT, Int.reduceLE, Int.reduceAdd, Int.reduceSub, ↓reduceIte, Int.reduceToNat, Nat.reduceShiftRight, Nat.reduceAnd]
              rw [List.take_of_length_le (by omega)] at hS4
              refine ⟨_, ?_, vis ++ [i], ws ++ t.l, tv3, ov3, rfl, hI3, ?_, ?_, hS4, fle_of (by simp [flook])⟩
              · simp only [List.length_append, List.length_cons, List.length_nil]
                omega
              · rw [sumR_append, sumR_one, hrm, List.length_append]; omega
              · intro w hw
                rcases List.mem_append.1 hw with hw | hw
                · exact hw64 w (by simp [hw])
                · exact htok.words w hw
end Go.HL
