/-
  Joined: D10.
-/
import Derived.Test.YtkflilieljojfaaL46
/-
  Walks: how much the document reaches; are both arenas alike; the law of what is kept.
-/
namespace Go.HL
open Go.RowKit Go.Proofs
set_option maxHeartbeats 4000000
set_option maxRecDepth 100000
set_option linter.unusedSimpArgs false
set_option linter.unusedVariables false

def seenC (T : Things) (sn : List Nat) : List Value := (List.range T.length).map fun i => .bool (decide (i ∈ sn))
theorem seenC_len (T : Things) (sn : List Nat) : (seenC T sn).length = T.length := by simp [seenC]
theorem seenC_get {T : Things} {sn : List Nat} {i : Nat} (h : i < T.length) : (seenC T sn)[i]? = some (.bool (decide (i ∈ sn))) := by simp [seenC, h]
theorem seenC_set {T : Things} {sn : List Nat} {i : Nat} (h : i < T.length) : (seenC T sn).set i (.bool true) = seenC T (sn ++ [i]) := by
  apply List.ext_getElem?
  intro j
  rw [List.getElem?_set]
  rcases Nat.lt_or_ge j T.length with hj | hj
  · rw [seenC_get hj, seenC_get hj]
    by_cases e : i = j
    · subst e; simp [seenC_len, h]
    · rw [if_neg e]; simp [Ne.symm e]
  · rw [List.getElem?_eq_none_iff.2 (by rw [seenC_len]; exact hj), List.getElem?_eq_none_iff.2 (by rw [seenC_len]; exact hj), seenC_len]
    rw [if_neg (by omega)]

theorem r03_Reach (H : HHeap) (ga size : Nat) (T : Things) (tva : Value) (lva : List Value) (hA : RefAt H ga size T tva lva) (hu : usedOf T ≤ 65536) (s : Value) (roots : List Nat) (hs : RowAt H s (roots.map U)) (hrw : ∀ w ∈ roots, w < 18446744073709551616) (hrl : roots.length ≤ 1000000)
    (R : Value → HHeap → Prop) (hR : ∀ H', (∀ b, b < H.next → H'.get b = H.get b) → H.next ≤ H'.next → R (I (sumR T (bfs T roots))) H') : HCalls Try.prog 17 [ptr ga 0, s] H R := by
  refine HCalls.ok fun hok => ?_
  have hal := hA.lt hok
  have hgal := hal ga (by simp [rblks])
  have hTl := length_le_used T
  have hss := hA.s
  obtain ⟨taa, htva⟩ := hA.t.len
  subst htva
  have hsr := hs.source (H' := (H.push (.cells (List.replicate T.length (.bool false)) true)).push (.cells [] true)) (fun b hb => by simp (disch := first | omega | (simp only [nx_push, nx_set, nx_kill]; done) | (simp only [nx_push, nx_set, nx_kill]; omega)) only [get_push_ne, get_push_eq, get_set_ne, get_set_eq, get_kill_ne, nx_push, nx_set, nx_kill])
  obtain ⟨v0, H0, q1, q2, q3, q4, q5⟩ := append_row ((H.push (.cells (List.replicate T.length (.bool false)) true)).push (.cells [] true)) (.slice (some ⟨H.next + 1, 0, none⟩) 0 0) [] roots (.inr (.inl ⟨H.next + 1, rfl, rfl, by simp (disch := first | omega | (simp only [nx_push, nx_set, nx_kill]; done) | (simp only [nx_push, nx_set, nx_kill]; omega)) only [get_push_ne, get_push_eq, get_set_ne, get_set_eq, get_kill_ne, nx_push, nx_set, nx_kill]; omega, by simp (disch := first | omega | (simp only [nx_push, nx_set, nx_kill]; done) | (simp only [nx_push, nx_set, nx_kill]; omega)) only [get_push_ne, get_push_eq, get_set_ne, get_set_eq, get_kill_ne, nx_push, nx_set, nx_kill]⟩)) (by simp; omega)
  obtain ⟨sa, sc, rfl, _⟩ := id hs
  simp only [nx_push] at q3 q4 q5
  refine HCalls.of_hw Try.func17 rfl _ Try.ntmps17 _ (by rw [Try.results17]) ?_
  rw [hframe0_eq _ _ (by simp)]
  simp only [List.zipIdx_cons, List.zipIdx_nil, List.map_cons, List.map_nil, Nat.reduceAdd]
  simp (disch := first | omega | (show allOne _ = true; simp [allOne, Value.oneCell']) | (simp only [List.length_cons, List.length_nil, List.length_set, List.length_map, List.length_replicate, List.length_append, List.length_take, List.length_drop, Int.toNat_natCast, Int.toNat_of_nonneg, nx_push, nx_set, nx_kill]; done) | (simp only [List.length_cons, List.length_nil, List.length_set, List.length_map, List.length_replicate, List.length_append, List.length_take, List.length_drop, Int.toNat_natCast, Int.toNat_of_nonneg, nx_push, nx_set, nx_kill]; omega)) only [go_sem, reduceCtorEq, Nat.reduceAdd, Nat.reduceSub, Nat.reduceMul, Nat.reduceLT, Nat.reduceLeDiff, Nat.reduceEqDiff, Nat.reduceBEq, Nat.reduceBNe, Int.reduceBEq, Int.reduceEq, Int.reduceLT, Int.reduceLE, Int.reduceAdd, Int.reduceSub, ↓reduceIte, Int.reduceToNat, Nat.reduceShiftRight, Nat.reduceAnd, hss, ldc_cells, mks_ok, hsr, q1]
  refine Hwp.loop (fun n fr H' => ∃ sn todo v, n = (T.length - sn.length) * 256 + todo.length ∧ ReachI T roots sn todo ∧ TodoAt H' v todo ∧ H'.get H.next = some (.cells (seenC T sn) true) ∧ (∀ b, b < H.next → H'.get b = H.get b) ∧ H.next < H'.next ∧
     (∀ b ∈ vblk v, H.next < b) ∧ (∀ w ∈ todo, w < 18446744073709551616) ∧ todo.length ≤ roots.length + sumR T sn ∧ FLe (hfr 70 [(7, I (sumR T sn)), (6, v), (5, .slice (some ⟨H.next, 0, none⟩) T.length T.length), (0, ptr ga 0)]) fr) (T.length * 256 + roots.length) ?_ ?_
  · refine ⟨[], roots, v0, by simp, ReachI.start T roots, by simpa using q2, ?_, ?_, by omega, ?_, hrw, by simp [sumR], fle_of (by simp [flook, sumR])⟩
    · rw [q4 _ (by omega) (by simp [vblk])]; simp (disch := first | omega | (simp only [nx_push, nx_set, nx_kill]; done) | (simp only [nx_push, nx_set, nx_kill]; omega)) only [get_push_ne, get_push_eq, get_set_ne, get_set_eq, get_kill_ne, nx_push, nx_set, nx_kill]
      congr 2
      unfold seenC
      apply List.ext_getElem?
      intro i
      by_cases h : i < T.length <;> simp [h]
    · intro b hb
      rw [q4 _ (by omega) (by simp [vblk]; omega)]; simp (disch := first | omega | (simp only [nx_push, nx_set, nx_kill]; done) | (simp only [nx_push, nx_set, nx_kill]; omega)) only [get_push_ne, get_push_eq, get_set_ne, get_set_eq, get_kill_ne, nx_push, nx_set, nx_kill]
    · intro b hb
      rcases q5 b hb with hh | hh
      · simp [vblk] at hh; omega
      · omega
  · rintro n fr H' ⟨sn, todo, v, rfl, hI, hT, hm, hk, hn, hvn, hw64, htl, hle⟩
    refine Hwp.weaken hle (HW.sound _ _ _ _ ?_)
    have hsu := sumR_le T sn hI.nodup hI.lt
    have hsl := nodup_le sn hI.nodup hI.lt
    have fin : todo = [] → R (I (sumR T sn)) H' := by
      rintro rfl
      rw [hI.finish]
      exact hR H' hk (by omega)
    rcases hT with ⟨rfl, rfl⟩ | ⟨b, rfl, rfl, hb1, hb2⟩ | ⟨b, cap, cs, rfl, hb1, hb2, hb3, hb4, hb5, hb6⟩
    · simp (disch := first | omega | (show allOne _ = true; simp [allOne, Value.oneCell']) | (simp only [List.length_cons, List.length_nil, List.length_set, List.length_map, List.length_replicate, List.length_append, List.length_take, List.length_drop, Int.toNat_natCast, Int.toNat_of_nonneg, nx_push, nx_set, nx_kill]; done) | (simp only [List.length_cons, List.length_nil, List.length_set, List.length_map, List.length_replicate, List.length_append, List.length_take, List.length_drop, Int.toNat_natCast, Int.toNat_of_nonneg, nx_push, nx_set, nx_kill]; omega)) only [go_sem, reduceCtorEq, Nat.reduceAdd, Nat.reduceSub, Nat.reduceMul, Nat.reduceLT, Nat.reduceLeDiff, Nat.reduceEqDiff, Nat.reduceBEq, Nat.reduceBNe, Int.reduceBEq, Int.reduceEq, Int.reduceLT, Int.reduceLE, Int.reduceAdd, Int.reduceSub, ↓reduceIte, Int.reduceToNat, Nat.reduceShiftRight, Nat.reduceAnd]
      exact fin rfl
    · simp (disch := first | omega | (show allOne _ = true; simp [allOne, Value.oneCell']) | (simp only [List.length_cons, List.length_nil, List.length_set, List.length_map, List.length_replicate, List.length_append, List.length_take, List.length_drop, Int.toNat_natCast, Int.toNat_of_nonneg, nx_push, nx_set, nx_kill]; done) | (simp only [List.length_cons, List.length_nil, List.length_set, List.length_map, List.length_replicate, List.length_append, List.length_take, List.length_drop, Int.toNat_natCast, Int.toNat_of_nonneg, nx_push, nx_set, nx_kill]; omega)) only [go_sem, reduceCtorEq, Nat.reduceAdd, Nat.reduceSub, Nat.reduceMul, Nat.reduceLT, Nat.reduceLeDiff, Nat.reduceEqDiff, Nat.reduceBEq, Nat.reduceBNe, Int.reduceBEq, Int.reduceEq, Int.reduceLT, Int.reduceLE, Int.reduceAdd, Int.reduceSub, ↓reduceIte, Int.reduceToNat, Nat.reduceShiftRight, Nat.reduceAnd]
      exact fin rfl
    · rcases List.eq_nil_or_concat todo with htd | ⟨td, w, htd⟩
      · subst htd
        simp (disch := first | omega | (show allOne _ = true; simp [allOne, Value.oneCell']) | (simp only [List.length_cons, List.length_nil, List.length_set, List.length_map, List.length_replicate, List.length_append, List.length_take, List.length_drop, Int.toNat_natCast, Int.toNat_of_nonneg, nx_push, nx_set, nx_kill]; done) | (simp only [List.length_cons, List.length_nil, List.length_set, List.length_map, List.length_replicate, List.length_append, List.length_take, List.length_drop, Int.toNat_natCast, Int.toNat_of_nonneg, nx_push, nx_set, nx_kill]; omega)) only [go_sem, reduceCtorEq, Nat.reduceAdd, Nat.reduceSub, Nat.reduceMul, Nat.reduceLT, Nat.reduceLeDiff, Nat.reduceEqDiff, Nat.reduceBEq, Nat.reduceBNe, Int.reduceBEq, Int.reduceEq, Int.reduceLT, Int.reduceLE, Int.reduceAdd, Int.reduceSub, ↓reduceIte, Int.reduceToNat, Nat.reduceShiftRight, Nat.reduceAnd, List.length_nil]
        exact fin rfl
      · rw [List.concat_eq_append] at htd
        subst htd
        have htn : (td ++ [w]).length = td.length + 1 := by simp
        have hlast : cs[td.length]? = some (U w) := by
          have : (cs.take (td ++ [w]).length)[td.length]? = some (U w) := by rw [hb6]; simp
          rw [List.getElem?_take, if_pos (by omega)] at this
          exact this
        have hww := hw64 w (by simp)
        have htd' : TodoAt H' (.slice (some ⟨b, 0, some 2⟩) td.length cap) td := by
          refine .inr (.inr ⟨b, cap, cs, rfl, hb1, hb2, hb3, by omega, hb5, ?_⟩)
          have : (cs.take (td ++ [w]).length).take td.length = ((td ++ [w]).map U).take td.length := by rw [hb6]
          rw [List.take_take, Nat.min_eq_left (by omega)] at this
          rw [this]; simp
        have hbn := hvn b (by simp [vblk])
        have hb7 : td.length + 1 ≤ cap := by omega
        have htl2 : td.length + 1 ≤ roots.length + sumR T sn := by omega
        rw [htn] at *
        have hd1 : ((td.length + 1 : Nat) : Int) - 1 = (td.length : Int) := by omega
        have hA2 : RefAt H' ga size T (.slice taa T.length T.length) lva := hA.frame (by omega) fun x hx => hk x (hal x hx)
        simp (disch := first | omega | (show allOne _ = true; simp [allOne, Value.oneCell']) | (simp only [List.length_cons, List.length_nil, List.length_set, List.length_map, List.length_replicate, List.length_append, List.length_take, List.length_drop, Int.toNat_natCast, Int.toNat_of_nonneg, nx_push, nx_set, nx_kill]; done) | (simp only [List.length_cons, List.length_nil, List.length_set, List.length_map, List.length_replicate, List.length_append, List.length_take, List.length_drop, Int.toNat_natCast, Int.toNat_of_nonneg, nx_push, nx_set, nx_kill]; omega)) only [go_sem, reduceCtorEq, Nat.reduceAdd, Nat.reduceSub, Nat.reduceMul, Nat.reduceLT, Nat.reduceLeDiff, Nat.reduceEqDiff, Nat.reduceBEq, Nat.reduceBNe, Int.reduceBEq, Int.reduceEq, Int.reduceLT, Int.reduceLE, Int.reduceAdd, Int.reduceSub, ↓reduceIte, Int.reduceToNat, Nat.reduceShiftRight, Nat.reduceAnd, ixa_ok, ldc_cells, hb2, hlast, slg_hi, hd1]
        refine r02_Find _ _ _ _ _ _ hA2 hu w hww _ ?_
        cases hi : findI T w with
        | none =>
          have hf : foundV T w = -1 := by unfold foundV; rw [hi]
          rw [hf]
          simp (disch := first | omega | (show allOne _ = true; simp [allOne, Value.oneCell']) | (simp only [List.length_cons, List.length_nil, List.length_set, List.length_map, List.length_replicate, List.length_append, List.length_take, List.length_drop, Int.toNat_natCast, Int.toNat_of_nonneg, nx_push, nx_set, nx_kill]; done) | (simp only [List.length_cons, List.length_nil, List.length_set, List.length_map, List.length_replicate, List.length_append, List.length_take, List.length_drop, Int.toNat_natCast, Int.toNat_of_nonneg, nx_push, nx_set, nx_kill]; omega)) only [go_sem, reduceCtorEq, Nat.reduceAdd, Nat.reduceSub, Nat.reduceMul, Nat.reduceLT, Nat.reduceLeDiff, Nat.reduceEqDiff, Nat.reduceBEq, Nat.reduceBNe, Int.reduceBEq, Int.reduceEq, Int.reduceLT, Int.reduceLE, Int.reduceAdd, Int.reduceSub, ↓reduceIte, Int.reduceToNat, Nat.reduceShiftRight, Nat.reduceAnd]
          refine ⟨_, ?_, sn, td, _, rfl, hI.skip (fun j hj => by rw [hi] at hj; cases hj), htd', hm, hk, hn, by simpa [vblk] using hbn, fun u hu => hw64 u (by simp [hu]), by omega, fle_of (by simp [flook])⟩
          omega
        | some i =>
          have hil := findI_lt hi
          have hf : foundV T w = i := by unfold foundV; rw [hi]
          have hsg := seenC_get (sn := sn) hil
          have hsl2 := seenC_len T sn
          rw [hf]
          by_cases hin : i ∈ sn
          · rw [show decide (i ∈ sn) = true by simp [hin]] at hsg
            simp (disch := first | omega | (show allOne _ = true; simp [allOne, Value.oneCell']) | (simp only [List.length_cons, List.length_nil, List.length_set, List.length_map, List.length_replicate, List.length_append, List.length_take, List.length_drop, Int.toNat_natCast, Int.toNat_of_nonneg, nx_push, nx_set, nx_kill]; done) | (simp only [List.length_cons, List.length_nil, List.length_set, List.length_map, List.length_replicate, List.length_append, List.length_take, List.length_drop, Int.toNat_natCast, Int.toNat_of_nonneg, nx_push, nx_set, nx_kill]; omega)) only [go_sem, reduceCtorEq, Nat.reduceAdd, Nat.reduceSub, Nat.reduceMul, Nat.reduceLT, Nat.reduceLeDiff, Nat.reduceEqDiff, Nat.reduceBEq, Nat.reduceBNe, Int.reduceBEq, Int.reduceEq, Int.reduceLT, Int.reduceLE, Int.reduceAdd, Int.reduceSub, ↓reduceIte, Int.reduceToNat, Nat.reduceShiftRight, Nat.reduceAnd, ixa_ok, ldc_cells, hm, hsg]
            refine ⟨_, ?_, sn, td, _, rfl, hI.skip (fun j hj => by rw [hi] at hj; cases hj; exact hin), htd', (by first | exact hm | rfl), hk, hn, by simpa [vblk] using hbn, fun u hu => hw64 u (by simp [hu]), by omega, fle_of (by simp [flook])⟩
            omega
          · rw [show decide (i ∈ sn) = false by simp [hin]] at hsg
            obtain ⟨t, hti⟩ : ∃ t, T[i]? = some t := ⟨_, List.getElem?_eq_getElem hil⟩
            have htok := hA.ok t (List.mem_of_getElem? hti)
            have kl := htok.len
            have hwi : wordsI T i = t.l := by unfold wordsI; rw [hti]
            have hri : roomI T i = 1 + t.l.length := by unfold roomI; rw [hti]; rfl
            have hI2 := hI.more hi hin
            have hsu2 := sumR_le T _ hI2.nodup hI2.lt
            rw [sumR_append, sumR_one, hri] at hsu2
            have hsl3 := nodup_le _ hI2.nodup hI2.lt
            rw [List.length_append, List.length_singleton] at hsl3
            obtain ⟨bb, lv, f1, f2, f3, f4, f5, f6, f7⟩ := hA2.thing hti
            have hrcl : (rcells 0 T lva).length = T.length * 3 := rcells_length 0 T lva hA.len
            cases f1
            obtain ⟨la, hla⟩ := f4.form
            subst hla
            have has := hA2.s
            have hset := seenC_set (sn := sn) hil
            have hbbl : bb < H.next := hal bb (by simp [rblks, sblk])
            have hlal : ∀ x ∈ sblk (Value.slice la t.l.length t.l.length), x < H.next := fun x hx => hal x (by
              simp only [rblks, List.mem_cons, List.mem_append, List.mem_flatMap]
              exact .inr (.inr ⟨_, List.mem_of_getElem? f3, hx⟩))
            have hsrc3 : hsource (H'.set H.next (.cells (seenC T (sn ++ [i])) true)) 1 (.slice la t.l.length t.l.length) = some (t.l.map U, t.l.length) := f4.source fun x hx => by have := hlal x hx; simp (disch := first | omega | (simp only [nx_push, nx_set, nx_kill]; done) | (simp only [nx_push, nx_set, nx_kill]; omega)) only [get_push_ne, get_push_eq, get_set_ne, get_set_eq, get_kill_ne, nx_push, nx_set, nx_kill]
            have htd3 : TodoAt (H'.set H.next (.cells (seenC T (sn ++ [i])) true)) (.slice (some ⟨b, 0, some 2⟩) td.length cap) td := by
              refine htd'.frame (by simp (disch := first | omega | (simp only [nx_push, nx_set, nx_kill]; done) | (simp only [nx_push, nx_set, nx_kill]; omega)) only [get_push_ne, get_push_eq, get_set_ne, get_set_eq, get_kill_ne, nx_push, nx_set, nx_kill]; omega) (fun c hc => ?_)
              have hcb : c = b := by simpa [vblk] using hc
              subst hcb
              simp (disch := first | omega | (simp only [nx_push, nx_set, nx_kill]; done) | (simp only [nx_push, nx_set, nx_kill]; omega)) only [get_push_ne, get_push_eq, get_set_ne, get_set_eq, get_kill_ne, nx_push, nx_set, nx_kill]
            obtain ⟨v3, H3, r1, r2, r3, r4, r5⟩ := append_row _ _ td t.l htd3 (by omega)
            have hsm : ((sumR T sn : Nat) : Int) + 1 + (t.l.length : Int) = ((sumR T (sn ++ [i]) : Nat) : Int) := by rw [sumR_append, sumR_one, hri]; omega
            have hsm2 : sumR T (sn ++ [i]) = sumR T sn + (1 + t.l.length) := by rw [sumR_append, sumR_one, hri]
            simp (disch := first | omega | (show allOne _ = true; simp [allOne, Value.oneCell']) | (simp only [List.length_cons, List.length_nil, List.length_set, List.length_map, List.length_replicate, List.length_append, List.length_take, List.length_drop, Int.toNat_natCast, Int.toNat_of_nonneg, nx_push, nx_set, nx_kill]; done) | (simp only [List.length_cons, List.length_nil, List.length_set, List.length_map, List.length_replicate, List.length_append, List.length_take, List.length_drop, Int.toNat_natCast, Int.toNat_of_nonneg, nx_push, nx_set, nx_kill]; omega)) only [go_sem, reduceCtorEq, Nat.reduceAdd, Nat.reduceSub, Nat.reduceMul, Nat.reduceLT, Nat.reduceLeDiff, Nat.reduceEqDiff, Nat.reduceBEq, Nat.reduceBNe, Int.reduceBEq, Int.reduceEq, Int.reduceLT, Int.reduceLE, Int.reduceAdd, Int.reduceSub, ↓reduceIte, Int.reduceToNat, Nat.reduceShiftRight, Nat.reduceAnd, ixa_ok, ldc_cells, hm, hsg, stc_cells, hset, has, f2, f7, hsm, hsrc3, r1]
            simp only [nx_set] at r3 r4 r5
            have r4' : ∀ c, c < H'.next → c ≠ b → c ≠ H.next → H3.get c = H'.get c := by
              intro c h1 h2 h3
              rw [r4 c h1 (by simpa [vblk] using h2)]
              simp (disch := first | omega | (simp only [nx_push, nx_set, nx_kill]; done) | (simp only [nx_push, nx_set, nx_kill]; omega)) only [get_push_ne, get_push_eq, get_set_ne, get_set_eq, get_kill_ne, nx_push, nx_set, nx_kill]
            rw [hwi] at hI2
            refine ⟨_, ?_, sn ++ [i], td ++ t.l, v3, rfl, hI2, r2, ?_, ?_, by omega, ?_, ?_, ?_, fle_of (by simp [flook])⟩
            · rw [List.length_append, List.length_singleton, List.length_append]; omega
            · rw [r4 _ (by omega) (by simp [vblk]; omega)]; simp (disch := first | omega | (simp only [nx_push, nx_set, nx_kill]; done) | (simp only [nx_push, nx_set, nx_kill]; omega)) only [get_push_ne, get_push_eq, get_set_ne, get_set_eq, get_kill_ne, nx_push, nx_set, nx_kill]
            · intro c hc
              rw [r4' c (by omega) (by omega) (by omega)]; exact hk c hc
            · intro c hc
              rcases r5 c hc with hh | hh
              · have : c = b := by simpa [vblk] using hh
                omega
              · omega
            · intro u hu
              rcases List.mem_append.1 hu with hu | hu
              · exact hw64 u (by simp [hu])
              · exact htok.words u hu
            · rw [List.length_append]; omega

theorem law_alike (H : HHeap) (g gw gh gr size : Nat) (T : Things) (tv : Value) (lvs : List Value) (hA : AtA H g gw gh size T) (hB : RefAt H gr size T tv lvs) (R : Value → HHeap → Prop) (hR : ∀ H', (∀ b, b < H.next → H'.get b = H.get b) → H.next ≤ H'.next → R (.bool true) H') :
    HCalls Try.prog 15 [ptr g 0, ptr gr 0] H R := by
  refine HCalls.ok fun hok => ?_
  have hbl := hB.lt hok
  obtain ⟨lg1, lg2, lg3⟩ := hA.lt hok
  have hTl := length_le_used T
  have hroom := hA.room
  have hbig := hA.big
  have hss := hB.s
  obtain ⟨taa, htva⟩ := hB.t.len
  subst htva
  refine HCalls.of_hw Try.func15 rfl _ Try.ntmps15 _ (by rw [Try.results15]) ?_
  rw [hframe0_eq _ _ (by simp)]
  simp only [List.zipIdx_cons, List.zipIdx_nil, List.map_cons, List.map_nil, Nat.reduceAdd]
  simp (disch := first | omega | (show allOne _ = true; simp [allOne, Value.oneCell']) | (simp only [List.length_cons, List.length_nil, List.length_set, List.length_map, List.length_replicate, List.length_append, List.length_take, List.length_drop, Int.toNat_natCast, Int.toNat_of_nonneg, nx_push, nx_set, nx_kill]; done) | (simp only [List.length_cons, List.length_nil, List.length_set, List.length_map, List.length_replicate, List.length_append, List.length_take, List.length_drop, Int.toNat_natCast, Int.toNat_of_nonneg, nx_push, nx_set, nx_kill]; omega)) only [go_sem, reduceCtorEq, Nat.reduceAdd, Nat.reduceSub, Nat.reduceMul, Nat.reduceLT, Nat.reduceLeDiff, Nat.reduceEqDiff, Nat.reduceBEq, Nat.reduceBNe, Int.reduceBEq, Int.reduceEq, Int.reduceLT, Int.reduceLE, Int.reduceAdd, Int.reduceSub, ↓reduceIte, Int.reduceToNat, Nat.reduceShiftRight, Nat.reduceAnd]
  refine Hwp.drawn mixed [0, 1, 0, 4, 12, 28, 63, 127, 255, 511, 255, 1279, 3327, 7423, 16383, 32767] (.op 0 (.op 2 (.op 3 (.op 4 (.op 5 (.eff 1 (.op 6 (.op 7 (.op 8 (.op 10 (.op 11 (.op 12 (.op 13 (.eff 9 (.op 14 (.op 15 .done)) .stop)))))))) .stop)))))) (by kernel_rfl) ?_
  simp (disch := first | omega | (show allOne _ = true; simp [allOne, Value.oneCell']) | (simp only [List.length_cons, List.length_nil, List.length_set, List.length_map, List.length_replicate, List.length_append, List.length_take, List.length_drop, Int.toNat_natCast, Int.toNat_of_nonneg, nx_push, nx_set, nx_kill]; done) | (simp only [List.length_cons, List.length_nil, List.length_set, List.length_map, List.length_replicate, List.length_append, List.length_take, List.length_drop, Int.toNat_natCast, Int.toNat_of_nonneg, nx_push, nx_set, nx_kill]; omega)) only [go_sem, reduceCtorEq, Nat.reduceAdd, Nat.reduceSub, Nat.reduceMul, Nat.reduceLT, Nat.reduceLeDiff, Nat.reduceEqDiff, Nat.reduceBEq, Nat.reduceBNe, Int.reduceBEq, Int.reduceEq, Int.reduceLT, Int.reduceLE, Int.reduceAdd, Int.reduceSub, ↓reduceIte, Int.reduceToNat, Nat.reduceShiftRight, Nat.reduceAnd, hss, ldc_cells]
  refine arena_Used _ _ _ _ _ _ hA _ ?_
  simp (disch := first | omega | (show allOne _ = true; simp [allOne, Value.oneCell']) | (simp only [List.length_cons, List.length_nil, List.length_set, List.length_map, List.length_replicate, List.length_append, List.length_take, List.length_drop, Int.toNat_natCast, Int.toNat_of_nonneg, nx_push, nx_set, nx_kill]; done) | (simp only [List.length_cons, List.length_nil, List.length_set, List.length_map, List.length_replicate, List.length_append, List.length_take, List.length_drop, Int.toNat_natCast, Int.toNat_of_nonneg, nx_push, nx_set, nx_kill]; omega)) only [go_sem, reduceCtorEq, Nat.reduceAdd, Nat.reduceSub, Nat.reduceMul, Nat.reduceLT, Nat.reduceLeDiff, Nat.reduceEqDiff, Nat.reduceBEq, Nat.reduceBNe, Int.reduceBEq, Int.reduceEq, Int.reduceLT, Int.reduceLE, Int.reduceAdd, Int.reduceSub, ↓reduceIte, Int.reduceToNat, Nat.reduceShiftRight, Nat.reduceAnd, hss, ldc_cells]
  refine arena_Size _ _ _ _ _ _ hA _ ?_
  simp (disch := first | omega | (show allOne _ = true; simp [allOne, Value.oneCell']) | (simp only [List.length_cons, List.length_nil, List.length_set, List.length_map, List.length_replicate, List.length_append, List.length_take, List.length_drop, Int.toNat_natCast, Int.toNat_of_nonneg, nx_push, nx_set, nx_kill]; done) | (simp only [List.length_cons, List.length_nil, List.length_set, List.length_map, List.length_replicate, List.length_append, List.length_take, List.length_drop, Int.toNat_natCast, Int.toNat_of_nonneg, nx_push, nx_set, nx_kill]; omega)) only [go_sem, reduceCtorEq, Nat.reduceAdd, Nat.reduceSub, Nat.reduceMul, Nat.reduceLT, Nat.reduceLeDiff, Nat.reduceEqDiff, Nat.reduceBEq, Nat.reduceBNe, Int.reduceBEq, Int.reduceEq, Int.reduceLT, Int.reduceLE, Int.reduceAdd, Int.reduceSub, ↓reduceIte, Int.reduceToNat, Nat.reduceShiftRight, Nat.reduceAnd, hss, ldc_cells]
  refine Hwp.loop (fun n fr H' => ∃ i, n = T.length - i ∧ i ≤ T.length ∧ (∀ b, b < H.next → H'.get b = H.get b) ∧ H.next ≤ H'.next ∧
     FLe (hfr 81 [(33, I i), (32, I T.length), (31, .slice taa T.length T.length), (0, ptr g 0)]) fr) T.length ?_ ?_
  · exact ⟨0, by omega, by omega, fun _ _ => rfl, Nat.le_refl _, fle_of (by simp [flook])⟩
  · rintro n fr H' ⟨i, rfl, hi, hk, hn, hle⟩
    refine Hwp.weaken hle (HW.sound _ _ _ _ ?_)
    by_cases hc : i < T.length
    · obtain ⟨t, hti⟩ : ∃ t, T[i]? = some t := ⟨_, List.getElem?_eq_getElem hc⟩
      have hB' : RefAt H' gr size T (.slice taa T.length T.length) lvs := hB.frame hn fun x hx => hk x (hbl x hx)
      obtain ⟨bb, lv, f1, f2, f3, f4, f5, f6, f7⟩ := hB'.thing hti
      have hrcl : (rcells 0 T lvs).length = T.length * 3 := rcells_length 0 T lvs hB.len
      cases f1
      obtain ⟨la, hla⟩ := f4.form
      subst hla
      have hcell : ((rcells 0 T lvs).drop (i * 3)).take 3 = [I (placeOf T i), I t.kind, .slice la t.l.length t.l.length] := cells3 f5 f6 f7
      have hst : ∀ v0 v1 v2 : Value, splice [.int .i64 0, .int .i64 0, .slice none 0 0] 0 [v0, v1, v2] = [v0, v1, v2] := fun _ _ _ => rfl
      have hpl : placeOf T i ≤ 65536 := by
        have : placeOf T i ≤ usedOf T := by
          unfold placeOf
          conv => rhs; rw [← List.take_append_drop i T]
          rw [usedOf_append]; omega
        omega
      have hw : ((placeOf T i : Nat) : Int) * 8 + 1 = ((wordAt (placeOf T i) : Nat) : Int) := by unfold wordAt; omega
      have hwl : wordAt (placeOf T i) < 18446744073709551616 := by unfold wordAt; omega
      have hft : findT T (wordAt (placeOf T i)) = some t := by rw [findT_findI, word_findI hc]; simpa using hti
      have k1 : kindN T (wordAt (placeOf T i)) = t.kind := by unfold kindN; rw [hft]
      have k2 : lenN T (wordAt (placeOf T i)) = t.l.length := by unfold lenN; rw [hft]
      have htok := hA.ok t (List.mem_of_getElem? hti)
      have kl := htok.len
      have kk := htok.k9
      have hA' : AtA (H'.push (.cells [I (placeOf T i), I t.kind, .slice la t.l.length t.l.length] true)) g gw gh size T := hA.frame (by rintro b (rfl | rfl | rfl) <;> (simp (disch := first | omega | (simp only [nx_push, nx_set, nx_kill]; done) | (simp only [nx_push, nx_set, nx_kill]; omega)) only [get_push_ne, get_push_eq, get_set_ne, get_set_eq, get_kill_ne, nx_push, nx_set, nx_kill]; exact hk _ (by omega)))
      have hnb : (H'.push (.cells [I (placeOf T i), I t.kind, .slice la t.l.length t.l.length] true)).get H'.next = some (.cells [I (placeOf T i), I t.kind, .slice la t.l.length t.l.length] true) := by simp (disch := first | omega | (simp only [nx_push, nx_set, nx_kill]; done) | (simp only [nx_push, nx_set, nx_kill]; omega)) only [get_push_ne, get_push_eq, get_set_ne, get_set_eq, get_kill_ne, nx_push, nx_set, nx_kill]
      simp (disch := first | omega | (show allOne _ = true; simp [allOne, Value.oneCell']) | (simp only [List.length_cons, List.length_nil, List.length_set, List.length_map, List.length_replicate, List.length_append, List.length_take, List.length_drop, Int.toNat_natCast, Int.toNat_of_nonneg, nx_push, nx_set, nx_kill]; done) | (simp only [List.length_cons, List.length_nil, List.length_set, List.length_map, List.length_replicate, List.length_append, List.length_take, List.length_drop, Int.toNat_natCast, Int.toNat_of_nonneg, nx_push, nx_set, nx_kill]; omega)) only [go_sem, reduceCtorEq, Nat.reduceAdd, Nat.reduceSub, Nat.reduceMul, Nat.reduceLT, Nat.reduceLeDiff, Nat.reduceEqDiff, Nat.reduceBEq, Nat.reduceBNe, Int.reduceBEq, Int.reduceEq, Int.reduceLT, Int.reduceLE, Int.reduceAdd, Int.reduceSub, ↓reduceIte, Int.reduceToNat, Nat.reduceShiftRight, Nat.reduceAnd, ixa_ok, f2, lda_cells, hcell, sta_cells, push_set, hst, hnb, ldc_cells, hw]
      refine Hwp.drawn mixed [0, 0, 3, 0, 8, 31, 63, 127, 127, 511, 127, 1151, 3199, 8191, 16383] (.op 0 (.op 1 (.op 3 (.op 4 (.eff 2 (.op 5 (.op 6 (.op 7 (.op 8 (.op 10 (.op 11 (.op 12 (.eff 9 (.op 13 (.op 14 .done)) .stop)))))))) .stop))))) (by kernel_rfl) ?_
      simp (disch := first | omega | (show allOne _ = true; simp [allOne, Value.oneCell']) | (simp only [List.length_cons, List.length_nil, List.length_set, List.length_map, List.length_replicate, List.length_append, List.length_take, List.length_drop, Int.toNat_natCast, Int.toNat_of_nonneg, nx_push, nx_set, nx_kill]; done) | (simp only [List.length_cons, List.length_nil, List.length_set, List.length_map, List.length_replicate, List.length_append, List.length_take, List.length_drop, Int.toNat_natCast, Int.toNat_of_nonneg, nx_push, nx_set, nx_kill]; omega)) only [go_sem, reduceCtorEq, Nat.reduceAdd, Nat.reduceSub, Nat.reduceMul, Nat.reduceLT, Nat.reduceLeDiff, Nat.reduceEqDiff, Nat.reduceBEq, Nat.reduceBNe, Int.reduceBEq, Int.reduceEq, Int.reduceLT, Int.reduceLE, Int.reduceAdd, Int.reduceSub, ↓reduceIte, Int.reduceToNat, Nat.reduceShiftRight, Nat.reduceAnd, hnb, ldc_cells]
      refine arena_Kind _ _ _ _ _ _ hA' _ hwl _ ?_
      rw [k1]
      simp (disch := first | omega | (show allOne _ = true; simp [allOne, Value.oneCell']) | (simp only [List.length_cons, List.length_nil, List.length_set, List.length_map, List.length_replicate, List.length_append, List.length_take, List.length_drop, Int.toNat_natCast, Int.toNat_of_nonneg, nx_push, nx_set, nx_kill]; done) | (simp only [List.length_cons, List.length_nil, List.length_set, List.length_map, List.length_replicate, List.length_append, List.length_take, List.length_drop, Int.toNat_natCast, Int.toNat_of_nonneg, nx_push, nx_set, nx_kill]; omega)) only [go_sem, reduceCtorEq, Nat.reduceAdd, Nat.reduceSub, Nat.reduceMul, Nat.reduceLT, Nat.reduceLeDiff, Nat.reduceEqDiff, Nat.reduceBEq, Nat.reduceBNe, Int.reduceBEq, Int.reduceEq, Int.reduceLT, Int.reduceLE, Int.reduceAdd, Int.reduceSub, ↓reduceIte, Int.reduceToNat, Nat.reduceShiftRight, Nat.reduceAnd, hnb, ldc_cells]
      refine arena_Len _ _ _ _ _ _ hA' _ hwl _ ?_
      rw [k2]
      simp (disch := first | omega | (show allOne _ = true; simp [allOne, Value.oneCell']) | (simp only [List.length_cons, List.length_nil, List.length_set, List.length_map, List.length_replicate, List.length_append, List.length_take, List.length_drop, Int.toNat_natCast, Int.toNat_of_nonneg, nx_push, nx_set, nx_kill]; done) | (simp only [List.length_cons, List.length_nil, List.length_set, List.length_map, List.length_replicate, List.length_append, List.length_take, List.length_drop, Int.toNat_natCast, Int.toNat_of_nonneg, nx_push, nx_set, nx_kill]; omega)) only [go_sem, reduceCtorEq, Nat.reduceAdd, Nat.reduceSub, Nat.reduceMul, Nat.reduceLT, Nat.reduceLeDiff, Nat.reduceEqDiff, Nat.reduceBEq, Nat.reduceBNe, Int.reduceBEq, Int.reduceEq, Int.reduceLT, Int.reduceLE, Int.reduceAdd, Int.reduceSub, ↓reduceIte, Int.reduceToNat, Nat.reduceShiftRight, Nat.reduceAnd, hnb, ldc_cells]
      have hls : RowS H' (.slice la t.l.length t.l.length) (t.l.map U) := by
        rcases f4 with ⟨h1, b, _, h2⟩ | ⟨b, h1, h2, h3⟩
        · have h3 : t.l.length = 0 := by rw [h1]; rfl
          rw [h3] at h2 ⊢
          cases h2
          rw [h1]
          exact ⟨_, 0, rfl, by simp, .inr ⟨b, 0, none, rfl, .inl rfl, .inl (by simp)⟩⟩
        · cases h2
          exact ⟨_, t.l.length, by simp, by simp, .inr ⟨b, 0, some 2, rfl, .inr ⟨2, rfl, rfl⟩, .inr ⟨_, true, h3, fun j v h => by rwa [Nat.zero_add]⟩⟩⟩
      refine Hwp.loop (fun n fr H2 => ∃ j, n = t.l.length - j ∧ j ≤ t.l.length ∧ H2 = H'.push (.cells [I (placeOf T i), I t.kind, .slice la t.l.length t.l.length] true) ∧
        FLe (hfr 81 [(60, I j), (59, I t.l.length), (58, .slice la t.l.length t.l.length), (33, I i), (32, I T.length), (31, .slice (some ⟨bb, 0, some 6⟩) T.length T.length), (7, U (wordAt (placeOf T i))), (0, ptr g 0)]) fr) t.l.length ?_ ?_
      · exact ⟨0, by omega, by omega, rfl, fle_of (by simp [flook])⟩
      · rintro n fr H2 ⟨j, rfl, hj, rfl, hle2⟩
        refine Hwp.ok fun hok2 => Hwp.weaken hle2 (HW.sound _ _ _ _ ?_)
        by_cases hc2 : j < t.l.length
        · obtain ⟨p, hp⟩ : ∃ p, t.l[j]? = some p := ⟨_, List.getElem?_eq_getElem hc2⟩
          have hls2 : RowS (H'.push (.cells [I (placeOf T i), I t.kind, .slice la t.l.length t.l.length] true)) (.slice la t.l.length t.l.length) (t.l.map U) := hls.frame fun b hb => by
            have : b < H.next := hbl b (by
              simp only [rblks, List.mem_cons, List.mem_append, List.mem_flatMap]
              exact .inr (.inr ⟨_, List.mem_of_getElem? f3, hb⟩))
            simp (disch := first | omega | (simp only [nx_push, nx_set, nx_kill]; done) | (simp only [nx_push, nx_set, nx_kill]; omega)) only [get_push_ne, get_push_eq, get_set_ne, get_set_eq, get_kill_ne, nx_push, nx_set, nx_kill]
          obtain ⟨b0, o0, k0, c0, cs0, rw0, z1, z2, z3⟩ := (hls2.row hok2).get (i := j) (v := U p) (by rw [List.getElem?_map, hp]; rfl)
          rw [List.length_map] at z1
          cases z1
          have g1 : getV T (wordAt (placeOf T i)) j = .tuple #[U p, I 0] := by
            unfold getV; rw [hft]; simp only
            rw [if_pos ⟨by omega, by omega⟩]
            simp [List.getD, hp]
          simp (disch := first | omega | (show allOne _ = true; simp [allOne, Value.oneCell']) | (simp only [List.length_cons, List.length_nil, List.length_set, List.length_map, List.length_replicate, List.length_append, List.length_take, List.length_drop, Int.toNat_natCast, Int.toNat_of_nonneg, nx_push, nx_set, nx_kill]; done) | (simp only [List.length_cons, List.length_nil, List.length_set, List.length_map, List.length_replicate, List.length_append, List.length_take, List.length_drop, Int.toNat_natCast, Int.toNat_of_nonneg, nx_push, nx_set, nx_kill]; omega)) only [go_sem, reduceCtorEq, Nat.reduceAdd, Nat.reduceSub, Nat.reduceMul, Nat.reduceLT, Nat.reduceLeDiff, Nat.reduceEqDiff, Nat.reduceBEq, Nat.reduceBNe, Int.reduceBEq, Int.reduceEq, Int.reduceLT, Int.reduceLE, Int.reduceAdd, Int.reduceSub, ↓reduceIte, Int.reduceToNat, Nat.reduceShiftRight, Nat.reduceAnd, ixa_ok, ldc_cells, z2, z3]
          refine arena_Get _ _ _ _ _ _ hA' _ hwl j _ ?_
          rw [g1]
          simp (disch := first | omega | (show allOne _ = true; simp [allOne, Value.oneCell']) | (simp only [List.length_cons, List.length_nil, List.length_set, List.length_map, List.length_replicate, List.length_append, List.length_take, List.length_drop, Int.toNat_natCast, Int.toNat_of_nonneg, nx_push, nx_set, nx_kill]; done) | (simp only [List.length_cons, List.length_nil, List.length_set, List.length_map, List.length_replicate, List.length_append, List.length_take, List.length_drop, Int.toNat_natCast, Int.toNat_of_nonneg, nx_push, nx_set, nx_kill]; omega)) only [go_sem, reduceCtorEq, Nat.reduceAdd, Nat.reduceSub, Nat.reduceMul, Nat.reduceLT, Nat.reduceLeDiff, Nat.reduceEqDiff, Nat.reduceBEq, Nat.reduceBNe, Int.reduceBEq, Int.reduceEq, Int.reduceLT, Int.reduceLE, Int.reduceAdd, Int.reduceSub, ↓reduceIte, Int.reduceToNat, Nat.reduceShiftRight, Nat.reduceAnd]
          refine ⟨_, ?_, j + 1, rfl, by omega, fle_of (by simp [flook])⟩
          omega
        · simp (disch := first | omega | (show allOne _ = true; simp [allOne, Value.oneCell']) | (simp only [List.length_cons, List.length_nil, List.length_set, List.length_map, List.length_replicate, List.length_append, List.length_take, List.length_drop, Int.toNat_natCast, Int.toNat_of_nonneg, nx_push, nx_set, nx_kill]; done) | (simp only [List.length_cons, List.length_nil, List.length_set, List.length_map, List.length_replicate, List.length_append, List.length_take, List.length_drop, Int.toNat_natCast, Int.toNat_of_nonneg, nx_push, nx_set, nx_kill]; omega)) only [go_sem, reduceCtorEq, Nat.reduceAdd, Nat.reduceSub, Nat.reduceMul, Nat.reduceLT, Nat.reduceLeDiff, Nat.reduceEqDiff, Nat.reduceBEq, Nat.reduceBNe, Int.reduceBEq, Int.reduceEq, Int.reduceLT, Int.reduceLE, Int.reduceAdd, Int.reduceSub, ↓reduceIte, Int.reduceToNat, Nat.reduceShiftRight, Nat.reduceAnd]
          refine ⟨_, ?_, i + 1, rfl, by omega, ?_, ?_, fle_of (by simp [flook])⟩
          · omega
          · intro b hb; (try simp (disch := first | omega | (simp only [nx_push, nx_set, nx_kill]; done) | (simp only [nx_push, nx_set, nx_kill]; omega)) only [get_push_ne, get_push_eq, get_set_ne, get_set_eq, get_kill_ne, nx_push, nx_set, nx_kill]); exact hk b hb
          · (try simp (disch := first | omega | (simp only [nx_push, nx_set, nx_kill]; done) | (simp only [nx_push, nx_set, nx_kill]; omega)) only [get_push_ne, get_push_eq, get_set_ne, get_set_eq, get_kill_ne, nx_push, nx_set, nx_kill]); omega
    · simp (disch := first | omega | (show allOne _ = true; simp [allOne, Value.oneCell']) | (simp only [List.length_cons, List.length_nil, List.length_set, List.length_map, List.length_replicate, List.length_append, List.length_take, List.length_drop, Int.toNat_natCast, Int.toNat_of_nonneg, nx_push, nx_set, nx_kill]; done) | (simp only [List.length_cons, List.length_nil, List.length_set, List.length_map, List.length_replicate, List.length_append, List.length_take, List.length_drop, Int.toNat_natCast, Int.toNat_of_nonneg, nx_push, nx_set, nx_kill]; omega)) only [go_sem, reduceCtorEq, Nat.reduceAdd, Nat.reduceSub, Nat.reduceMul, Nat.reduceLT, Nat.reduceLeDiff, Nat.reduceEqDiff, Nat.reduceBEq, Nat.reduceBNe, Int.reduceBEq, Int.reduceEq, Int.reduceLT, Int.reduceLE, Int.reduceAdd, Int.reduceSub, ↓reduceIte, Int.reduceToNat, Nat.reduceShiftRight, Nat.reduceAnd]
      exact hR H' hk hn
end Go.HL
