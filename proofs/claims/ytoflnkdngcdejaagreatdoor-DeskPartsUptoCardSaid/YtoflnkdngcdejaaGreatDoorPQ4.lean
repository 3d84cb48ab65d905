/-
  Walks: the words of a line, the document's.
-/
import Derived.Test.YtoflnkdngcdejaaGreatDoorPQ3
set_option linter.unusedVariables false
set_option linter.unusedSimpArgs false
namespace Go.HL
open Go.RowKit Go.Proofs
set_option maxHeartbeats 4000000
set_option maxRecDepth 100000
set_option linter.unusedSimpArgs false
set_option linter.unusedVariables false
/-- A row of texts grows by one. -/
theorem HGo_txt {K : HHeap} {b b' : Nat} {sp : Option Nat} {ws : List (List UInt8)} {x : List UInt8} {by' : Nat} (hne : ws ≠ []) (hb : K.get b = some (.cells (ws.map S) true)) (hsp : sp = none ∨ sp = some (2 * 1)) (hg : K.get b' = some (.cells [S x] true)) (h1 : (ws.length + 1) * by' ≤ 1099511627776) (h2 : ws.length + 1 ≤ 1099511627776)
    {next : Value → HHeap → Prop} (hnext : ∀ H', H'.get K.next = some (.cells ((ws ++ [x]).map S) true) → H'.next = K.next + 1 → (∀ c, c < K.next → c ≠ b → H'.get c = K.get c) → next (.slice (some ⟨K.next, 0, some (2 * 1)⟩) (ws.length + 1) (ws.length + 1)) H') :
    HGo (hb1 (apd K 1 by' (.slice (some ⟨b, 0, sp⟩) ws.length ws.length)) (hsource K 1 (.slice (some ⟨b', 0, none⟩) 1 1))) next := by
  have hl : 0 < ws.length := by cases ws with | nil => exact absurd rfl hne | cons _ _ => simp
  rw [hsource_slice, hg, hsrc_cells _ _ _ _ _ (by omega) (by simp)]
  unfold hb1
  simp only
  rw [apd_some _ _ _ _ _ _ _ _ _ (by omega) h1 h2, hb]
  have e1 : ((ws.map S).drop 0).take (ws.length * 1) = ws.map S := by rw [List.drop_zero, List.take_of_length_le (by simp)]
  have e2 : (([S x] : List Value).drop 0).take (1 * 1) = [S x] := rfl
  rw [e2]
  rcases hsp with rfl | rfl
  · have e : apo K 1 b 0 none ws.length ws.length 1 [S x] (some (.cells (ws.map S) true)) = some (.slice (some ⟨K.next, 0, some (2 * 1)⟩) (ws.length + 1) (ws.length + 1), K.push (.cells (ws.map S ++ [S x]) true)) := by
      unfold apo
      simp only
      rw [if_neg (by omega), if_pos (by simp), e1]
    rw [e, HGo_some]
    refine hnext _ (by rw [get_push_same, List.map_append]; rfl) (by rw [nx_push]) fun c hc hcb => get_push_ne _ _ (by omega)
  · have e := apo_grow (H := K) 1 b ws.length 1 [S x] (ws.map S) (by omega) (by omega) (by simp)
    rw [e, HGo_some]
    refine hnext _ (by rw [get_push_eq _ _ (by rw [nx_kill]), List.map_append]; rfl) (by rw [nx_push, nx_kill]) fun c hc hcb => ?_
    rw [get_push_ne _ _ (by rw [nx_kill]; omega), get_kill_ne _ _ hcb]
theorem set_last {α : Type} : ∀ (ws : List α) (x : α), ws ≠ [] → ws.set (ws.length - 1) x = ws.dropLast ++ [x]
  | [], _, h => absurd rfl h
  | [y], x, _ => rfl
  | y :: z :: ws, x, _ => by
    have := set_last (z :: ws) x (by simp)
    simp only [List.length_cons, Nat.add_sub_cancel] at this ⊢
    rw [List.set_cons_succ, this]; rfl
theorem snocW_set {ws : List (List UInt8)} {w : List UInt8} {b : UInt8} (hne : ws ≠ []) (hw : ws[ws.length - 1]? = some w) (hb : b ≠ 32) : (ws.map S).set (ws.length - 1) (S (w ++ [b])) = (snocW ws b).map S := by
  rw [← List.map_set]
  congr 1
  unfold snocW
  rw [if_neg hb, set_last ws _ hne]
  congr 3
  rw [List.getLast?_eq_getElem?, hw]; rfl
theorem ref_Words (l : List UInt8) (hs : l.length ≤ 1000000000) (H : HHeap) (R : Value → HHeap → Prop) (hR : ∀ v H', Old H H' → wordsV H' v l → R v H') : HCalls Tryz.prog 5 [S l] H R := by
  have bad : ∀ (i : Nat) (b : UInt8) (H' : HHeap), l[i]? = some b → plainB b = false → Old H H' → R (.tuple #[.slice none 0 0, .bool false]) H' := fun i b H' hb hp hO =>
    hR _ _ hO (by unfold wordsV; rw [plain_at hb hp])
  refine HCalls.of_hw Tryz.func5 rfl _ Tryz.ntmps5 _ (by rw [Tryz.results5]) ?_
  rw [hframe0_eq _ _ (by simp)]
  simp only [List.zipIdx_cons, List.zipIdx_nil, List.map_cons, List.map_nil, Nat.reduceAdd]
  simp (disch := first | omega | (show allOne _ = true; simp [allOne, Value.oneCell', S]) | (simp only [List.length_cons, List.length_nil, List.length_set, List.length_map, List.length_replicate, List.length_append, List.length_take, List.length_drop, Int.toNat_natCast, Int.toNat_of_nonneg, nx_push, nx_set, nx_kill]; done) | (simp only [List.length_cons, List.length_nil, List.length_set, List.length_map, List.length_replicate, List.length_append, List.length_take, List.length_drop, Int.toNat_natCast, Int.toNat_of_nonneg, nx_push, nx_set, nx_kill]; omega)) only [go_sem, reduceCtorEq, Nat.reduceAdd, Nat.reduceSub, Nat.reduceMul, Nat.reduceLT, Nat.reduceLeDiff, Nat.reduceEqDiff, Nat.reduceBEq, Nat.reduceBNe, Int.reduceBEq, Int.reduceEq, Int.reduceLT, Int.reduceLE, Int.reduceAdd, Int.reduceSub, ↓reduceIte, Int.reduceToNat, Nat.reduceShiftRight, Nat.reduceAnd]
  refine Hwp.loop (fun n fr H' => ∃ i b sp, n = l.length - i ∧ i ≤ l.length ∧ H.next ≤ b ∧ b < H'.next ∧ Old H H' ∧ H'.get b = some (.cells ((cutW (l.take i)).map S) true) ∧ (sp = none ∨ sp = some (2 * 1)) ∧ (∀ j, j < i → ∀ b, l[j]? = some b → plainB b = true) ∧
    FLe (hfr 60 [(5, I i), (4, .slice (some ⟨b, 0, sp⟩) (cutW (l.take i)).length (cutW (l.take i)).length), (0, S l)]) fr) l.length ?_ ?_
  · exact ⟨0, H.next, none, by omega, by omega, Nat.le_refl _, by rw [nx_push]; omega, Old.push _ _, by rw [get_push_same]; rfl, .inl rfl, fun j hj => by omega, fle_of (by simp [flook, cutW])⟩
  · rintro n fr H' ⟨i, rb, sp, rfl, hi, hb0, hbn, hO, hg, hsp, hpl, hle⟩
    refine Hwp.weaken hle (HW.sound _ _ _ _ ?_)
    generalize hws : cutW (l.take i) = ws at *
    have hne : ws ≠ [] := by rw [← hws]; exact cutW_ne _
    have hwl : ws.length ≤ l.length + 1 := by
      have := cutW_sum (l.take i)
      rw [hws, List.length_take] at this; omega
    have hwp : 0 < ws.length := by cases ws with | nil => exact absurd rfl hne | cons _ _ => simp
    by_cases hc : i < l.length
    · obtain ⟨b, hb⟩ : ∃ b, l[i]? = some b := ⟨_, List.getElem?_eq_getElem hc⟩
      have hnext : cutW (l.take (i + 1)) = snocW ws b := by rw [List.take_add_one, hb, ← hws]; exact cutW_snoc _ _
      have hlast : ((ws.length : Nat) : Int) - 1 = ((ws.length - 1 : Nat) : Int) := by omega
      by_cases h32 : b.toNat = 32
      · have h32' : b = 32 := UInt8.toNat_inj.1 (by simpa using h32)
        subst h32'
        have hnext' : cutW (l.take (i + 1)) = ws ++ [[]] := by rw [hnext]; unfold snocW; rw [if_pos rfl]
        simp (disch := first | omega | (show allOne _ = true; simp [allOne, Value.oneCell', S]) | (simp only [List.length_cons, List.length_nil, List.length_set, List.length_map, List.length_replicate, List.length_append, List.length_take, List.length_drop, Int.toNat_natCast, Int.toNat_of_nonneg, nx_push, nx_set, nx_kill]; done) | (simp only [List.length_cons, List.length_nil, List.length_set, List.length_map, List.length_replicate, List.length_append, List.length_take, List.length_drop, Int.toNat_natCast, Int.toNat_of_nonneg, nx_push, nx_set, nx_kill]; omega)) only [go_sem, reduceCtorEq, Nat.reduceAdd, Nat.reduceSub, Nat.reduceMul, Nat.reduceLT, Nat.reduceLeDiff, Nat.reduceEqDiff, Nat.reduceBEq, Nat.reduceBNe, Int.reduceBEq, Int.reduceEq, Int.reduceLT, Int.reduceLE, Int.reduceAdd, Int.reduceSub, ↓reduceIte, Int.reduceToNat, Nat.reduceShiftRight, Nat.reduceAnd, six_ok, hb, hlast]
        refine HGo_txt (K := H'.push _) hne (by rw [get_push_ne _ _ (by omega)]; exact hg) hsp (get_push_same _) (by omega) (by omega) ?_
        intro H2 e1 e2 e3
        rw [nx_push] at e1 e2 e3
        simp (disch := first | omega | (show allOne _ = true; simp [allOne, Value.oneCell', S]) | (simp only [List.length_cons, List.length_nil, List.length_set, List.length_map, List.length_replicate, List.length_append, List.length_take, List.length_drop, Int.toNat_natCast, Int.toNat_of_nonneg, nx_push, nx_set, nx_kill]; done) | (simp only [List.length_cons, List.length_nil, List.length_set, List.length_map, List.length_replicate, List.length_append, List.length_take, List.length_drop, Int.toNat_natCast, Int.toNat_of_nonneg, nx_push, nx_set, nx_kill]; omega)) only [go_sem, reduceCtorEq, Nat.reduceAdd, Nat.reduceSub, Nat.reduceMul, Nat.reduceLT, Nat.reduceLeDiff, Nat.reduceEqDiff, Nat.reduceBEq, Nat.reduceBNe, Int.reduceBEq, Int.reduceEq, Int.reduceLT, Int.reduceLE, Int.reduceAdd, Int.reduceSub, ↓reduceIte, Int.reduceToNat, Nat.reduceShiftRight, Nat.reduceAnd]
        refine ⟨_, ?_, i + 1, H'.next + 1, some (2 * 1), rfl, by omega, by omega, by omega, ⟨by omega, fun c hc => ?_⟩, by rw [hnext']; exact e1, .inr rfl, fun j hj c hj' => ?_, fle_of (by simp [flook, hnext'])⟩
        · omega
        · have := hO.1
          rw [e3 c (by omega) (by omega), get_push_ne _ _ (by omega), hO.2 c hc]
        · rcases Nat.lt_or_ge j i with h | h
          · exact hpl j h c hj'
          · rw [show j = i by omega, hb] at hj'; cases hj'; rfl
      · by_cases hp : plainB b = true
        · have hp' : 32 ≤ b.toNat ∧ b.toNat ≤ 126 := by simpa [plainB] using hp
          obtain ⟨w, hw⟩ : ∃ w, ws[ws.length - 1]? = some w := ⟨_, List.getElem?_eq_getElem (by omega)⟩
          have hwv : (ws.map S)[ws.length - 1]? = some (S w) := by rw [List.getElem?_map, hw]; rfl
          have hone : ssl l (some (I i)) (some (.int .i64 ((i : Int) + 1))) = some (S [b]) := by
            rw [show ((i : Int) + 1) = ((i + 1 : Nat) : Int) by omega]
            rw [show (I i : Value) = .int .i64 (i : Int) from rfl, ssl_lh l i (i + 1) _ _ (by omega) (by omega)]
            rw [List.take_add_one, hb, List.drop_append_of_le_length (by rw [List.length_take]; omega), List.drop_eq_nil_of_le (by rw [List.length_take]; omega)]
            rfl
          have hwlen : w.length ≤ l.length := by
            have := cutW_short (l.take i) w (by rw [hws]; exact List.mem_of_getElem? hw)
            rw [List.length_take] at this; omega
          simp (disch := first | omega | (show allOne _ = true; simp [allOne, Value.oneCell', S]) | (simp only [List.length_cons, List.length_nil, List.length_set, List.length_map, List.length_replicate, List.length_append, List.length_take, List.length_drop, Int.toNat_natCast, Int.toNat_of_nonneg, nx_push, nx_set, nx_kill]; done) | (simp only [List.length_cons, List.length_nil, List.length_set, List.length_map, List.length_replicate, List.length_append, List.length_take, List.length_drop, Int.toNat_natCast, Int.toNat_of_nonneg, nx_push, nx_set, nx_kill]; omega)) only [go_sem, reduceCtorEq, Nat.reduceAdd, Nat.reduceSub, Nat.reduceMul, Nat.reduceLT, Nat.reduceLeDiff, Nat.reduceEqDiff, Nat.reduceBEq, Nat.reduceBNe, Int.reduceBEq, Int.reduceEq, Int.reduceLT, Int.reduceLE, Int.reduceAdd, Int.reduceSub, ↓reduceIte, Int.reduceToNat, Nat.reduceShiftRight, Nat.reduceAnd, six_ok, hb, hlast]
          refine Hwp.drawn mixed [0, 0, 0, 0, 12, 28, 0, 0, 0, 256, 960, 2044, 4095, 8191] (.op 0 (.op 1 (.op 2 (.op 3 (.op 4 (.op 5 (.op 6 (.op 7 (.op 8 (.op 9 (.op 10 (.op 11 (.op 12 (.eff 13 .done .stop)))))))))))))) (by kernel_rfl) ?_
          have hb32 : b ≠ 32 := fun e => h32 (by rw [e]; rfl)
          have hset := snocW_set hne hw hb32
          have hlen : (snocW ws b).length = ws.length := by
            have := congrArg List.length hset
            simpa using this.symm
          simp (disch := first | omega | (show allOne _ = true; simp [allOne, Value.oneCell', S]) | (simp only [List.length_cons, List.length_nil, List.length_set, List.length_map, List.length_replicate, List.length_append, List.length_take, List.length_drop, Int.toNat_natCast, Int.toNat_of_nonneg, nx_push, nx_set, nx_kill]; done) | (simp only [List.length_cons, List.length_nil, List.length_set, List.length_map, List.length_replicate, List.length_append, List.length_take, List.length_drop, Int.toNat_natCast, Int.toNat_of_nonneg, nx_push, nx_set, nx_kill]; omega)) only [go_sem, reduceCtorEq, Nat.reduceAdd, Nat.reduceSub, Nat.reduceMul, Nat.reduceLT, Nat.reduceLeDiff, Nat.reduceEqDiff, Nat.reduceBEq, Nat.reduceBNe, Int.reduceBEq, Int.reduceEq, Int.reduceLT, Int.reduceLE, Int.reduceAdd, Int.reduceSub, ↓reduceIte, Int.reduceToNat, Nat.reduceShiftRight, Nat.reduceAnd, hlast, ixa_ok, hg, ldc, hwv, hone, sadd_ok, stc_cells, hset]
          refine ⟨_, ?_, i + 1, rb, sp, rfl, by omega, by omega, hbn, ⟨hO.1, fun c hc => ?_⟩, by rw [hnext]; exact get_set_same _ _, hsp, fun j hj c hj' => ?_, fle_of (by simp [flook, hnext, hlen])⟩
          · omega
          · rw [get_set_ne _ _ _ (by omega), hO.2 c hc]
          · rcases Nat.lt_or_ge j i with h | h
            · exact hpl j h c hj'
            · rw [show j = i by omega, hb] at hj'; cases hj'; exact hp
        · have hp : plainB b = false := by simpa using hp
          have hp' : b.toNat < 32 ∨ 126 < b.toNat := by
            unfold plainB at hp; rw [decide_eq_false_iff_not] at hp; omega
          rcases hp' with hp' | hp'
          · simp (disch := first | omega | (show allOne _ = true; simp [allOne, Value.oneCell', S]) | (simp only [List.length_cons, List.length_nil, List.length_set, List.length_map, List.length_replicate, List.length_append, List.length_take, List.length_drop, Int.toNat_natCast, Int.toNat_of_nonneg, nx_push, nx_set, nx_kill]; done) | (simp only [List.length_cons, List.length_nil, List.length_set, List.length_map, List.length_replicate, List.length_append, List.length_take, List.length_drop, Int.toNat_natCast, Int.toNat_of_nonneg, nx_push, nx_set, nx_kill]; omega)) only [go_sem, reduceCtorEq, Nat.reduceAdd, Nat.reduceSub, Nat.reduceMul, Nat.reduceLT, Nat.reduceLeDiff, Nat.reduceEqDiff, Nat.reduceBEq, Nat.reduceBNe, Int.reduceBEq, Int.reduceEq, Int.reduceLT, Int.reduceLE, Int.reduceAdd, Int.reduceSub, ↓reduceIte, Int.reduceToNat, Nat.reduceShiftRight, Nat.reduceAnd, six_ok, hb]
            exact bad i b _ hb hp hO
          · simp (disch := first | omega | (show allOne _ = true; simp [allOne, Value.oneCell', S]) | (simp only [List.length_cons, List.length_nil, List.length_set, List.length_map, List.length_replicate, List.length_append, List.length_take, List.length_drop, Int.toNat_natCast, Int.toNat_of_nonneg, nx_push, nx_set, nx_kill]; done) | (simp only [List.length_cons, List.length_nil, List.length_set, List.length_map, List.length_replicate, List.length_append, List.length_take, List.length_drop, Int.toNat_natCast, Int.toNat_of_nonneg, nx_push, nx_set, nx_kill]; omega)) only [go_sem, reduceCtorEq, Nat.reduceAdd, Nat.reduceSub, Nat.reduceMul, Nat.reduceLT, Nat.reduceLeDiff, Nat.reduceEqDiff, Nat.reduceBEq, Nat.reduceBNe, Int.reduceBEq, Int.reduceEq, Int.reduceLT, Int.reduceLE, Int.reduceAdd, Int.reduceSub, ↓reduceIte, Int.reduceToNat, Nat.reduceShiftRight, Nat.reduceAnd, six_ok, hb]
            exact bad i b _ hb hp hO
    · have hall : ∀ b ∈ l, plainB b = true := fun b hb => by
        obtain ⟨j, hj⟩ := List.mem_iff_getElem?.1 hb
        exact hpl j (by have := (List.getElem?_eq_some_iff.1 hj).1; omega) b hj
      have hcw : cutW l = ws := by rw [← hws, List.take_of_length_le (by omega)]
      simp (disch := first | omega | (show allOne _ = true; simp [allOne, Value.oneCell', S]) | (simp only [List.length_cons, List.length_nil, List.length_set, List.length_map, List.length_replicate, List.length_append, List.length_take, List.length_drop, Int.toNat_natCast, Int.toNat_of_nonneg, nx_push, nx_set, nx_kill]; done) | (simp only [List.length_cons, List.length_nil, List.length_set, List.length_map, List.length_replicate, List.length_append, List.length_take, List.length_drop, Int.toNat_natCast, Int.toNat_of_nonneg, nx_push, nx_set, nx_kill]; omega)) only [go_sem, reduceCtorEq, Nat.reduceAdd, Nat.reduceSub, Nat.reduceMul, Nat.reduceLT, Nat.reduceLeDiff, Nat.reduceEqDiff, Nat.reduceBEq, Nat.reduceBNe, Int.reduceBEq, Int.reduceEq, Int.reduceLT, Int.reduceLE, Int.reduceAdd, Int.reduceSub, ↓reduceIte, Int.reduceToNat, Nat.reduceShiftRight, Nat.reduceAnd]
      refine Hwp.loop (fun n fr H2 => ∃ j, n = ws.length - j ∧ j ≤ ws.length ∧ H2 = H' ∧ (∀ k, k < j → ∀ w, ws[k]? = some w → w ≠ []) ∧ FLe (hfr 60 [(7, I j), (4, .slice (some ⟨rb, 0, sp⟩) ws.length ws.length)]) fr) ws.length ?_ ?_
      · exact ⟨0, by omega, by omega, rfl, fun k hk => by omega, fle_of (by simp [flook])⟩
      · rintro n fr2 H2 ⟨j, rfl, hj, rfl, hne2, hle2⟩
        refine Hwp.weaken hle2 (HW.sound _ _ _ _ ?_)
        by_cases hcj : j < ws.length
        · obtain ⟨w, hw⟩ : ∃ w, ws[j]? = some w := ⟨_, List.getElem?_eq_getElem hcj⟩
          have hv : (ws.map S)[j]? = some (S w) := by rw [List.getElem?_map, hw]; rfl
          by_cases he : w = []
          · subst he
            simp (disch := first | omega | (show allOne _ = true; simp [allOne, Value.oneCell', S]) | (simp only [List.length_cons, List.length_nil, List.length_set, List.length_map, List.length_replicate, List.length_append, List.length_take, List.length_drop, Int.toNat_natCast, Int.toNat_of_nonneg, nx_push, nx_set, nx_kill]; done) | (simp only [List.length_cons, List.length_nil, List.length_set, List.length_map, List.length_replicate, List.length_append, List.length_take, List.length_drop, Int.toNat_natCast, Int.toNat_of_nonneg, nx_push, nx_set, nx_kill]; omega)) only [go_sem, reduceCtorEq, Nat.reduceAdd, Nat.reduceSub, Nat.reduceMul, Nat.reduceLT, Nat.reduceLeDiff, Nat.reduceEqDiff, Nat.reduceBEq, Nat.reduceBNe, Int.reduceBEq, Int.reduceEq, Int.reduceLT, Int.reduceLE, Int.reduceAdd, Int.reduceSub, ↓reduceIte, Int.reduceToNat, Nat.reduceShiftRight, Nat.reduceAnd, hg, ldc, hv, ixa_ok]
            exact hR _ _ hO (by unfold wordsV; rw [empty_at (by rw [hcw]; exact hw)])
          · have he' : (w == []) = false := by simpa using he
            simp (disch := first | omega | (show allOne _ = true; simp [allOne, Value.oneCell', S]) | (simp only [List.length_cons, List.length_nil, List.length_set, List.length_map, List.length_replicate, List.length_append, List.length_take, List.length_drop, Int.toNat_natCast, Int.toNat_of_nonneg, nx_push, nx_set, nx_kill]; done) | (simp only [List.length_cons, List.length_nil, List.length_set, List.length_map, List.length_replicate, List.length_append, List.length_take, List.length_drop, Int.toNat_natCast, Int.toNat_of_nonneg, nx_push, nx_set, nx_kill]; omega)) only [go_sem, reduceCtorEq, Nat.reduceAdd, Nat.reduceSub, Nat.reduceMul, Nat.reduceLT, Nat.reduceLeDiff, Nat.reduceEqDiff, Nat.reduceBEq, Nat.reduceBNe, Int.reduceBEq, Int.reduceEq, Int.reduceLT, Int.reduceLE, Int.reduceAdd, Int.reduceSub, ↓reduceIte, Int.reduceToNat, Nat.reduceShiftRight, Nat.reduceAnd, hg, ldc, hv, ixa_ok, he']
            refine ⟨_, ?_, j + 1, rfl, by omega, fun k hk u hu => ?_, fle_of (by simp [flook])⟩
            · omega
            · rcases Nat.lt_or_ge k j with h | h
              · exact hne2 k h u hu
              · rw [show k = j by omega, hw] at hu; cases hu; exact he
        · simp (disch := first | omega | (show allOne _ = true; simp [allOne, Value.oneCell', S]) | (simp only [List.length_cons, List.length_nil, List.length_set, List.length_map, List.length_replicate, List.length_append, List.length_take, List.length_drop, Int.toNat_natCast, Int.toNat_of_nonneg, nx_push, nx_set, nx_kill]; done) | (simp only [List.length_cons, List.length_nil, List.length_set, List.length_map, List.length_replicate, List.length_append, List.length_take, List.length_drop, Int.toNat_natCast, Int.toNat_of_nonneg, nx_push, nx_set, nx_kill]; omega)) only [go_sem, reduceCtorEq, Nat.reduceAdd, Nat.reduceSub, Nat.reduceMul, Nat.reduceLT, Nat.reduceLeDiff, Nat.reduceEqDiff, Nat.reduceBEq, Nat.reduceBNe, Int.reduceBEq, Int.reduceEq, Int.reduceLT, Int.reduceLE, Int.reduceAdd, Int.reduceSub, ↓reduceIte, Int.reduceToNat, Nat.reduceShiftRight, Nat.reduceAnd]
          refine hR _ _ hO ?_
          unfold wordsV
          rw [words_at hall (fun w hw => by
            rw [hcw] at hw
            obtain ⟨k, hk⟩ := List.mem_iff_getElem?.1 hw
            exact hne2 k (by have := (List.getElem?_eq_some_iff.1 hk).1; omega) w hk), hcw]
          exact ⟨rb, sp, ws.length, rfl, hbn, hg⟩
end Go.HL
