/-
  Walks: a thing's words.
-/
import Derived.Test.YtaghhialaplgoaaGreatDoorPFC2
set_option linter.unusedVariables false
set_option linter.unusedSimpArgs false
namespace Go.HL
open Go.RowKit Go.Proofs
set_option maxHeartbeats 4000000
set_option maxRecDepth 100000
set_option linter.unusedSimpArgs false
set_option linter.unusedVariables false
def wordsN (T : Things) (w : Nat) : List Nat := match findT T w with | some t => t.l | none => []
theorem wordsN_len (T : Things) (w : Nat) : (wordsN T w).length = lenN T w := by unfold wordsN lenN; cases findT T w <;> rfl
theorem getV_words {T : Things} {w i : Nat} (h : i < lenN T w) : getV T w i = .tuple #[U ((wordsN T w).getD i 0), I 0] := by
  unfold lenN at h; unfold getV wordsN
  split at h
  · rename_i t ht; rw [ht]; simp only; rw [if_pos (by omega)]; simp
  · omega
theorem move_words (H : HHeap) (g gw gh size : Nat) (T : Things) (hA : AtA H g gw gh size T) (hlt : g < H.next ∧ gw < H.next ∧ gh < H.next) (w : Nat) (hw : w < 18446744073709551616) (R : Value → HHeap → Prop)
    (hR : R (.slice (some ⟨H.next, 0, none⟩) (lenN T w) (lenN T w)) (H.push (.cells ((wordsN T w).map U) true))) : HCalls Tryz.prog 52 [ptr g 0, U w] H R := by
  have hlen : lenN T w ≤ 255 := by
    unfold lenN; cases h : findT T w with
    | none => simp
    | some t =>
      have ha : atP T (w / 8) = some t := by unfold findT at h; split at h <;> first | exact h | cases h
      exact (hA.ok t (atP_words T _ t ha).2.2.2).len
  refine HCalls.of_hw Tryz.func52 rfl _ Tryz.ntmps52 _ (by rw [Tryz.results52]) ?_
  rw [hframe0_eq _ _ (by simp)]
  simp only [List.zipIdx_cons, List.zipIdx_nil, List.map_cons, List.map_nil, Nat.reduceAdd]
  simp (disch := first | omega | (show allOne _ = true; simp [allOne, Value.oneCell', S]) | (simp only [qz]; first | done | omega)) only [go_sem]
  refine arena_Len _ _ _ _ _ _ hA w hw _ ?_
  simp (disch := first | omega | (show allOne _ = true; simp [allOne, Value.oneCell', S]) | (simp only [qz]; first | done | omega)) only [go_sem, mks_ok]
  refine Hwp.loop (fun m fr H' => ∃ i, m = lenN T w - i ∧ i ≤ lenN T w ∧ H' = H.push (.cells (((wordsN T w).map U).take i ++ List.replicate (lenN T w - i) (.int .u64 0)) true) ∧
     FLe (hfr 28 [(13, I i), (12, I (lenN T w)), (5, .slice (some ⟨H.next, 0, none⟩) (lenN T w) (lenN T w)), (0, ptr g 0), (1, U w)]) fr) (lenN T w) ?_ ?_
  · refine ⟨0, by omega, by omega, by simp, fle_of (by simp [flook])⟩
  rintro m fr H' ⟨i, rfl, hi, rfl, hle⟩
  refine Hwp.weaken hle (HW.sound _ _ _ _ ?_)
  by_cases hc : i < lenN T w
  · simp (disch := first | omega | (show allOne _ = true; simp [allOne, Value.oneCell', S]) | (simp only [qz]; first | done | omega)) only [go_sem]
    have hA' : AtA (H.push (.cells (((wordsN T w).map U).take i ++ List.replicate (lenN T w - i) (.int .u64 0)) true)) g gw gh size T :=
      ⟨by simp (disch := first | omega | (simp only [nx_push, nx_set, nx_kill]; done) | (simp only [nx_push, nx_set, nx_kill]; omega)) only [get_push_ne, get_push_eq, get_set_ne, get_set_eq, get_kill_ne, nx_push, nx_set, nx_kill]; exact hA.a, by simp (disch := first | omega | (simp only [nx_push, nx_set, nx_kill]; done) | (simp only [nx_push, nx_set, nx_kill]; omega)) only [get_push_ne, get_push_eq, get_set_ne, get_set_eq, get_kill_ne, nx_push, nx_set, nx_kill]; exact hA.w, by simp (disch := first | omega | (simp only [nx_push, nx_set, nx_kill]; done) | (simp only [nx_push, nx_set, nx_kill]; omega)) only [get_push_ne, get_push_eq, get_set_ne, get_set_eq, get_kill_ne, nx_push, nx_set, nx_kill]; exact hA.h, hA.room, hA.big, hA.pos, hA.ok, hA.ne1, hA.ne2, hA.ne3⟩
    refine arena_Get _ _ _ _ _ _ hA' w hw i _ ?_
    rw [getV_words hc]
    have hl2 := wordsN_len T w
    simp (disch := first | omega | (show allOne _ = true; simp [allOne, Value.oneCell', S]) | (simp only [qz]; first | done | omega)) only [go_sem, ixa_ok, stc_cells]
    refine ⟨_, ?_, i + 1, rfl, by omega, ?_, fle_of (by simp [flook])⟩
    · omega
    · rw [push_set, fill_step (by simpa using hl2) hc]
      rw [List.getElem?_map, List.getElem?_eq_getElem (by omega)]
      simp [List.getD, hl2, hc]
  · simp (disch := first | omega | (show allOne _ = true; simp [allOne, Value.oneCell', S]) | (simp only [qz]; first | done | omega)) only [go_sem]
    rw [show lenN T w - i = 0 by omega, List.replicate_zero, List.append_nil, List.take_of_length_le (by simp [wordsN_len]; omega)]
    exact hR
end Go.HL
