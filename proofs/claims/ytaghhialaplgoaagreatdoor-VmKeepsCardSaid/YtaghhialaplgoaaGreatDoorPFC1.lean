/-
  Walks: words, arenas (reading).
-/
import Derived.Test.YtaghhialaplgoaaGreatDoorPFA2
import Derived.Test.YtaghhialaplgoaaGreatDoorPFT
set_option linter.unusedVariables false
set_option linter.unusedSimpArgs false
namespace Go.HL
open Go.RowKit Go.Proofs
set_option maxHeartbeats 4000000
set_option maxRecDepth 100000
set_option linter.unusedSimpArgs false

/-- Is it the word of a place? -/
def toV (x : Nat) : Value := if x % 8 = 1 ∧ x / 8 < 1099511627776 then .tuple #[I (x / 8 : Nat), .bool true] else .tuple #[I 0, .bool false]
theorem word_To (x : Nat) (hx : x < 18446744073709551616) (H : HHeap) (R : Value → HHeap → Prop) (hR : R (toV x) H) : HCalls Tryz.prog 73 [I 1, U x] H R := by
  refine HCalls.of_hw Tryz.func73 rfl _ Tryz.ntmps73 _ (by rw [Tryz.results73]) ?_
  rw [hframe0_eq _ _ (by simp)]
  simp only [List.zipIdx_cons, List.zipIdx_nil, List.map_cons, List.map_nil, Nat.reduceAdd]
  by_cases h1 : x % 8 = 1
  · by_cases h2 : x / 8 < 1099511627776
    · rw [toV, if_pos ⟨h1, h2⟩] at hR
      simp (disch := first | omega | (show allOne _ = true; simp [allOne, Value.oneCell', S]) | (simp only [qz]; first | done | omega)) only [go_sem]
      exact hR
    · rw [toV, if_neg (by simp [h2])] at hR
      simp (disch := first | omega | (show allOne _ = true; simp [allOne, Value.oneCell', S]) | (simp only [qz]; first | done | omega)) only [go_sem]
      exact hR
  · rw [toV, if_neg (by simp [h1])] at hR
    simp (disch := first | omega | (show allOne _ = true; simp [allOne, Value.oneCell', S]) | (simp only [qz]; first | done | omega)) only [go_sem]
    exact hR

theorem word_Of (n : Nat) (hn : n < 1099511627776) (H : HHeap) (R : Value → HHeap → Prop) (hR : R (.tuple #[U (wordAt n), I 0]) H) : HCalls Tryz.prog 75 [I 1, I n] H R := by
  refine HCalls.of_hw Tryz.func75 rfl _ Tryz.ntmps75 _ (by rw [Tryz.results75]) ?_
  rw [hframe0_eq _ _ (by simp)]
  simp only [List.zipIdx_cons, List.zipIdx_nil, List.map_cons, List.map_nil, Nat.reduceAdd]
  simp (disch := first | omega | (show allOne _ = true; simp [allOne, Value.oneCell', S]) | (simp only [qz]; first | done | omega)) only [go_sem]
  exact hR

theorem arena_Used (H : HHeap) (g gw gh size : Nat) (T : Things) (hA : AtA H g gw gh size T) (R : Value → HHeap → Prop) (hR : R (I (usedOf T)) H) : HCalls Tryz.prog 12 [ptr g 0] H R := by
  refine HCalls.of_hw Tryz.func12 rfl _ Tryz.ntmps12 _ (by rw [Tryz.results12]) ?_
  rw [hframe0_eq _ _ (by simp)]
  simp only [List.zipIdx_cons, List.zipIdx_nil, List.map_cons, List.map_nil, Nat.reduceAdd]
  simp (disch := first | omega | (show allOne _ = true; simp [allOne, Value.oneCell', S]) | (simp only [qz]; first | done | omega)) only [go_sem, hA.a, ldc_cells, acells]
  exact hR
theorem arena_Size (H : HHeap) (g gw gh size : Nat) (T : Things) (hA : AtA H g gw gh size T) (R : Value → HHeap → Prop) (hR : R (I size) H) : HCalls Tryz.prog 48 [ptr g 0] H R := by
  refine HCalls.of_hw Tryz.func48 rfl _ Tryz.ntmps48 _ (by rw [Tryz.results48]) ?_
  rw [hframe0_eq _ _ (by simp)]
  simp only [List.zipIdx_cons, List.zipIdx_nil, List.map_cons, List.map_nil, Nat.reduceAdd]
  simp (disch := first | omega | (show allOne _ = true; simp [allOne, Value.oneCell', S]) | (simp only [qz]; first | done | omega)) only [go_sem, hA.a, ldc_cells, acells]
  exact hR
theorem arena_find (H : HHeap) (g gw gh size : Nat) (T : Things) (hA : AtA H g gw gh size T) (w : Nat) (hw : w < 18446744073709551616) (R : Value → HHeap → Prop) (hR : R (findV gw T w) H) : HCalls Tryz.prog 76 [ptr g 0, U w] H R := by
  refine HCalls.of_hw Tryz.func76 rfl _ Tryz.ntmps76 _ (by rw [Tryz.results76]) ?_
  rw [hframe0_eq _ _ (by simp)]
  simp only [List.zipIdx_cons, List.zipIdx_nil, List.map_cons, List.map_nil, Nat.reduceAdd]
  simp (disch := first | omega | (show allOne _ = true; simp [allOne, Value.oneCell', S]) | (simp only [qz]; first | done | omega)) only [go_sem, hA.a, ldc_cells, acells]
  refine word_To w hw _ _ ?_
  have hroom := hA.room
  have hbig := hA.big
  rw [toV]
  split
  · rename_i hh
    obtain ⟨h8, hlt⟩ := hh
    simp (disch := first | omega | (show allOne _ = true; simp [allOne, Value.oneCell', S]) | (simp only [qz]; first | done | omega)) only [go_sem, hA.a, ldc_cells, acells]
    refine arena_Used _ _ _ _ _ _ hA _ ?_
    by_cases hu : w / 8 < usedOf T
    · cases ha : atP T (w / 8) with
      | none =>
        have hn : findT T w = none := by rw [findT, if_pos h8, ha]
        rw [findV, hn] at hR
        simp (disch := first | omega | (show allOne _ = true; simp [allOne, Value.oneCell', S]) | (simp only [qz]; first | done | omega)) only [go_sem, hA.a, hA.h, ldc_cells, acells, hcells_get hu, ixa_ok, ha, Option.isSome_none]
        exact hR
      | some t =>
        obtain ⟨k1, k2, k3, k4⟩ := atP_words T _ t ha
        have hk := hA.ok t k4
        have e1 := hk.k1
        have e2 := hk.k9
        have e3 := hk.len
        have hn : findT T w = some t := by rw [findT, if_pos h8, ha]
        rw [findV, hn] at hR
        unfold Thing.room at k1
        have d1 : ((t.l.length * 256 + t.kind : Nat) : Int) / 256 = (t.l.length : Int) := by omega
        have d2 : ((t.l.length * 256 + t.kind : Nat) : Int) % 256 = (t.kind : Int) := by omega
        simp (disch := first | omega | (show allOne _ = true; simp [allOne, Value.oneCell', S]) | (simp only [qz]; first | done | omega)) only [go_sem, hA.a, hA.h, hA.w, ldc_cells, acells, hcells_get hu, ixa_ok, ha, Option.isSome_some, wcells_get ha, d1, d2, slx_lhm]
        simp only [Nat.add_sub_cancel_left, Nat.add_eq_left]
        exact hR
    · have hn : findT T w = none := by rw [findT, if_pos h8]; exact atP_none T _ (by omega)
      rw [findV, hn] at hR
      simp (disch := first | omega | (show allOne _ = true; simp [allOne, Value.oneCell', S]) | (simp only [qz]; first | done | omega)) only [go_sem, hA.a, ldc_cells, acells]
      exact hR
  · rename_i hh
    have hn : findT T w = none := by
      rw [findT]; split
      · exact atP_none T _ (by omega)
      · rfl
    rw [findV, hn] at hR
    simp (disch := first | omega | (show allOne _ = true; simp [allOne, Value.oneCell', S]) | (simp only [qz]; first | done | omega)) only [go_sem, hA.a, ldc_cells, acells]
    exact hR

def kindN (T : Things) (w : Nat) : Nat := match findT T w with | some t => t.kind | none => 0
def lenN (T : Things) (w : Nat) : Nat := match findT T w with | some t => t.l.length | none => 0
theorem arena_Kind (H : HHeap) (g gw gh size : Nat) (T : Things) (hA : AtA H g gw gh size T) (w : Nat) (hw : w < 18446744073709551616) (R : Value → HHeap → Prop) (hR : R (I (kindN T w)) H) : HCalls Tryz.prog 50 [ptr g 0, U w] H R := by
  refine HCalls.of_hw Tryz.func50 rfl _ Tryz.ntmps50 _ (by rw [Tryz.results50]) ?_
  rw [hframe0_eq _ _ (by simp)]
  simp only [List.zipIdx_cons, List.zipIdx_nil, List.map_cons, List.map_nil, Nat.reduceAdd]
  simp (disch := first | omega | (show allOne _ = true; simp [allOne, Value.oneCell', S]) | (simp only [qz]; first | done | omega)) only [go_sem]
  refine arena_find _ _ _ _ _ _ hA w hw _ ?_
  rw [findV]; rw [kindN] at hR
  cases h : findT T w with
  | none => rw [h] at hR; simp (disch := first | omega | (show allOne _ = true; simp [allOne, Value.oneCell', S]) | (simp only [qz]; first | done | omega)) only [go_sem]; exact hR
  | some t => rw [h] at hR; simp (disch := first | omega | (show allOne _ = true; simp [allOne, Value.oneCell', S]) | (simp only [qz]; first | done | omega)) only [go_sem]; exact hR
theorem arena_Len (H : HHeap) (g gw gh size : Nat) (T : Things) (hA : AtA H g gw gh size T) (w : Nat) (hw : w < 18446744073709551616) (R : Value → HHeap → Prop) (hR : R (I (lenN T w)) H) : HCalls Tryz.prog 51 [ptr g 0, U w] H R := by
  refine HCalls.of_hw Tryz.func51 rfl _ Tryz.ntmps51 _ (by rw [Tryz.results51]) ?_
  rw [hframe0_eq _ _ (by simp)]
  simp only [List.zipIdx_cons, List.zipIdx_nil, List.map_cons, List.map_nil, Nat.reduceAdd]
  simp (disch := first | omega | (show allOne _ = true; simp [allOne, Value.oneCell', S]) | (simp only [qz]; first | done | omega)) only [go_sem]
  refine arena_find _ _ _ _ _ _ hA w hw _ ?_
  rw [findV]; rw [lenN] at hR
  cases h : findT T w with
  | none => rw [h] at hR; simp (disch := first | omega | (show allOne _ = true; simp [allOne, Value.oneCell', S]) | (simp only [qz]; first | done | omega)) only [go_sem]; exact hR
  | some t => rw [h] at hR; simp (disch := first | omega | (show allOne _ = true; simp [allOne, Value.oneCell', S]) | (simp only [qz]; first | done | omega)) only [go_sem]; exact hR
/-- Where a thing's word is. -/
def atV (gw : Nat) (T : Things) (w : Nat) (i : Int) : Value :=
  match findT T w with
  | some t => if 0 ≤ i ∧ i < t.l.length then .tuple #[ptr gw (w / 8 + 1 + i.toNat), I 0] else .tuple #[.pointer none, I 1]
  | none => .tuple #[.pointer none, I 2]
theorem arena_at (H : HHeap) (g gw gh size : Nat) (T : Things) (hA : AtA H g gw gh size T) (w : Nat) (hw : w < 18446744073709551616) (i : Int) (R : Value → HHeap → Prop) (hR : R (atV gw T w i) H) : HCalls Tryz.prog 93 [ptr g 0, U w, I i] H R := by
  refine HCalls.of_hw Tryz.func93 rfl _ Tryz.ntmps93 _ (by rw [Tryz.results93]) ?_
  rw [hframe0_eq _ _ (by simp)]
  simp only [List.zipIdx_cons, List.zipIdx_nil, List.map_cons, List.map_nil, Nat.reduceAdd]
  simp (disch := first | omega | (show allOne _ = true; simp [allOne, Value.oneCell', S]) | (simp only [qz]; first | done | omega)) only [go_sem]
  refine arena_find _ _ _ _ _ _ hA w hw _ ?_
  rw [findV]; rw [atV] at hR
  cases h : findT T w with
  | none => rw [h] at hR; simp (disch := first | omega | (show allOne _ = true; simp [allOne, Value.oneCell', S]) | (simp only [qz]; first | done | omega)) only [go_sem]; exact hR
  | some t =>
    rw [h] at hR
    simp only at hR
    by_cases h0 : 0 ≤ i
    · by_cases h1 : i < t.l.length
      · rw [if_pos ⟨h0, h1⟩] at hR
        simp (disch := first | omega | (show allOne _ = true; simp [allOne, Value.oneCell', S]) | (simp only [qz]; first | done | omega)) only [go_sem, ixa_ok]
        rw [if_neg (by omega)]
        exact hR
      · rw [if_neg (by omega)] at hR
        simp (disch := first | omega | (show allOne _ = true; simp [allOne, Value.oneCell', S]) | (simp only [qz]; first | done | omega)) only [go_sem]
        exact hR
    · rw [if_neg (by omega)] at hR
      simp (disch := first | omega | (show allOne _ = true; simp [allOne, Value.oneCell', S]) | (simp only [qz]; first | done | omega)) only [go_sem]
      exact hR
def getV (T : Things) (w : Nat) (i : Int) : Value :=
  match findT T w with
  | some t => if 0 ≤ i ∧ i < t.l.length then .tuple #[U (t.l.getD i.toNat 0), I 0] else .tuple #[U 0, I 1]
  | none => .tuple #[U 0, I 2]
theorem wcells_word {size : Nat} {T : Things} {p : Nat} {t : Thing} (h : atP T p = some t) {i : Nat} (hi : i < t.l.length) : (wcells size T)[p + 1 + i]? = some (U (t.l.getD i 0)) := by
  have e := wcells_words (size := size) h
  have : (((wcells size T).drop (p + 1)).take t.l.length)[i]? = (t.l.map U)[i]? := by rw [e]
  rw [List.getElem?_take, if_pos hi, List.getElem?_drop, List.getElem?_map] at this
  rw [this]; simp [List.getD, hi]
theorem arena_Get (H : HHeap) (g gw gh size : Nat) (T : Things) (hA : AtA H g gw gh size T) (w : Nat) (hw : w < 18446744073709551616) (i : Int) (R : Value → HHeap → Prop) (hR : R (getV T w i) H) : HCalls Tryz.prog 77 [ptr g 0, U w, I i] H R := by
  refine HCalls.of_hw Tryz.func77 rfl _ Tryz.ntmps77 _ (by rw [Tryz.results77]) ?_
  rw [hframe0_eq _ _ (by simp)]
  simp only [List.zipIdx_cons, List.zipIdx_nil, List.map_cons, List.map_nil, Nat.reduceAdd]
  simp (disch := first | omega | (show allOne _ = true; simp [allOne, Value.oneCell', S]) | (simp only [qz]; first | done | omega)) only [go_sem]
  refine arena_at _ _ _ _ _ _ hA w hw i _ ?_
  rw [atV]; rw [getV] at hR
  cases h : findT T w with
  | none => rw [h] at hR; simp (disch := first | omega | (show allOne _ = true; simp [allOne, Value.oneCell', S]) | (simp only [qz]; first | done | omega)) only [go_sem]; exact hR
  | some t =>
    rw [h] at hR
    simp only at hR ⊢
    by_cases h1 : 0 ≤ i ∧ i < t.l.length
    · rw [if_pos h1] at hR ⊢
      have ha : atP T (w / 8) = some t := by unfold findT at h; split at h <;> first | exact h | cases h
      have e := wcells_word (size := size) ha (i := i.toNat) (by omega)
      simp (disch := first | omega | (show allOne _ = true; simp [allOne, Value.oneCell', S]) | (simp only [qz]; first | done | omega)) only [go_sem, hA.w, ldc_cells, e]
      exact hR
    · rw [if_neg h1] at hR ⊢
      simp (disch := first | omega | (show allOne _ = true; simp [allOne, Value.oneCell', S]) | (simp only [qz]; first | done | omega)) only [go_sem]
      exact hR
end Go.HL
