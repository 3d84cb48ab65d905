/-
  Walks: what comes of two numbers.
-/
import Derived.Test.YtdccndcdmfhmiaaGreatDoorPFW3
set_option linter.unusedVariables false
set_option linter.unusedSimpArgs false
namespace Go.HL
open Go.RowKit Go.Proofs
set_option maxHeartbeats 4000000
set_option maxRecDepth 100000
set_option linter.unusedSimpArgs false
set_option linter.unusedVariables false
def doN (op : Nat) (x y : Int) : Value :=
  if y = 0 ∧ (op = 47 ∨ op = 37) then .tuple #[U 0, I 12]
  else if op = 43 then intV (x + y) else if op = 45 then intV (x - y) else if op = 42 then intV (x * y) else if op = 47 then intV (x.tdiv y) else if op = 37 then intV (x.tmod y)
  else if op = 60 then .tuple #[U (boolW (decide (x < y))), I 0] else .tuple #[U (boolW (decide (x = y))), I 0]
def doV (op a b : Nat) : Value := match toIntF a, toIntF b with | some x, some y => doN op x y | _, _ => .tuple #[U 0, I 11]
theorem doN_add (x y : Int) : doN 43 x y = intV (x + y) := by unfold doN; rw [if_neg (by omega), if_pos rfl]
theorem doN_sub (x y : Int) : doN 45 x y = intV (x - y) := by unfold doN; rw [if_neg (by omega), if_neg (by omega), if_pos rfl]
theorem doN_mul (x y : Int) : doN 42 x y = intV (x * y) := by unfold doN; rw [if_neg (by omega), if_neg (by omega), if_neg (by omega), if_pos rfl]
theorem doN_quo0 (x : Int) : doN 47 x 0 = .tuple #[U 0, I 12] := by unfold doN; rw [if_pos (by omega)]
theorem doN_rem0 (x : Int) : doN 37 x 0 = .tuple #[U 0, I 12] := by unfold doN; rw [if_pos (by omega)]
theorem doN_quo (x y : Int) (h : y ≠ 0) : doN 47 x y = intV (x.tdiv y) := by unfold doN; rw [if_neg (by omega), if_neg (by omega), if_neg (by omega), if_neg (by omega), if_pos rfl]
theorem doN_rem (x y : Int) (h : y ≠ 0) : doN 37 x y = intV (x.tmod y) := by unfold doN; rw [if_neg (by omega), if_neg (by omega), if_neg (by omega), if_neg (by omega), if_neg (by omega), if_pos rfl]
theorem doN_lss (x y : Int) : doN 60 x y = .tuple #[U (boolW (decide (x < y))), I 0] := by unfold doN; rw [if_neg (by omega), if_neg (by omega), if_neg (by omega), if_neg (by omega), if_neg (by omega), if_neg (by omega), if_pos rfl]
theorem doN_eql (x y : Int) : doN 61 x y = .tuple #[U (boolW (decide (x = y))), I 0] := by unfold doN; rw [if_neg (by omega), if_neg (by omega), if_neg (by omega), if_neg (by omega), if_neg (by omega), if_neg (by omega), if_neg (by omega)]
theorem int_after (n : Int) (R : Value → HHeap → Prop) (H : HHeap) {K : Value → HHeap → Prop} (hR : R (intV n) H) (h : ∀ w e : Nat, intV n = .tuple #[U w, I e] → R (.tuple #[U w, I e]) H → K (.tuple #[U w, I e]) H) : K (intV n) H := by
  unfold intV at hR h ⊢
  split <;> rename_i hc
  · rw [if_pos hc] at hR h; exact h _ 0 rfl hR
  · rw [if_neg hc] at hR h; exact h 0 10 rfl hR
theorem do_add (a b : Nat) (x y : Int) (ha : a < 18446744073709551616) (hb : b < 18446744073709551616) (hx : toIntF a = some x) (hy : toIntF b = some y) (H : HHeap) (R : Value → HHeap → Prop) (hR : R (doN 43 x y) H) : HCalls Tryz.prog 186 [.int .u8 (43 : Nat), U a, U b] H R := by
  obtain ⟨x1, x2, x3⟩ := toInt_some ha hx
  obtain ⟨y1, y2, y3⟩ := toInt_some hb hy
  refine HCalls.of_hw Tryz.func186 rfl _ Tryz.ntmps186 _ (by rw [Tryz.results186]) ?_
  rw [hframe0_eq _ _ (by simp)]
  simp only [List.zipIdx_cons, List.zipIdx_nil, List.map_cons, List.map_nil, Nat.reduceAdd]
  simp (disch := first | omega | (show allOne _ = true; simp [allOne, Value.oneCell', S]) | (simp only [qz]; first | done | omega)) only [go_sem]
  refine word_ToInt a ha _ _ ?_
  rw [toIntV, hx]
  simp (disch := first | omega | (show allOne _ = true; simp [allOne, Value.oneCell', S]) | (simp only [qz]; first | done | omega)) only [go_sem]
  refine word_ToInt b hb _ _ ?_
  rw [toIntV, hy]
  rw [doN_add] at hR
  by_cases h0 : y = 0
  · simp (disch := first | omega | (show allOne _ = true; simp [allOne, Value.oneCell', S]) | (simp only [qz]; first | done | omega)) only [go_sem]
    refine word_Int _ _ _ ?_
    refine int_after _ R _ hR ?_
    intro w e _ hR
    simp (disch := first | omega | (show allOne _ = true; simp [allOne, Value.oneCell', S]) | (simp only [qz]; first | done | omega)) only [go_sem]
    exact hR
  · simp (disch := first | omega | (show allOne _ = true; simp [allOne, Value.oneCell', S]) | (simp only [qz]; first | done | omega)) only [go_sem]
    refine word_Int _ _ _ ?_
    refine int_after _ R _ hR ?_
    intro w e _ hR
    simp (disch := first | omega | (show allOne _ = true; simp [allOne, Value.oneCell', S]) | (simp only [qz]; first | done | omega)) only [go_sem]
    exact hR
theorem do_sub (a b : Nat) (x y : Int) (ha : a < 18446744073709551616) (hb : b < 18446744073709551616) (hx : toIntF a = some x) (hy : toIntF b = some y) (H : HHeap) (R : Value → HHeap → Prop) (hR : R (doN 45 x y) H) : HCalls Tryz.prog 186 [.int .u8 (45 : Nat), U a, U b] H R := by
  obtain ⟨x1, x2, x3⟩ := toInt_some ha hx
  obtain ⟨y1, y2, y3⟩ := toInt_some hb hy
  refine HCalls.of_hw Tryz.func186 rfl _ Tryz.ntmps186 _ (by rw [Tryz.results186]) ?_
  rw [hframe0_eq _ _ (by simp)]
  simp only [List.zipIdx_cons, List.zipIdx_nil, List.map_cons, List.map_nil, Nat.reduceAdd]
  simp (disch := first | omega | (show allOne _ = true; simp [allOne, Value.oneCell', S]) | (simp only [qz]; first | done | omega)) only [go_sem]
  refine word_ToInt a ha _ _ ?_
  rw [toIntV, hx]
  simp (disch := first | omega | (show allOne _ = true; simp [allOne, Value.oneCell', S]) | (simp only [qz]; first | done | omega)) only [go_sem]
  refine word_ToInt b hb _ _ ?_
  rw [toIntV, hy]
  rw [doN_sub] at hR
  by_cases h0 : y = 0
  · simp (disch := first | omega | (show allOne _ = true; simp [allOne, Value.oneCell', S]) | (simp only [qz]; first | done | omega)) only [go_sem]
    refine word_Int _ _ _ ?_
    refine int_after _ R _ hR ?_
    intro w e _ hR
    simp (disch := first | omega | (show allOne _ = true; simp [allOne, Value.oneCell', S]) | (simp only [qz]; first | done | omega)) only [go_sem]
    exact hR
  · simp (disch := first | omega | (show allOne _ = true; simp [allOne, Value.oneCell', S]) | (simp only [qz]; first | done | omega)) only [go_sem]
    refine word_Int _ _ _ ?_
    refine int_after _ R _ hR ?_
    intro w e _ hR
    simp (disch := first | omega | (show allOne _ = true; simp [allOne, Value.oneCell', S]) | (simp only [qz]; first | done | omega)) only [go_sem]
    exact hR
theorem do_mul (a b : Nat) (x y : Int) (ha : a < 18446744073709551616) (hb : b < 18446744073709551616) (hx : toIntF a = some x) (hy : toIntF b = some y) (H : HHeap) (R : Value → HHeap → Prop) (hR : R (doN 42 x y) H) : HCalls Tryz.prog 186 [.int .u8 (42 : Nat), U a, U b] H R := by
  obtain ⟨x1, x2, x3⟩ := toInt_some ha hx
  obtain ⟨y1, y2, y3⟩ := toInt_some hb hy
  refine HCalls.of_hw Tryz.func186 rfl _ Tryz.ntmps186 _ (by rw [Tryz.results186]) ?_
  rw [hframe0_eq _ _ (by simp)]
  simp only [List.zipIdx_cons, List.zipIdx_nil, List.map_cons, List.map_nil, Nat.reduceAdd]
  simp (disch := first | omega | (show allOne _ = true; simp [allOne, Value.oneCell', S]) | (simp only [qz]; first | done | omega)) only [go_sem]
  refine word_ToInt a ha _ _ ?_
  rw [toIntV, hx]
  simp (disch := first | omega | (show allOne _ = true; simp [allOne, Value.oneCell', S]) | (simp only [qz]; first | done | omega)) only [go_sem]
  refine word_ToInt b hb _ _ ?_
  rw [toIntV, hy]
  rw [doN_mul] at hR
  by_cases h0 : y = 0
  · simp (disch := first | omega | (show allOne _ = true; simp [allOne, Value.oneCell', S]) | (simp only [qz]; first | done | omega)) only [go_sem]
    refine word_times x y x1 x2 y1 y2 _ _ ?_
    refine int_after _ R _ hR ?_
    intro w e _ hR
    simp (disch := first | omega | (show allOne _ = true; simp [allOne, Value.oneCell', S]) | (simp only [qz]; first | done | omega)) only [go_sem]
    exact hR
  · simp (disch := first | omega | (show allOne _ = true; simp [allOne, Value.oneCell', S]) | (simp only [qz]; first | done | omega)) only [go_sem]
    refine word_times x y x1 x2 y1 y2 _ _ ?_
    refine int_after _ R _ hR ?_
    intro w e _ hR
    simp (disch := first | omega | (show allOne _ = true; simp [allOne, Value.oneCell', S]) | (simp only [qz]; first | done | omega)) only [go_sem]
    exact hR
theorem do_lss (a b : Nat) (x y : Int) (ha : a < 18446744073709551616) (hb : b < 18446744073709551616) (hx : toIntF a = some x) (hy : toIntF b = some y) (H : HHeap) (R : Value → HHeap → Prop) (hR : R (doN 60 x y) H) : HCalls Tryz.prog 186 [.int .u8 (60 : Nat), U a, U b] H R := by
  obtain ⟨x1, x2, x3⟩ := toInt_some ha hx
  obtain ⟨y1, y2, y3⟩ := toInt_some hb hy
  refine HCalls.of_hw Tryz.func186 rfl _ Tryz.ntmps186 _ (by rw [Tryz.results186]) ?_
  rw [hframe0_eq _ _ (by simp)]
  simp only [List.zipIdx_cons, List.zipIdx_nil, List.map_cons, List.map_nil, Nat.reduceAdd]
  simp (disch := first | omega | (show allOne _ = true; simp [allOne, Value.oneCell', S]) | (simp only [qz]; first | done | omega)) only [go_sem]
  refine word_ToInt a ha _ _ ?_
  rw [toIntV, hx]
  simp (disch := first | omega | (show allOne _ = true; simp [allOne, Value.oneCell', S]) | (simp only [qz]; first | done | omega)) only [go_sem]
  refine word_ToInt b hb _ _ ?_
  rw [toIntV, hy]
  rw [doN_lss] at hR
  by_cases h0 : y = 0
  · simp (disch := first | omega | (show allOne _ = true; simp [allOne, Value.oneCell', S]) | (simp only [qz]; first | done | omega)) only [go_sem]
    refine word_Bool _ _ _ ?_
    simp (disch := first | omega | (show allOne _ = true; simp [allOne, Value.oneCell', S]) | (simp only [qz]; first | done | omega)) only [go_sem]
    exact hR
  · simp (disch := first | omega | (show allOne _ = true; simp [allOne, Value.oneCell', S]) | (simp only [qz]; first | done | omega)) only [go_sem]
    refine word_Bool _ _ _ ?_
    simp (disch := first | omega | (show allOne _ = true; simp [allOne, Value.oneCell', S]) | (simp only [qz]; first | done | omega)) only [go_sem]
    exact hR
theorem do_eql (a b : Nat) (x y : Int) (ha : a < 18446744073709551616) (hb : b < 18446744073709551616) (hx : toIntF a = some x) (hy : toIntF b = some y) (H : HHeap) (R : Value → HHeap → Prop) (hR : R (doN 61 x y) H) : HCalls Tryz.prog 186 [.int .u8 (61 : Nat), U a, U b] H R := by
  obtain ⟨x1, x2, x3⟩ := toInt_some ha hx
  obtain ⟨y1, y2, y3⟩ := toInt_some hb hy
  refine HCalls.of_hw Tryz.func186 rfl _ Tryz.ntmps186 _ (by rw [Tryz.results186]) ?_
  rw [hframe0_eq _ _ (by simp)]
  simp only [List.zipIdx_cons, List.zipIdx_nil, List.map_cons, List.map_nil, Nat.reduceAdd]
  simp (disch := first | omega | (show allOne _ = true; simp [allOne, Value.oneCell', S]) | (simp only [qz]; first | done | omega)) only [go_sem]
  refine word_ToInt a ha _ _ ?_
  rw [toIntV, hx]
  simp (disch := first | omega | (show allOne _ = true; simp [allOne, Value.oneCell', S]) | (simp only [qz]; first | done | omega)) only [go_sem]
  refine word_ToInt b hb _ _ ?_
  rw [toIntV, hy]
  rw [doN_eql] at hR
  by_cases h0 : y = 0
  · simp (disch := first | omega | (show allOne _ = true; simp [allOne, Value.oneCell', S]) | (simp only [qz]; first | done | omega)) only [go_sem]
    refine word_Bool _ _ _ ?_
    simp (disch := first | omega | (show allOne _ = true; simp [allOne, Value.oneCell', S]) | (simp only [qz]; first | done | omega)) only [go_sem]
    exact hR
  · simp (disch := first | omega | (show allOne _ = true; simp [allOne, Value.oneCell', S]) | (simp only [qz]; first | done | omega)) only [go_sem]
    refine word_Bool _ _ _ ?_
    simp (disch := first | omega | (show allOne _ = true; simp [allOne, Value.oneCell', S]) | (simp only [qz]; first | done | omega)) only [go_sem]
    exact hR
theorem do_quo (a b : Nat) (x y : Int) (ha : a < 18446744073709551616) (hb : b < 18446744073709551616) (hx : toIntF a = some x) (hy : toIntF b = some y) (H : HHeap) (R : Value → HHeap → Prop) (hR : R (doN 47 x y) H) : HCalls Tryz.prog 186 [.int .u8 (47 : Nat), U a, U b] H R := by
  obtain ⟨x1, x2, x3⟩ := toInt_some ha hx
  obtain ⟨y1, y2, y3⟩ := toInt_some hb hy
  refine HCalls.of_hw Tryz.func186 rfl _ Tryz.ntmps186 _ (by rw [Tryz.results186]) ?_
  rw [hframe0_eq _ _ (by simp)]
  simp only [List.zipIdx_cons, List.zipIdx_nil, List.map_cons, List.map_nil, Nat.reduceAdd]
  simp (disch := first | omega | (show allOne _ = true; simp [allOne, Value.oneCell', S]) | (simp only [qz]; first | done | omega)) only [go_sem]
  refine word_ToInt a ha _ _ ?_
  rw [toIntV, hx]
  simp (disch := first | omega | (show allOne _ = true; simp [allOne, Value.oneCell', S]) | (simp only [qz]; first | done | omega)) only [go_sem]
  refine word_ToInt b hb _ _ ?_
  rw [toIntV, hy]
  by_cases h0 : y = 0
  · subst h0
    rw [doN_quo0] at hR
    simp (disch := first | omega | (show allOne _ = true; simp [allOne, Value.oneCell', S]) | (simp only [qz]; first | done | omega)) only [go_sem]
    exact hR
  · rw [doN_quo x y h0] at hR
    have hq := Int.natAbs_tdiv_le_natAbs x y
    simp (disch := first | omega | (show allOne _ = true; simp [allOne, Value.oneCell', S]) | (simp only [qz]; first | done | omega)) only [go_sem, hint_tdiv]
    refine word_Int _ _ _ ?_
    refine int_after _ R _ hR ?_
    intro w e _ hR
    simp (disch := first | omega | (show allOne _ = true; simp [allOne, Value.oneCell', S]) | (simp only [qz]; first | done | omega)) only [go_sem]
    exact hR
theorem do_rem (a b : Nat) (x y : Int) (ha : a < 18446744073709551616) (hb : b < 18446744073709551616) (hx : toIntF a = some x) (hy : toIntF b = some y) (H : HHeap) (R : Value → HHeap → Prop) (hR : R (doN 37 x y) H) : HCalls Tryz.prog 186 [.int .u8 (37 : Nat), U a, U b] H R := by
  obtain ⟨x1, x2, x3⟩ := toInt_some ha hx
  obtain ⟨y1, y2, y3⟩ := toInt_some hb hy
  refine HCalls.of_hw Tryz.func186 rfl _ Tryz.ntmps186 _ (by rw [Tryz.results186]) ?_
  rw [hframe0_eq _ _ (by simp)]
  simp only [List.zipIdx_cons, List.zipIdx_nil, List.map_cons, List.map_nil, Nat.reduceAdd]
  simp (disch := first | omega | (show allOne _ = true; simp [allOne, Value.oneCell', S]) | (simp only [qz]; first | done | omega)) only [go_sem]
  refine word_ToInt a ha _ _ ?_
  rw [toIntV, hx]
  simp (disch := first | omega | (show allOne _ = true; simp [allOne, Value.oneCell', S]) | (simp only [qz]; first | done | omega)) only [go_sem]
  refine word_ToInt b hb _ _ ?_
  rw [toIntV, hy]
  by_cases h0 : y = 0
  · subst h0
    rw [doN_rem0] at hR
    simp (disch := first | omega | (show allOne _ = true; simp [allOne, Value.oneCell', S]) | (simp only [qz]; first | done | omega)) only [go_sem]
    exact hR
  · rw [doN_rem x y h0] at hR
    simp (disch := first | omega | (show allOne _ = true; simp [allOne, Value.oneCell', S]) | (simp only [qz]; first | done | omega)) only [go_sem, hint_tmod]
    refine word_Int _ _ _ ?_
    refine int_after _ R _ hR ?_
    intro w e _ hR
    simp (disch := first | omega | (show allOne _ = true; simp [allOne, Value.oneCell', S]) | (simp only [qz]; first | done | omega)) only [go_sem]
    exact hR
theorem do_none (op : Nat) (ho : op = 43 ∨ op = 45 ∨ op = 42 ∨ op = 47 ∨ op = 37 ∨ op = 60 ∨ op = 61) (a b : Nat) (ha : a < 18446744073709551616) (hb : b < 18446744073709551616) (hn : toIntF a = none ∨ toIntF b = none) (H : HHeap) (R : Value → HHeap → Prop) (hR : R (.tuple #[U 0, I 11]) H) : HCalls Tryz.prog 186 [.int .u8 (op : Nat), U a, U b] H R := by
  have h1 : (∃ x, toIntV a = .tuple #[I x, .bool true] ∧ toIntF a ≠ none) ∨ (toIntV a = .tuple #[I 0, .bool false]) := by
    unfold toIntV
    cases toIntF a with
    | none => exact .inr rfl
    | some x => exact .inl ⟨x, rfl, by simp⟩
  have h2 : (∃ y, toIntV b = .tuple #[I y, .bool true] ∧ toIntF b ≠ none) ∨ (toIntV b = .tuple #[I 0, .bool false]) := by
    unfold toIntV
    cases toIntF b with
    | none => exact .inr rfl
    | some x => exact .inl ⟨x, rfl, by simp⟩
  refine HCalls.of_hw Tryz.func186 rfl _ Tryz.ntmps186 _ (by rw [Tryz.results186]) ?_
  rw [hframe0_eq _ _ (by simp)]
  simp only [List.zipIdx_cons, List.zipIdx_nil, List.map_cons, List.map_nil, Nat.reduceAdd]
  rcases ho with rfl | rfl | rfl | rfl | rfl | rfl | rfl
  all_goals
    simp (disch := first | omega | (show allOne _ = true; simp [allOne, Value.oneCell', S]) | (simp only [qz]; first | done | omega)) only [go_sem]
    refine word_ToInt a ha _ _ ?_
    rcases h1 with ⟨x, h1, n1⟩ | h1
    · rw [h1]
      simp (disch := first | omega | (show allOne _ = true; simp [allOne, Value.oneCell', S]) | (simp only [qz]; first | done | omega)) only [go_sem]
      refine word_ToInt b hb _ _ ?_
      rcases h2 with ⟨y, h2, n2⟩ | h2
      · rcases hn with hn | hn
        · exact absurd hn n1
        · exact absurd hn n2
      · rw [h2]
        simp (disch := first | omega | (show allOne _ = true; simp [allOne, Value.oneCell', S]) | (simp only [qz]; first | done | omega)) only [go_sem]
        exact hR
    · rw [h1]
      simp (disch := first | omega | (show allOne _ = true; simp [allOne, Value.oneCell', S]) | (simp only [qz]; first | done | omega)) only [go_sem]
      refine word_ToInt b hb _ _ ?_
      rcases h2 with ⟨y, h2, n2⟩ | h2
      · rw [h2]
        simp (disch := first | omega | (show allOne _ = true; simp [allOne, Value.oneCell', S]) | (simp only [qz]; first | done | omega)) only [go_sem]
        exact hR
      · rw [h2]
        simp (disch := first | omega | (show allOne _ = true; simp [allOne, Value.oneCell', S]) | (simp only [qz]; first | done | omega)) only [go_sem]
        exact hR
theorem word_Do (op : Nat) (ho : op = 43 ∨ op = 45 ∨ op = 42 ∨ op = 47 ∨ op = 37 ∨ op = 60 ∨ op = 61) (a b : Nat) (ha : a < 18446744073709551616) (hb : b < 18446744073709551616) (H : HHeap) (R : Value → HHeap → Prop) (hR : R (doV op a b) H) : HCalls Tryz.prog 186 [.int .u8 (op : Nat), U a, U b] H R := by
  unfold doV at hR
  cases hx : toIntF a with
  | none => rw [hx] at hR; exact do_none op ho a b ha hb (.inl hx) H R hR
  | some x =>
    cases hy : toIntF b with
    | none => rw [hx, hy] at hR; exact do_none op ho a b ha hb (.inr hy) H R hR
    | some y =>
      rw [hx, hy] at hR
      rcases ho with rfl | rfl | rfl | rfl | rfl | rfl | rfl
      · exact do_add a b x y ha hb hx hy H R hR
      · exact do_sub a b x y ha hb hx hy H R hR
      · exact do_mul a b x y ha hb hx hy H R hR
      · exact do_quo a b x y ha hb hx hy H R hR
      · exact do_rem a b x y ha hb hx hy H R hR
      · exact do_lss a b x y ha hb hx hy H R hR
      · exact do_eql a b x y ha hb hx hy H R hR
end Go.HL
