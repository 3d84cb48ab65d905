/-
  Joined: V1, V2, V3.
-/
import Derived.Test.YtdccndcdmfhmiaaGreatDoorPFW4
import Derived.Test.YtdccndcdmfhmiaaGreatDoorPFC5
set_option linter.unusedVariables false
set_option linter.unusedSimpArgs false
/-
  Walks: what is done to words of an arena.
-/
namespace Go.HL
open Go.RowKit Go.Proofs
set_option maxHeartbeats 4000000
set_option maxRecDepth 100000
set_option linter.unusedSimpArgs false
set_option linter.unusedVariables false
def pairW (T : Things) (w : Nat) : Bool := decide (kindN T w = 1 ∧ lenN T w = 2)
theorem prim_pair (H : HHeap) (g gw gh size : Nat) (T : Things) (hA : AtA H g gw gh size T) (w : Nat) (hw : w < 18446744073709551616) (R : Value → HHeap → Prop) (hR : R (.bool (pairW T w)) H) : HCalls Tryz.prog 185 [ptr g 0, U w] H R := by
  refine HCalls.of_hw Tryz.func185 rfl _ Tryz.ntmps185 _ (by rw [Tryz.results185]) ?_
  rw [hframe0_eq _ _ (by simp)]
  simp only [List.zipIdx_cons, List.zipIdx_nil, List.map_cons, List.map_nil, Nat.reduceAdd]
  simp (disch := first | omega | (show allOne _ = true; simp [allOne, Value.oneCell', S]) | (simp only [qz]; first | done | omega)) only [go_sem]
  refine arena_Kind _ _ _ _ _ _ hA w hw _ ?_
  by_cases h1 : kindN T w = 1
  · simp (disch := first | omega | (show allOne _ = true; simp [allOne, Value.oneCell', S]) | (simp only [qz]; first | done | omega)) only [go_sem]
    refine arena_Len _ _ _ _ _ _ hA w hw _ ?_
    simp (disch := first | omega | (show allOne _ = true; simp [allOne, Value.oneCell', S]) | (simp only [qz]; first | done | omega)) only [go_sem]
    rw [show decide ((lenN T w : Int) = 2) = pairW T w by unfold pairW; apply decide_eq_decide.2; omega]
    exact hR
  · simp (disch := first | omega | (show allOne _ = true; simp [allOne, Value.oneCell', S]) | (simp only [qz]; first | done | omega)) only [go_sem]
    rw [show pairW T w = false by unfold pairW; exact decide_eq_false (by omega)] at hR
    exact hR
theorem intV_form (n : Int) : ∃ w e : Nat, intV n = .tuple #[U w, I (e : Nat)] ∧ w < 18446744073709551616 := by
  unfold intV; split
  · exact ⟨_, 0, rfl, wInt_lt n⟩
  · exact ⟨0, 10, rfl, by omega⟩
theorem boolW_lt (b : Bool) : boolW b < 18446744073709551616 := by cases b <;> decide
theorem doN_form (op : Nat) (x y : Int) : ∃ w e : Nat, doN op x y = .tuple #[U w, I (e : Nat)] ∧ w < 18446744073709551616 := by
  unfold doN
  split
  · exact ⟨0, 12, rfl, by omega⟩
  split
  · exact intV_form _
  split
  · exact intV_form _
  split
  · exact intV_form _
  split
  · exact intV_form _
  split
  · exact intV_form _
  split
  · exact ⟨_, 0, rfl, boolW_lt _⟩
  · exact ⟨_, 0, rfl, boolW_lt _⟩
theorem doV_form (op a b : Nat) : ∃ w e : Nat, doV op a b = .tuple #[U w, I (e : Nat)] ∧ w < 18446744073709551616 := by
  unfold doV
  split
  · exact doN_form _ _ _
  · exact ⟨0, 11, rfl, by omega⟩
def signs7 : List UInt8 := [43, 45, 42, 47, 37, 60, 61]
theorem prim_two_num (op : Nat) (ho : 1 ≤ op ∧ op ≤ 7) (p : Value) (x y : Nat) (hx : x < 18446744073709551616) (hy : y < 18446744073709551616) (H : HHeap) (R : Value → HHeap → Prop) (hR : R (doV (signs7.getD (op - 1) 0).toNat x y) H) : HCalls Tryz.prog 169 [p, I (op : Nat), U x, U y] H R := by
  refine HCalls.of_hw Tryz.func169 rfl _ Tryz.ntmps169 _ (by rw [Tryz.results169]) ?_
  rw [hframe0_eq _ _ (by simp)]
  simp only [List.zipIdx_cons, List.zipIdx_nil, List.map_cons, List.map_nil, Nat.reduceAdd]
  have hs : Value.string (ByteArray.mk #[43, 45, 42, 47, 37, 60, 61]) = S signs7 := rfl
  obtain ⟨c, hc⟩ : ∃ c, signs7[op - 1]? = some c := ⟨_, List.getElem?_eq_getElem (by simp [signs7]; omega)⟩
  have hg : signs7.getD (op - 1) 0 = c := by simp [hc]
  have hq : c.toNat = 43 ∨ c.toNat = 45 ∨ c.toNat = 42 ∨ c.toNat = 47 ∨ c.toNat = 37 ∨ c.toNat = 60 ∨ c.toNat = 61 := by
    have hm := List.mem_of_getElem? hc
    simp [signs7] at hm
    rcases hm with rfl | rfl | rfl | rfl | rfl | rfl | rfl <;> decide
  have hsx : six [43, 45, 42, 47, 37, 60, 61] ((op : Int) - 1) = some (.int .u8 c.toNat) := by
    rw [show (op : Int) - 1 = ((op - 1 : Nat) : Int) by omega]; exact six_ok _ _ _ hc
  rw [hg] at hR
  simp (disch := first | omega | (show allOne _ = true; simp [allOne, Value.oneCell', S]) | (simp only [qz]; first | done | omega)) only [go_sem, hsx]
  refine word_Do c.toNat hq x y hx hy _ _ ?_
  obtain ⟨w, e, h, _⟩ := doV_form c.toNat x y
  rw [h] at hR ⊢
  simp (disch := first | omega | (show allOne _ = true; simp [allOne, Value.oneCell', S]) | (simp only [qz]; first | done | omega)) only [go_sem]
  exact hR
theorem prim_two_same (p : Value) (x y : Nat) (H : HHeap) (R : Value → HHeap → Prop) (hR : R (.tuple #[U (boolW (decide (x = y))), I 0]) H) : HCalls Tryz.prog 169 [p, I 8, U x, U y] H R := by
  refine HCalls.of_hw Tryz.func169 rfl _ Tryz.ntmps169 _ (by rw [Tryz.results169]) ?_
  rw [hframe0_eq _ _ (by simp)]
  simp only [List.zipIdx_cons, List.zipIdx_nil, List.map_cons, List.map_nil, Nat.reduceAdd]
  simp (disch := first | omega | (show allOne _ = true; simp [allOne, Value.oneCell', S]) | (simp only [qz]; first | done | omega)) only [go_sem]
  rw [show decide ((x : Int) = (y : Int)) = decide (x = y) by apply decide_eq_decide.2; omega]
  refine word_Bool _ _ _ ?_
  simp (disch := first | omega | (show allOne _ = true; simp [allOne, Value.oneCell', S]) | (simp only [qz]; first | done | omega)) only [go_sem]
  exact hR
theorem prim_two_none (op : Nat) (ho : 9 ≤ op ∧ op ≠ 12) (p : Value) (x y : Nat) (H : HHeap) (R : Value → HHeap → Prop) (hR : R (.tuple #[U 0, I 1]) H) : HCalls Tryz.prog 169 [p, I (op : Nat), U x, U y] H R := by
  refine HCalls.of_hw Tryz.func169 rfl _ Tryz.ntmps169 _ (by rw [Tryz.results169]) ?_
  rw [hframe0_eq _ _ (by simp)]
  simp only [List.zipIdx_cons, List.zipIdx_nil, List.map_cons, List.map_nil, Nat.reduceAdd]
  simp (disch := first | omega | (show allOne _ = true; simp [allOne, Value.oneCell', S]) | (simp only [qz]; first | done | omega)) only [go_sem]
  exact hR
theorem prim_two_cons (H : HHeap) (g gw gh size : Nat) (T : Things) (hA : AtA H g gw gh size T) (hlt : g < H.next ∧ gw < H.next ∧ gh < H.next) (x y : Nat) (hx : x < 18446744073709551616) (hy : y < 18446744073709551616) (R : Value → HHeap → Prop)
    (h1 : usedOf T + 3 ≤ size → ∀ K, K = H.push (.cells [U x, U y] true) → R (.tuple #[U (wordAt (usedOf T)), I 0]) (putT K g gw gh size (T ++ [⟨1, [x, y]⟩])))
    (h2 : size < usedOf T + 3 → ∀ K, K = H.push (.cells [U x, U y] true) → R (.tuple #[U 0, I 20]) K) : HCalls Tryz.prog 169 [ptr g 0, I 12, U x, U y] H R := by
  refine HCalls.of_hw Tryz.func169 rfl _ Tryz.ntmps169 _ (by rw [Tryz.results169]) ?_
  rw [hframe0_eq _ _ (by simp)]
  simp only [List.zipIdx_cons, List.zipIdx_nil, List.map_cons, List.map_nil, Nat.reduceAdd]
  simp (disch := first | omega | (show allOne _ = true; simp [allOne, Value.oneCell', S]) | (simp only [qz]; first | done | omega)) only [go_sem]
  have hK : AtA (H.push (.cells [U x, U y] true)) g gw gh size T := hA.frame fun b hb => get_push_ne _ _ (by omega)
  refine arena_Alloc (H.push (.cells [U x, U y] true)) g gw gh size T hK 1 _ [x, y] 2 rfl (by simp; exact ⟨hx, hy⟩) _ 2 rfl ?_ _ ?_ ?_ ?_
  · intro H' hH'
    rw [hsource_slice, hH' H.next (by omega) (by omega) (by omega), get_push_same, hsrc_cells _ _ _ _ _ (by omega) (by simp)]
    rfl
  · intro _ _ h
    simp (disch := first | omega | (show allOne _ = true; simp [allOne, Value.oneCell', S]) | (simp only [qz]; first | done | omega)) only [go_sem]
    exact h1 (by omega) _ rfl
  · intro _ _ h
    simp (disch := first | omega | (show allOne _ = true; simp [allOne, Value.oneCell', S]) | (simp only [qz]; first | done | omega)) only [go_sem]
    exact h2 (by omega) _ rfl
  · intro h
    exact absurd ⟨⟨by omega, by omega⟩, by omega⟩ h
end Go.HL
/-
  Walks: what is asked of one word.
-/
namespace Go.HL
open Go.RowKit Go.Proofs
set_option maxHeartbeats 4000000
set_option maxRecDepth 100000
set_option linter.unusedSimpArgs false
set_option linter.unusedVariables false
theorem asks_1 (w : Nat) (H : HHeap) (R : Value → HHeap → Prop) (hR : R (.bool (decide (w = 10))) H) : HCalls Tryz.prog 194 [U w] H R := by
  refine HCalls.of_hw Tryz.func194 rfl _ Tryz.ntmps194 _ (by rw [Tryz.results194]) ?_
  rw [hframe0_eq _ _ (by simp)]
  simp only [List.zipIdx_cons, List.zipIdx_nil, List.map_cons, List.map_nil, Nat.reduceAdd]
  simp (disch := first | omega | (show allOne _ = true; simp [allOne, Value.oneCell', S]) | (simp only [qz]; first | done | omega)) only [go_sem]
  rw [show decide ((w : Int) = 10) = decide (w = 10) by apply decide_eq_decide.2; omega]
  exact hR
theorem asks_2 (w : Nat) (H : HHeap) (R : Value → HHeap → Prop) (hR : R (.bool (decide (w = 2))) H) : HCalls Tryz.prog 195 [U w] H R := by
  refine HCalls.of_hw Tryz.func195 rfl _ Tryz.ntmps195 _ (by rw [Tryz.results195]) ?_
  rw [hframe0_eq _ _ (by simp)]
  simp only [List.zipIdx_cons, List.zipIdx_nil, List.map_cons, List.map_nil, Nat.reduceAdd]
  simp (disch := first | omega | (show allOne _ = true; simp [allOne, Value.oneCell', S]) | (simp only [qz]; first | done | omega)) only [go_sem]
  rw [show decide ((w : Int) = 2) = decide (w = 2) by apply decide_eq_decide.2; omega]
  exact hR
theorem asks_3 (H : HHeap) (g gw gh size : Nat) (T : Things) (hA : AtA H g gw gh size T) (w b : Nat) (hw : w < 18446744073709551616) (hb : H.get b = some (.cells [ptr g 0] true)) (R : Value → HHeap → Prop) (hR : R (.bool (pairW T w)) H) : HCalls Tryz.prog 196 [U w, ptr b 0] H R := by
  refine HCalls.of_hw Tryz.func196 rfl _ Tryz.ntmps196 _ (by rw [Tryz.results196]) ?_
  rw [hframe0_eq _ _ (by simp)]
  simp only [List.zipIdx_cons, List.zipIdx_nil, List.map_cons, List.map_nil, Nat.reduceAdd]
  simp (disch := first | omega | (show allOne _ = true; simp [allOne, Value.oneCell', S]) | (simp only [qz]; first | done | omega)) only [go_sem, hb, ldc_cells]
  refine prim_pair _ _ _ _ _ _ hA w hw _ ?_
  simp (disch := first | omega | (show allOne _ = true; simp [allOne, Value.oneCell', S]) | (simp only [qz]; first | done | omega)) only [go_sem]
  exact hR
theorem asks_4 (w : Nat) (hw : w < 18446744073709551616) (H : HHeap) (R : Value → HHeap → Prop) (hR : R (.bool (toIntF w).isSome) H) : HCalls Tryz.prog 197 [U w] H R := by
  refine HCalls.of_hw Tryz.func197 rfl _ Tryz.ntmps197 _ (by rw [Tryz.results197]) ?_
  rw [hframe0_eq _ _ (by simp)]
  simp only [List.zipIdx_cons, List.zipIdx_nil, List.map_cons, List.map_nil, Nat.reduceAdd]
  simp (disch := first | omega | (show allOne _ = true; simp [allOne, Value.oneCell', S]) | (simp only [qz]; first | done | omega)) only [go_sem]
  refine word_ToInt w hw _ _ ?_
  unfold toIntV
  cases h : toIntF w <;> rw [h] at hR <;> simp (disch := first | omega | (show allOne _ = true; simp [allOne, Value.oneCell', S]) | (simp only [qz]; first | done | omega)) only [go_sem] <;> exact hR
theorem asks_5 (w : Nat) (hw : w < 18446744073709551616) (H : HHeap) (R : Value → HHeap → Prop) (hR : R (.bool (toF 3 w).isSome) H) : HCalls Tryz.prog 198 [U w] H R := by
  refine HCalls.of_hw Tryz.func198 rfl _ Tryz.ntmps198 _ (by rw [Tryz.results198]) ?_
  rw [hframe0_eq _ _ (by simp)]
  simp only [List.zipIdx_cons, List.zipIdx_nil, List.map_cons, List.map_nil, Nat.reduceAdd]
  simp (disch := first | omega | (show allOne _ = true; simp [allOne, Value.oneCell', S]) | (simp only [qz]; first | done | omega)) only [go_sem]
  refine word_ToK 3 (by omega) w hw _ _ ?_
  unfold toKV
  cases h : toF 3 w <;> rw [h] at hR <;> simp (disch := first | omega | (show allOne _ = true; simp [allOne, Value.oneCell', S]) | (simp only [qz]; first | done | omega)) only [go_sem] <;> exact hR
theorem asks_6 (H : HHeap) (g gw gh size : Nat) (T : Things) (hA : AtA H g gw gh size T) (w b : Nat) (hw : w < 18446744073709551616) (hb : H.get b = some (.cells [ptr g 0] true)) (R : Value → HHeap → Prop) (hR : R (.bool (decide (kindN T w = 2 ∨ kindN T w = 5))) H) : HCalls Tryz.prog 199 [U w, ptr b 0] H R := by
  refine HCalls.of_hw Tryz.func199 rfl _ Tryz.ntmps199 _ (by rw [Tryz.results199]) ?_
  rw [hframe0_eq _ _ (by simp)]
  simp only [List.zipIdx_cons, List.zipIdx_nil, List.map_cons, List.map_nil, Nat.reduceAdd]
  simp (disch := first | omega | (show allOne _ = true; simp [allOne, Value.oneCell', S]) | (simp only [qz]; first | done | omega)) only [go_sem, hb, ldc_cells]
  refine arena_Kind _ _ _ _ _ _ hA w hw _ ?_
  by_cases h1 : kindN T w = 2
  · simp (disch := first | omega | (show allOne _ = true; simp [allOne, Value.oneCell', S]) | (simp only [qz]; first | done | omega)) only [go_sem, hb, ldc_cells]
    rw [show decide (kindN T w = 2 ∨ kindN T w = 5) = true from decide_eq_true (.inl h1)] at hR
    exact hR
  · simp (disch := first | omega | (show allOne _ = true; simp [allOne, Value.oneCell', S]) | (simp only [qz]; first | done | omega)) only [go_sem, hb, ldc_cells]
    refine arena_Kind _ _ _ _ _ _ hA w hw _ ?_
    simp (disch := first | omega | (show allOne _ = true; simp [allOne, Value.oneCell', S]) | (simp only [qz]; first | done | omega)) only [go_sem]
    rw [show decide ((kindN T w : Int) = 5) = decide (kindN T w = 2 ∨ kindN T w = 5) by apply decide_eq_decide.2; omega]
    exact hR
def asksV (op b : Nat) : Value :=
  if op = 9 then .func (.func 194) #[] #[] else if op = 10 then .func (.func 195) #[] #[] else if op = 11 then .func (.func 196) #[] #[ptr b 0]
  else if op = 15 then .func (.func 197) #[] #[] else if op = 16 then .func (.func 198) #[] #[] else if op = 17 then .func (.func 199) #[] #[ptr b 0] else .nilFunc
theorem prim_asks (op : Nat) (H : HHeap) (g : Nat) (R : Value → HHeap → Prop) (hR : R (asksV op H.next) (H.push (.cells [ptr g 0] true))) : HCalls Tryz.prog 183 [ptr g 0, I (op : Nat)] H R := by
  refine HCalls.of_hw Tryz.func183 rfl _ Tryz.ntmps183 _ (by rw [Tryz.results183]) ?_
  rw [hframe0_eq _ _ (by simp)]
  simp only [List.zipIdx_cons, List.zipIdx_nil, List.map_cons, List.map_nil, Nat.reduceAdd]
  unfold asksV at hR
  have hbx : hbox H (ptr g 0) = some (.pointer (some ⟨H.next, 0, none⟩), H.push (.cells [ptr g 0] true)) := hbox_one rfl
  by_cases h1 : op = 9
  · subst h1; simp (disch := first | omega | (show allOne _ = true; simp [allOne, Value.oneCell', S]) | (simp only [qz]; first | done | omega)) only [go_sem, hbx]; exact hR
  by_cases h2 : op = 10
  · subst h2; simp (disch := first | omega | (show allOne _ = true; simp [allOne, Value.oneCell', S]) | (simp only [qz]; first | done | omega)) only [go_sem, hbx]; exact hR
  by_cases h3 : op = 11
  · subst h3; simp (disch := first | omega | (show allOne _ = true; simp [allOne, Value.oneCell', S]) | (simp only [qz]; first | done | omega)) only [go_sem, hbx]; exact hR
  by_cases h4 : op = 15
  · subst h4; simp (disch := first | omega | (show allOne _ = true; simp [allOne, Value.oneCell', S]) | (simp only [qz]; first | done | omega)) only [go_sem, hbx]; exact hR
  by_cases h5 : op = 16
  · subst h5; simp (disch := first | omega | (show allOne _ = true; simp [allOne, Value.oneCell', S]) | (simp only [qz]; first | done | omega)) only [go_sem, hbx]; exact hR
  by_cases h6 : op = 17
  · subst h6; simp (disch := first | omega | (show allOne _ = true; simp [allOne, Value.oneCell', S]) | (simp only [qz]; first | done | omega)) only [go_sem, hbx]; exact hR
  rw [if_neg h1, if_neg h2, if_neg h3, if_neg h4, if_neg h5, if_neg h6] at hR
  simp (disch := first | omega | (show allOne _ = true; simp [allOne, Value.oneCell', S]) | (simp only [qz]; first | done | omega)) only [go_sem, hbx]; exact hR
theorem x_fn_ne {P : Program} {t : TypeId} (h : kindOf P t = 4) (f : Fn) (a c : Array Value) : hbin P .neq t (.func f a c) .nilFunc = some (.bool true) := by unfold hbin; simp only [h]; rfl
theorem x_fn_nn {P : Program} {t : TypeId} (h : kindOf P t = 4) : hbin P .neq t .nilFunc .nilFunc = some (.bool false) := by unfold hbin; simp only [h]; rfl
theorem kd_fn : kindOf Tryz.prog 207 = 4 := by kernel_rfl
def askF (T : Things) (op w : Nat) : Bool :=
  if op = 9 then decide (w = 10) else if op = 10 then decide (w = 2) else if op = 11 then pairW T w
  else if op = 15 then (toIntF w).isSome else if op = 16 then (toF 3 w).isSome else decide (kindN T w = 2 ∨ kindN T w = 5)
theorem prim_one_ask (op : Nat) (ho : op = 9 ∨ op = 10 ∨ op = 11 ∨ op = 15 ∨ op = 16 ∨ op = 17) (H : HHeap) (g gw gh size : Nat) (T : Things) (hA : AtA H g gw gh size T) (hlt : g < H.next ∧ gw < H.next ∧ gh < H.next) (w : Nat) (hw : w < 18446744073709551616) (R : Value → HHeap → Prop)
    (hR : ∀ H', Old H H' → R (.tuple #[U (boolW (askF T op w)), I 0]) H') : HCalls Tryz.prog 168 [ptr g 0, I (op : Nat), U w] H R := by
  have hK : AtA (H.push (.cells [ptr g 0] true)) g gw gh size T := hA.frame fun b hb => get_push_ne _ _ (by omega)
  replace hR := hR _ (Old.push H (.cells [ptr g 0] true))
  have hb : (H.push (.cells [ptr g 0] true)).get H.next = some (.cells [ptr g 0] true) := get_push_same _
  refine HCalls.of_hw Tryz.func168 rfl _ Tryz.ntmps168 _ (by rw [Tryz.results168]) ?_
  rw [hframe0_eq _ _ (by simp)]
  simp only [List.zipIdx_cons, List.zipIdx_nil, List.map_cons, List.map_nil, Nat.reduceAdd]
  rcases ho with rfl | rfl | rfl | rfl | rfl | rfl
  · simp (disch := first | omega | (show allOne _ = true; simp [allOne, Value.oneCell', S]) | (simp only [qz]; first | done | omega)) only [go_sem]
    refine prim_asks 9 _ _ _ ?_
    rw [show asksV 9 H.next = .func (.func 194) #[] #[] from rfl]
    simp (disch := first | omega | (show allOne _ = true; simp [allOne, Value.oneCell', S]) | (simp only [qz]; first | done | omega)) only [go_sem, x_fn_ne kd_fn]
    refine asks_1 w _ _ ?_
    simp (disch := first | omega | (show allOne _ = true; simp [allOne, Value.oneCell', S]) | (simp only [qz]; first | done | omega)) only [go_sem]
    refine word_Bool _ _ _ ?_
    simp (disch := first | omega | (show allOne _ = true; simp [allOne, Value.oneCell', S]) | (simp only [qz]; first | done | omega)) only [go_sem]
    exact hR
  · simp (disch := first | omega | (show allOne _ = true; simp [allOne, Value.oneCell', S]) | (simp only [qz]; first | done | omega)) only [go_sem]
    refine prim_asks 10 _ _ _ ?_
    rw [show asksV 10 H.next = .func (.func 195) #[] #[] from rfl]
    simp (disch := first | omega | (show allOne _ = true; simp [allOne, Value.oneCell', S]) | (simp only [qz]; first | done | omega)) only [go_sem, x_fn_ne kd_fn]
    refine asks_2 w _ _ ?_
    simp (disch := first | omega | (show allOne _ = true; simp [allOne, Value.oneCell', S]) | (simp only [qz]; first | done | omega)) only [go_sem]
    refine word_Bool _ _ _ ?_
    simp (disch := first | omega | (show allOne _ = true; simp [allOne, Value.oneCell', S]) | (simp only [qz]; first | done | omega)) only [go_sem]
    exact hR
  · simp (disch := first | omega | (show allOne _ = true; simp [allOne, Value.oneCell', S]) | (simp only [qz]; first | done | omega)) only [go_sem]
    refine prim_asks 11 _ _ _ ?_
    rw [show asksV 11 H.next = .func (.func 196) #[] [ptr H.next 0].toArray from rfl]
    simp (disch := first | omega | (show allOne _ = true; simp [allOne, Value.oneCell', S]) | (simp only [qz]; first | done | omega)) only [go_sem, x_fn_ne kd_fn, hwho_func (P := Tryz.prog) 196 [ptr H.next 0] [U w] (by kernel_rfl), List.cons_append, List.nil_append]
    refine asks_3 _ _ _ _ _ _ hK w H.next hw hb _ ?_
    simp (disch := first | omega | (show allOne _ = true; simp [allOne, Value.oneCell', S]) | (simp only [qz]; first | done | omega)) only [go_sem]
    refine word_Bool _ _ _ ?_
    simp (disch := first | omega | (show allOne _ = true; simp [allOne, Value.oneCell', S]) | (simp only [qz]; first | done | omega)) only [go_sem]
    exact hR
  · simp (disch := first | omega | (show allOne _ = true; simp [allOne, Value.oneCell', S]) | (simp only [qz]; first | done | omega)) only [go_sem]
    refine prim_asks 15 _ _ _ ?_
    rw [show asksV 15 H.next = .func (.func 197) #[] #[] from rfl]
    simp (disch := first | omega | (show allOne _ = true; simp [allOne, Value.oneCell', S]) | (simp only [qz]; first | done | omega)) only [go_sem, x_fn_ne kd_fn]
    refine asks_4 w hw _ _ ?_
    simp (disch := first | omega | (show allOne _ = true; simp [allOne, Value.oneCell', S]) | (simp only [qz]; first | done | omega)) only [go_sem]
    refine word_Bool _ _ _ ?_
    simp (disch := first | omega | (show allOne _ = true; simp [allOne, Value.oneCell', S]) | (simp only [qz]; first | done | omega)) only [go_sem]
    exact hR
  · simp (disch := first | omega | (show allOne _ = true; simp [allOne, Value.oneCell', S]) | (simp only [qz]; first | done | omega)) only [go_sem]
    refine prim_asks 16 _ _ _ ?_
    rw [show asksV 16 H.next = .func (.func 198) #[] #[] from rfl]
    simp (disch := first | omega | (show allOne _ = true; simp [allOne, Value.oneCell', S]) | (simp only [qz]; first | done | omega)) only [go_sem, x_fn_ne kd_fn]
    refine asks_5 w hw _ _ ?_
    simp (disch := first | omega | (show allOne _ = true; simp [allOne, Value.oneCell', S]) | (simp only [qz]; first | done | omega)) only [go_sem]
    refine word_Bool _ _ _ ?_
    simp (disch := first | omega | (show allOne _ = true; simp [allOne, Value.oneCell', S]) | (simp only [qz]; first | done | omega)) only [go_sem]
    exact hR
  · simp (disch := first | omega | (show allOne _ = true; simp [allOne, Value.oneCell', S]) | (simp only [qz]; first | done | omega)) only [go_sem]
    refine prim_asks 17 _ _ _ ?_
    rw [show asksV 17 H.next = .func (.func 199) #[] [ptr H.next 0].toArray from rfl]
    simp (disch := first | omega | (show allOne _ = true; simp [allOne, Value.oneCell', S]) | (simp only [qz]; first | done | omega)) only [go_sem, x_fn_ne kd_fn, hwho_func (P := Tryz.prog) 199 [ptr H.next 0] [U w] (by kernel_rfl), List.cons_append, List.nil_append]
    refine asks_6 _ _ _ _ _ _ hK w H.next hw hb _ ?_
    simp (disch := first | omega | (show allOne _ = true; simp [allOne, Value.oneCell', S]) | (simp only [qz]; first | done | omega)) only [go_sem]
    refine word_Bool _ _ _ ?_
    simp (disch := first | omega | (show allOne _ = true; simp [allOne, Value.oneCell', S]) | (simp only [qz]; first | done | omega)) only [go_sem]
    exact hR
theorem prim_one_part (op : Nat) (ho : op = 13 ∨ op = 14) (H : HHeap) (g gw gh size : Nat) (T : Things) (hA : AtA H g gw gh size T) (hlt : g < H.next ∧ gw < H.next ∧ gh < H.next) (w : Nat) (hw : w < 18446744073709551616) (R : Value → HHeap → Prop)
    (h1 : pairW T w = true → ∀ x : Nat, getV T w ((op - 13 : Nat) : Int) = .tuple #[U x, I 0] → ∀ H', Old H H' → R (.tuple #[U x, I 0]) H') (h2 : pairW T w = false → ∀ H', Old H H' → R (.tuple #[U 0, I 100]) H') : HCalls Tryz.prog 168 [ptr g 0, I (op : Nat), U w] H R := by
  have hK : AtA (H.push (.cells [ptr g 0] true)) g gw gh size T := hA.frame fun b hb => get_push_ne _ _ (by omega)
  replace h1 := fun q x e => h1 q x e _ (Old.push H (.cells [ptr g 0] true))
  replace h2 := fun q => h2 q _ (Old.push H (.cells [ptr g 0] true))
  refine HCalls.of_hw Tryz.func168 rfl _ Tryz.ntmps168 _ (by rw [Tryz.results168]) ?_
  rw [hframe0_eq _ _ (by simp)]
  simp only [List.zipIdx_cons, List.zipIdx_nil, List.map_cons, List.map_nil, Nat.reduceAdd]
  have hg : ∀ i : Nat, i < 2 → pairW T w = true → ∃ x : Nat, getV T w (i : Int) = .tuple #[U x, I 0] := by
    intro i hi hp
    unfold pairW at hp
    rw [decide_eq_true_iff] at hp
    have hl := hp.2
    unfold lenN at hl
    unfold getV
    split at hl
    · rename_i t ht
      rw [if_pos (by omega)]
      exact ⟨_, rfl⟩
    · omega
  rcases ho with rfl | rfl
  · simp (disch := first | omega | (show allOne _ = true; simp [allOne, Value.oneCell', S]) | (simp only [qz]; first | done | omega)) only [go_sem]
    refine prim_asks 13 _ _ _ ?_
    rw [show asksV 13 H.next = .nilFunc from rfl]
    simp (disch := first | omega | (show allOne _ = true; simp [allOne, Value.oneCell', S]) | (simp only [qz]; first | done | omega)) only [go_sem, x_fn_nn kd_fn]
    refine prim_pair _ _ _ _ _ _ hK w hw _ ?_
    cases hp : pairW T w with
    | false => simp (disch := first | omega | (show allOne _ = true; simp [allOne, Value.oneCell', S]) | (simp only [qz]; first | done | omega)) only [go_sem]; exact h2 hp
    | true =>
      obtain ⟨x, hx⟩ := hg 0 (by omega) hp
      simp (disch := first | omega | (show allOne _ = true; simp [allOne, Value.oneCell', S]) | (simp only [qz]; first | done | omega)) only [go_sem]
      refine arena_Get _ _ _ _ _ _ hK w hw 0 _ ?_
      rw [show getV T w 0 = _ from hx]
      simp (disch := first | omega | (show allOne _ = true; simp [allOne, Value.oneCell', S]) | (simp only [qz]; first | done | omega)) only [go_sem]
      exact h1 hp x hx
  · simp (disch := first | omega | (show allOne _ = true; simp [allOne, Value.oneCell', S]) | (simp only [qz]; first | done | omega)) only [go_sem]
    refine prim_asks 14 _ _ _ ?_
    rw [show asksV 14 H.next = .nilFunc from rfl]
    simp (disch := first | omega | (show allOne _ = true; simp [allOne, Value.oneCell', S]) | (simp only [qz]; first | done | omega)) only [go_sem, x_fn_nn kd_fn]
    refine prim_pair _ _ _ _ _ _ hK w hw _ ?_
    cases hp : pairW T w with
    | false => simp (disch := first | omega | (show allOne _ = true; simp [allOne, Value.oneCell', S]) | (simp only [qz]; first | done | omega)) only [go_sem]; exact h2 hp
    | true =>
      obtain ⟨x, hx⟩ := hg 1 (by omega) hp
      simp (disch := first | omega | (show allOne _ = true; simp [allOne, Value.oneCell', S]) | (simp only [qz]; first | done | omega)) only [go_sem]
      refine arena_Get _ _ _ _ _ _ hK w hw 1 _ ?_
      rw [show getV T w 1 = _ from hx]
      simp (disch := first | omega | (show allOne _ = true; simp [allOne, Value.oneCell', S]) | (simp only [qz]; first | done | omega)) only [go_sem]
      exact h1 hp x hx
theorem prim_one_none (op : Nat) (ho : op ≠ 9 ∧ op ≠ 10 ∧ op ≠ 11 ∧ op ≠ 15 ∧ op ≠ 16 ∧ op ≠ 17 ∧ op ≠ 13 ∧ op ≠ 14) (H : HHeap) (g : Nat) (w : Nat) (R : Value → HHeap → Prop)
    (hR : ∀ H', Old H H' → R (.tuple #[U 0, I 1]) H') : HCalls Tryz.prog 168 [ptr g 0, I (op : Nat), U w] H R := by
  replace hR := hR _ (Old.push H (.cells [ptr g 0] true))
  refine HCalls.of_hw Tryz.func168 rfl _ Tryz.ntmps168 _ (by rw [Tryz.results168]) ?_
  rw [hframe0_eq _ _ (by simp)]
  simp only [List.zipIdx_cons, List.zipIdx_nil, List.map_cons, List.map_nil, Nat.reduceAdd]
  simp (disch := first | omega | (show allOne _ = true; simp [allOne, Value.oneCell', S]) | (simp only [qz]; first | done | omega)) only [go_sem]
  refine prim_asks op _ _ _ ?_
  rw [show asksV op H.next = .nilFunc by unfold asksV; rw [if_neg (by omega), if_neg (by omega), if_neg (by omega), if_neg (by omega), if_neg (by omega), if_neg (by omega)]]
  simp (disch := first | omega | (show allOne _ = true; simp [allOne, Value.oneCell', S]) | (simp only [qz]; first | done | omega)) only [go_sem, x_fn_nn kd_fn]
  exact hR
end Go.HL
/-
  Walks: what is done to words.
-/
namespace Go.HL
open Go.RowKit Go.Proofs
set_option maxHeartbeats 4000000
set_option maxRecDepth 100000
set_option linter.unusedSimpArgs false
set_option linter.unusedVariables false
theorem word_at {Z : Zs} {H : HHeap} {s : Value} {l : List Nat} (h : Sl rW Z H s l) {i : Nat} {x : Nat} (hx : l[i]? = some x) :
    ∃ b o k c cs rw, s = .slice (some ⟨b, o, k⟩) l.length c ∧ Z b ∧ H.get b = some (.cells cs rw) ∧ cs[o + i]? = some (U x) := by
  obtain ⟨b, o, k, c, cs, rw, h1, h2, h3, h4, h5⟩ := h.at hx
  have := rOne_at (f := U) (Z := Z) (H := H) h5
  rw [Nat.mul_one] at this
  exact ⟨b, o, k, c, cs, rw, h1, h2, h3, this⟩
/-- What is done to words: the word, the error, and the things then. -/
def doP (size : Nat) (T : Things) (op : Nat) : List Nat → Nat × Nat × Things
  | [w] =>
    if op = 9 ∨ op = 10 ∨ op = 11 ∨ op = 15 ∨ op = 16 ∨ op = 17 then (boolW (askF T op w), 0, T)
    else if op = 13 ∨ op = 14 then
      (if pairW T w then ((match findT T w with | some t => t.l.getD (op - 13) 0 | none => 0), 0, T) else (0, 100, T))
    else (0, 1, T)
  | [x, y] =>
    if 1 ≤ op ∧ op ≤ 7 then
      (match doV (signs7.getD (op - 1) 0).toNat x y with | .tuple vs => (match vs.toList with | [.int _ w, .int _ e] => (w.toNat, e.toNat, T) | _ => (0, 0, T)) | _ => (0, 0, T))
    else if op = 8 then (boolW (decide (x = y)), 0, T)
    else if op = 12 then (if usedOf T + 3 ≤ size then (wordAt (usedOf T), 0, T ++ [⟨1, [x, y]⟩]) else (0, 20, T))
    else (0, 1, T)
  | _ => (0, 1, T)
theorem prim_Do1 (H : HHeap) (g gw gh size : Nat) (T : Things) (hA : AtA H g gw gh size T) (hlt : g < H.next ∧ gw < H.next ∧ gh < H.next) (op : Nat) (ho1 : op < 1000000) (s : Value) (w : Nat) (hw : w < 18446744073709551616) (Z : Zs) (hs : Sl rW Z H s [w]) (R : Value → HHeap → Prop)
    (hR : ∀ H', Old H H' → R (.tuple #[U (doP size T op [w]).1, I ((doP size T op [w]).2.1 : Nat)]) H') : HCalls Tryz.prog 130 [ptr g 0, I (op : Nat), s] H R := by
  obtain ⟨b, o, k, c, cs, rw, rfl, h2, h3, h4⟩ := word_at hs (i := 0) (x := w) rfl
  refine HCalls.of_hw Tryz.func130 rfl _ Tryz.ntmps130 _ (by rw [Tryz.results130]) ?_
  rw [hframe0_eq _ _ (by simp)]
  simp only [List.zipIdx_cons, List.zipIdx_nil, List.map_cons, List.map_nil, Nat.reduceAdd]
  have h4' : cs[o]? = some (U w) := h4
  simp (disch := first | omega | (show allOne _ = true; simp [allOne, Value.oneCell', S]) | (simp only [qz]; first | done | omega)) only [go_sem, h3, ixa_ok, ldc_cells, h4', show (([w] : List Nat).length = 1) from rfl]
  by_cases h1 : op = 9 ∨ op = 10 ∨ op = 11 ∨ op = 15 ∨ op = 16 ∨ op = 17
  · refine prim_one_ask op (by omega) _ _ _ _ _ _ hA hlt w hw _ ?_
    intro H' hO
    simp (disch := first | omega | (show allOne _ = true; simp [allOne, Value.oneCell', S]) | (simp only [qz]; first | done | omega)) only [go_sem]
    have := hR H' hO
    rw [doP, if_pos h1] at this
    exact this
  · by_cases h5 : op = 13 ∨ op = 14
    · refine prim_one_part op h5 _ _ _ _ _ _ hA hlt w hw _ ?_ ?_
      · intro hp x hx H' hO
        have := hR H' hO
        rw [doP, if_neg h1, if_pos h5, if_pos hp] at this
        have e : (match findT T w with | some t => t.l.getD (op - 13) 0 | none => 0) = x := by
          unfold getV at hx
          split at hx
          · rename_i t ht
            split at hx
            · simp only [Value.tuple.injEq] at hx
              simp at hx
              rw [ht]; simp; omega
            · simp at hx
          · simp at hx
        rw [e] at this
        simp (disch := first | omega | (show allOne _ = true; simp [allOne, Value.oneCell', S]) | (simp only [qz]; first | done | omega)) only [go_sem]
        exact this
      · intro hp H' hO
        have := hR H' hO
        rw [doP, if_neg h1, if_pos h5, if_neg (by simp [hp])] at this
        simp (disch := first | omega | (show allOne _ = true; simp [allOne, Value.oneCell', S]) | (simp only [qz]; first | done | omega)) only [go_sem]
        exact this
    · refine prim_one_none op (by omega) _ _ w _ ?_
      intro H' hO
      have := hR H' hO
      rw [doP, if_neg h1, if_neg h5] at this
      simp (disch := first | omega | (show allOne _ = true; simp [allOne, Value.oneCell', S]) | (simp only [qz]; first | done | omega)) only [go_sem]
      exact this
theorem prim_Do2 (H : HHeap) (g gw gh size : Nat) (T : Things) (hA : AtA H g gw gh size T) (hlt : g < H.next ∧ gw < H.next ∧ gh < H.next) (op : Nat) (ho0 : 1 ≤ op) (ho1 : op < 1000000) (s : Value) (x y : Nat) (hx : x < 18446744073709551616) (hy : y < 18446744073709551616) (Z : Zs) (hZ : ∀ b, Z b → b < H.next) (hz : ¬ Z g ∧ ¬ Z gw ∧ ¬ Z gh) (hs : Sl rW Z H s [x, y]) (R : Value → HHeap → Prop)
    (h0 : op ≠ 12 → ∀ w e : Nat, doP size T op [x, y] = (w, e, T) → R (.tuple #[U w, I (e : Nat)]) H)
    (h1 : op = 12 → usedOf T + 3 ≤ size → ∀ K, K = H.push (.cells [U x, U y] true) → R (.tuple #[U (wordAt (usedOf T)), I 0]) (putT K g gw gh size (T ++ [⟨1, [x, y]⟩])))
    (h2 : op = 12 → size < usedOf T + 3 → ∀ K, K = H.push (.cells [U x, U y] true) → R (.tuple #[U 0, I 20]) K) : HCalls Tryz.prog 130 [ptr g 0, I (op : Nat), s] H R := by
  obtain ⟨b, o, k, c, cs, rw, rfl, h3, h4, h5⟩ := word_at hs (i := 0) (x := x) rfl
  obtain ⟨b', o', k', c', cs', rw', e, h3', h4', h5'⟩ := word_at hs (i := 1) (x := y) rfl
  cases e
  rw [h4] at h4'
  cases h4'
  have h6 : cs[o]? = some (U x) := h5
  refine HCalls.of_hw Tryz.func130 rfl _ Tryz.ntmps130 _ (by rw [Tryz.results130]) ?_
  rw [hframe0_eq _ _ (by simp)]
  simp only [List.zipIdx_cons, List.zipIdx_nil, List.map_cons, List.map_nil, Nat.reduceAdd]
  simp (disch := first | omega | (show allOne _ = true; simp [allOne, Value.oneCell', S]) | (simp only [qz]; first | done | omega)) only [go_sem, show (([x, y] : List Nat).length = 2) from rfl]
  refine Hwp.drawn mixed [0, 0, 0, 4, 12, 0, 32, 96, 255, 511, 511, 2047, 4095] (.op 0 (.op 1 (.op 2 (.op 3 (.op 4 (.op 5 (.op 6 (.op 7 (.eff 8 (.op 9 (.op 10 (.op 11 (.op 12 .done)))) .stop))))))))) (by kernel_rfl) ?_
  simp (disch := first | omega | (show allOne _ = true; simp [allOne, Value.oneCell', S]) | (simp only [qz]; first | done | omega)) only [go_sem, h4, ixa_ok, ldc_cells, h6, h5', show (([x, y] : List Nat).length = 2) from rfl]
  by_cases c1 : 1 ≤ op ∧ op ≤ 7
  · refine prim_two_num op c1 _ x y hx hy _ _ ?_
    obtain ⟨w, e, hv, _⟩ := doV_form (signs7.getD (op - 1) 0).toNat x y
    have := h0 (by omega) w e (by rw [doP, if_pos c1, hv]; simp)
    rw [hv]
    simp (disch := first | omega | (show allOne _ = true; simp [allOne, Value.oneCell', S]) | (simp only [qz]; first | done | omega)) only [go_sem, h4, ixa_ok, ldc_cells, h6, h5', show (([x, y] : List Nat).length = 2) from rfl]
    exact this
  · by_cases c2 : op = 8
    · subst c2
      refine prim_two_same _ x y _ _ ?_
      have := h0 (by omega) _ 0 (by rw [doP, if_neg (by omega), if_pos rfl])
      simp (disch := first | omega | (show allOne _ = true; simp [allOne, Value.oneCell', S]) | (simp only [qz]; first | done | omega)) only [go_sem, h4, ixa_ok, ldc_cells, h6, h5', show (([x, y] : List Nat).length = 2) from rfl]
      exact this
    · by_cases c3 : op = 12
      · subst c3
        have hb := hZ b h3
        have n1 : b ≠ g := by rintro rfl; exact hz.1 h3
        have n2 : b ≠ gw := by rintro rfl; exact hz.2.1 h3
        have n3 : b ≠ gh := by rintro rfl; exact hz.2.2 h3
        refine prim_two_cons _ _ _ _ _ _ hA hlt x y hx hy _ ?_ ?_
        · intro hr K hK
          have hg : (putT K g gw gh size (T ++ [⟨1, [x, y]⟩])).get b = some (.cells cs rw) := by
            unfold putT
            rw [get_set_ne _ _ _ n1, get_set_ne _ _ _ n3, get_set_ne _ _ _ n2, hK, get_push_ne _ _ (by omega), h4]
          have := h1 rfl hr K hK
          generalize putT K g gw gh size (T ++ [⟨1, [x, y]⟩]) = H2 at *
          simp (disch := first | omega | (show allOne _ = true; simp [allOne, Value.oneCell', S]) | (simp only [qz]; first | done | omega)) only [go_sem, hg, ixa_ok, ldc_cells, h6, h5', show (([x, y] : List Nat).length = 2) from rfl]
          exact this
        · intro hr K hK
          have hg : K.get b = some (.cells cs rw) := by rw [hK, get_push_ne _ _ (by omega), h4]
          have := h2 rfl hr K hK
          clear hK
          simp (disch := first | omega | (show allOne _ = true; simp [allOne, Value.oneCell', S]) | (simp only [qz]; first | done | omega)) only [go_sem, hg, ixa_ok, ldc_cells, h6, h5', show (([x, y] : List Nat).length = 2) from rfl]
          exact this
      · refine prim_two_none op (by omega) _ x y _ _ ?_
        have := h0 c3 0 1 (by rw [doP, if_neg c1, if_neg c2, if_neg c3])
        simp (disch := first | omega | (show allOne _ = true; simp [allOne, Value.oneCell', S]) | (simp only [qz]; first | done | omega)) only [go_sem, h4, ixa_ok, ldc_cells, h6, h5', show (([x, y] : List Nat).length = 2) from rfl]
        exact this
end Go.HL
