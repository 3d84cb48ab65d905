/-
  Joined: D8.
-/
import Derived.Test.YtkflilieljojfaaL41
/-
  Walks: the document's arenas: what is found; what is brought.
-/
namespace Go.HL
open Go.RowKit Go.Proofs
set_option maxHeartbeats 4000000
set_option maxRecDepth 100000
set_option linter.unusedSimpArgs false
set_option linter.unusedVariables false

theorem rcells_get : ∀ (p : Nat) (T : Things) (lvs : List Value) (i : Nat) (t : Thing) (lv : Value), T[i]? = some t → lvs[i]? = some lv →
    (rcells p T lvs)[i * 3]? = some (I (p + placeOf T i : Nat)) ∧ (rcells p T lvs)[i * 3 + 1]? = some (I t.kind) ∧ (rcells p T lvs)[i * 3 + 2]? = some lv
  | _, [], _, i, t, lv, h, _ => by simp at h
  | _, _ :: _, [], i, t, lv, _, h => by simp at h
  | p, u :: T, v :: lvs, 0, t, lv, h, h' => by
    simp at h h'; subst h; subst h'
    simp [rcells, placeOf, usedOf]
  | p, u :: T, v :: lvs, i + 1, t, lv, h, h' => by
    obtain ⟨k1, k2, k3⟩ := rcells_get (p + u.room) T lvs i t lv (by simpa using h) (by simpa using h')
    have e : placeOf (u :: T) (i + 1) = u.room + placeOf T i := by simp [placeOf, usedOf]
    rw [e, show p + (u.room + placeOf T i) = p + u.room + placeOf T i by omega]
    refine ⟨?_, ?_, ?_⟩
    · rw [rcells, show (i + 1) * 3 = i * 3 + 1 + 1 + 1 by omega, List.getElem?_cons_succ, List.getElem?_cons_succ, List.getElem?_cons_succ]; exact k1
    · rw [rcells, show (i + 1) * 3 + 1 = i * 3 + 1 + 1 + 1 + 1 by omega, List.getElem?_cons_succ, List.getElem?_cons_succ, List.getElem?_cons_succ]; exact k2
    · rw [rcells, show (i + 1) * 3 + 2 = i * 3 + 2 + 1 + 1 + 1 by omega, List.getElem?_cons_succ, List.getElem?_cons_succ, List.getElem?_cons_succ]; exact k3
/-- A thing of it. -/
theorem RefAt.thing {H : HHeap} {gr size : Nat} {T : Things} {tv : Value} {lvs : List Value} (h : RefAt H gr size T tv lvs) {i : Nat} {t : Thing} (hi : T[i]? = some t) :
    ∃ b lv, tv = .slice (some ⟨b, 0, some 6⟩) T.length T.length ∧ H.get b = some (.cells (rcells 0 T lvs) true) ∧ lvs[i]? = some lv ∧ LAt H lv t.l ∧ (rcells 0 T lvs)[i * 3]? = some (I (placeOf T i)) ∧ (rcells 0 T lvs)[i * 3 + 1]? = some (I t.kind) ∧ (rcells 0 T lvs)[i * 3 + 2]? = some lv := by
  have hil := (List.getElem?_eq_some_iff.1 hi).1
  obtain ⟨b, h1, h2⟩ := h.t.get (by omega)
  have h3 : lvs[i]? = some (lvs[i]'(by rw [h.len]; exact hil)) := List.getElem?_eq_getElem _
  obtain ⟨k1, k2, k3⟩ := rcells_get 0 T lvs i t _ hi h3
  rw [Nat.zero_add] at k1
  exact ⟨b, _, h1, h2, h3, h.l i t _ hi h3, k1, k2, k3⟩
theorem placeOf_lt {T : Things} {i j : Nat} (h : i < j) (hj : j ≤ T.length) : placeOf T i < placeOf T j := by
  have step : ∀ k, k < T.length → placeOf T k < placeOf T (k + 1) := fun k hk => by
    unfold placeOf; rw [usedOf_take_succ T k hk]
    have : 0 < roomI T k := by unfold roomI; split <;> simp [Thing.room]; omega
    omega
  induction j with
  | zero => omega
  | succ j ih =>
    rcases Nat.lt_or_ge i j with h1 | h1
    · exact Nat.lt_trans (ih h1 (by omega)) (step j (by omega))
    · rw [show i = j by omega]; exact step j (by omega)
def foundV (T : Things) (w : Nat) : Int := match findI T w with | some i => i | none => -1

theorem r02_Find (H : HHeap) (gr size : Nat) (T : Things) (tv : Value) (lvs : List Value) (hA : RefAt H gr size T tv lvs) (hu : usedOf T ≤ 65536) (w : Nat) (hw : w < 18446744073709551616) (R : Value → HHeap → Prop) (hR : R (I (foundV T w)) H) : HCalls Try.prog 32 [ptr gr 0, U w] H R := by
  have hTl := length_le_used T
  obtain ⟨ta, htv⟩ := hA.t.len
  subst htv
  refine HCalls.of_hw Try.func32 rfl _ Try.ntmps32 _ (by rw [Try.results32]) ?_
  rw [hframe0_eq _ _ (by simp)]
  simp only [List.zipIdx_cons, List.zipIdx_nil, List.map_cons, List.map_nil, Nat.reduceAdd]
  simp (disch := first | omega | (show allOne _ = true; simp [allOne, Value.oneCell']) | (simp only [List.length_cons, List.length_nil, List.length_set, List.length_map, List.length_replicate, List.length_append, List.length_take, List.length_drop, Int.toNat_natCast, Int.toNat_of_nonneg, nx_push, nx_set, nx_kill]; done) | (simp only [List.length_cons, List.length_nil, List.length_set, List.length_map, List.length_replicate, List.length_append, List.length_take, List.length_drop, Int.toNat_natCast, Int.toNat_of_nonneg, nx_push, nx_set, nx_kill]; omega)) only [go_sem, reduceCtorEq, Nat.reduceAdd, Nat.reduceSub, Nat.reduceMul, Nat.reduceLT, Nat.reduceLeDiff, Nat.reduceEqDiff, Nat.reduceBEq, Nat.reduceBNe, Int.reduceBEq, Int.reduceEq, Int.reduceLT, Int.reduceLE, Int.reduceAdd, Int.reduceSub, ↓reduceIte, Int.reduceToNat, Nat.reduceShiftRight, Nat.reduceAnd]
  refine r01_To w hw _ _ ?_
  obtain ⟨N, ok, hto, hok⟩ : ∃ (N : Nat) (ok : Bool), toV w = .tuple #[I N, .bool ok] ∧ ((ok = true ∧ w % 8 = 1 ∧ w / 8 = N) ∨ (ok = false ∧ ¬ (w % 8 = 1 ∧ w / 8 < 1099511627776))) := by
    unfold toV
    by_cases h : w % 8 = 1 ∧ w / 8 < 1099511627776
    · rw [if_pos h]; exact ⟨w / 8, true, rfl, .inl ⟨rfl, h.1, rfl⟩⟩
    · rw [if_neg h]; exact ⟨0, false, rfl, .inr ⟨rfl, h⟩⟩
  rw [hto]
  have hs := hA.s
  simp (disch := first | omega | (show allOne _ = true; simp [allOne, Value.oneCell']) | (simp only [List.length_cons, List.length_nil, List.length_set, List.length_map, List.length_replicate, List.length_append, List.length_take, List.length_drop, Int.toNat_natCast, Int.toNat_of_nonneg, nx_push, nx_set, nx_kill]; done) | (simp only [List.length_cons, List.length_nil, List.length_set, List.length_map, List.length_replicate, List.length_append, List.length_take, List.length_drop, Int.toNat_natCast, Int.toNat_of_nonneg, nx_push, nx_set, nx_kill]; omega)) only [go_sem, reduceCtorEq, Nat.reduceAdd, Nat.reduceSub, Nat.reduceMul, Nat.reduceLT, Nat.reduceLeDiff, Nat.reduceEqDiff, Nat.reduceBEq, Nat.reduceBNe, Int.reduceBEq, Int.reduceEq, Int.reduceLT, Int.reduceLE, Int.reduceAdd, Int.reduceSub, ↓reduceIte, Int.reduceToNat, Nat.reduceShiftRight, Nat.reduceAnd, hs, ldc_cells]
  refine Hwp.loop (fun m fr H' => ∃ lo hi : Nat, m = hi - lo ∧ lo ≤ hi ∧ hi ≤ T.length ∧ H' = H ∧ (∀ i, i < lo → placeOf T i < N) ∧ (∀ i, hi ≤ i → i < T.length → N ≤ placeOf T i) ∧
     FLe (hfr 64 [(8, I hi), (7, I lo), (6, .bool ok), (5, I N), (0, ptr gr 0)]) fr) T.length ?_ ?_
  · exact ⟨0, T.length, by omega, by omega, by omega, rfl, fun i hi => by omega, fun i h1 h2 => by omega, fle_of (by simp [flook])⟩
  · rintro m fr H' ⟨lo, hi, rfl, h1, h2, rfl, h3, h4, hle⟩
    refine Hwp.weaken hle (HW.sound _ _ _ _ ?_)
    by_cases hc : lo < hi
    · have hmid : ((lo : Int) + (hi : Int)) / 2 = (((lo + hi) / 2 : Nat) : Int) := by omega
      have hml : (lo + hi) / 2 < T.length := by omega
      obtain ⟨t, ht⟩ : ∃ t, T[(lo + hi) / 2]? = some t := ⟨_, List.getElem?_eq_getElem hml⟩
      obtain ⟨b, lv, e1, e2, e3, e4, e5, e6, e7⟩ := hA.thing ht
      cases e1
      by_cases hlt : placeOf T ((lo + hi) / 2) < N
      · simp (disch := first | omega | (show allOne _ = true; simp [allOne, Value.oneCell']) | (simp only [List.length_cons, List.length_nil, List.length_set, List.length_map, List.length_replicate, List.length_append, List.length_take, List.length_drop, Int.toNat_natCast, Int.toNat_of_nonneg, nx_push, nx_set, nx_kill]; done) | (simp only [List.length_cons, List.length_nil, List.length_set, List.length_map, List.length_replicate, List.length_append, List.length_take, List.length_drop, Int.toNat_natCast, Int.toNat_of_nonneg, nx_push, nx_set, nx_kill]; omega)) only [go_sem, reduceCtorEq, Nat.reduceAdd, Nat.reduceSub, Nat.reduceMul, Nat.reduceLT, Nat.reduceLeDiff, Nat.reduceEqDiff, Nat.reduceBEq, Nat.reduceBNe, Int.reduceBEq, Int.reduceEq, Int.reduceLT, Int.reduceLE, Int.reduceAdd, Int.reduceSub, ↓reduceIte, Int.reduceToNat, Nat.reduceShiftRight, Nat.reduceAnd, hmid, hs, ldc_cells, ixa_ok, e2, e5]
        refine ⟨_, ?_, (lo + hi) / 2 + 1, hi, rfl, by omega, h2, ?_, h4, fle_of (by simp [flook])⟩
        · omega
        · intro i hi'
          rcases Nat.lt_or_ge i ((lo + hi) / 2) with h | h
          · exact Nat.lt_trans (placeOf_lt h (by omega)) hlt
          · rw [show i = (lo + hi) / 2 by omega]; exact hlt
      · simp (disch := first | omega | (show allOne _ = true; simp [allOne, Value.oneCell']) | (simp only [List.length_cons, List.length_nil, List.length_set, List.length_map, List.length_replicate, List.length_append, List.length_take, List.length_drop, Int.toNat_natCast, Int.toNat_of_nonneg, nx_push, nx_set, nx_kill]; done) | (simp only [List.length_cons, List.length_nil, List.length_set, List.length_map, List.length_replicate, List.length_append, List.length_take, List.length_drop, Int.toNat_natCast, Int.toNat_of_nonneg, nx_push, nx_set, nx_kill]; omega)) only [go_sem, reduceCtorEq, Nat.reduceAdd, Nat.reduceSub, Nat.reduceMul, Nat.reduceLT, Nat.reduceLeDiff, Nat.reduceEqDiff, Nat.reduceBEq, Nat.reduceBNe, Int.reduceBEq, Int.reduceEq, Int.reduceLT, Int.reduceLE, Int.reduceAdd, Int.reduceSub, ↓reduceIte, Int.reduceToNat, Nat.reduceShiftRight, Nat.reduceAnd, hmid, hs, ldc_cells, ixa_ok, e2, e5]
        refine ⟨_, ?_, lo, (lo + hi) / 2, rfl, by omega, by omega, h3, ?_, fle_of (by simp [flook])⟩
        · omega
        · intro i h5 h6
          rcases Nat.lt_or_ge ((lo + hi) / 2) i with h | h
          · have := placeOf_lt h (by omega : i ≤ T.length); omega
          · rw [show i = (lo + hi) / 2 by omega]; omega
    · have hlh : lo = hi := by omega
      subst hlh
      rcases hok with ⟨rfl, hw8, rfl⟩ | ⟨rfl, hbad⟩
      · by_cases hl : lo < T.length
        · obtain ⟨t, ht⟩ : ∃ t, T[lo]? = some t := ⟨_, List.getElem?_eq_getElem hl⟩
          obtain ⟨b, lv, e1, e2, e3, e4, e5, e6, e7⟩ := hA.thing ht
          cases e1
          by_cases heq : placeOf T lo = w / 8
          · have hf : foundV T w = lo := by
              unfold foundV
              have : findI T (wordAt (placeOf T lo)) = some lo := word_findI hl
              rw [show wordAt (placeOf T lo) = w by unfold wordAt; omega] at this
              rw [this]
            rw [hf] at hR
            simp (disch := first | omega | (show allOne _ = true; simp [allOne, Value.oneCell']) | (simp only [List.length_cons, List.length_nil, List.length_set, List.length_map, List.length_replicate, List.length_append, List.length_take, List.length_drop, Int.toNat_natCast, Int.toNat_of_nonneg, nx_push, nx_set, nx_kill]; done) | (simp only [List.length_cons, List.length_nil, List.length_set, List.length_map, List.length_replicate, List.length_append, List.length_take, List.length_drop, Int.toNat_natCast, Int.toNat_of_nonneg, nx_push, nx_set, nx_kill]; omega)) only [go_sem, reduceCtorEq, Nat.reduceAdd, Nat.reduceSub, Nat.reduceMul, Nat.reduceLT, Nat.reduceLeDiff, Nat.reduceEqDiff, Nat.reduceBEq, Nat.reduceBNe, Int.reduceBEq, Int.reduceEq, Int.reduceLT, Int.reduceLE, Int.reduceAdd, Int.reduceSub, ↓reduceIte, Int.reduceToNat, Nat.reduceShiftRight, Nat.reduceAnd, hs, ldc_cells, ixa_ok, e2, e5]
            exact hR
          · have hf : foundV T w = -1 := by
              unfold foundV
              cases e : findI T w with
              | none => rfl
              | some j =>
                exfalso
                obtain ⟨j1, j2⟩ := findI_word e
                have hj : placeOf T j = w / 8 := by rw [j1]; unfold wordAt; omega
                rcases Nat.lt_trichotomy j lo with h | h | h
                · have := h3 j h; omega
                · rw [h] at hj; exact heq hj
                · have := placeOf_lt h (by omega : j ≤ T.length)
                  have := h4 lo (Nat.le_refl _) hl
                  omega
            rw [hf] at hR
            simp (disch := first | omega | (show allOne _ = true; simp [allOne, Value.oneCell']) | (simp only [List.length_cons, List.length_nil, List.length_set, List.length_map, List.length_replicate, List.length_append, List.length_take, List.length_drop, Int.toNat_natCast, Int.toNat_of_nonneg, nx_push, nx_set, nx_kill]; done) | (simp only [List.length_cons, List.length_nil, List.length_set, List.length_map, List.length_replicate, List.length_append, List.length_take, List.length_drop, Int.toNat_natCast, Int.toNat_of_nonneg, nx_push, nx_set, nx_kill]; omega)) only [go_sem, reduceCtorEq, Nat.reduceAdd, Nat.reduceSub, Nat.reduceMul, Nat.reduceLT, Nat.reduceLeDiff, Nat.reduceEqDiff, Nat.reduceBEq, Nat.reduceBNe, Int.reduceBEq, Int.reduceEq, Int.reduceLT, Int.reduceLE, Int.reduceAdd, Int.reduceSub, ↓reduceIte, Int.reduceToNat, Nat.reduceShiftRight, Nat.reduceAnd, hs, ldc_cells, ixa_ok, e2, e5]
            exact hR
        · have hf : foundV T w = -1 := by
            unfold foundV
            cases e : findI T w with
            | none => rfl
            | some j =>
              exfalso
              obtain ⟨j1, j2⟩ := findI_word e
              have hj : placeOf T j = w / 8 := by rw [j1]; unfold wordAt; omega
              have := h3 j (by omega)
              omega
          rw [hf] at hR
          simp (disch := first | omega | (show allOne _ = true; simp [allOne, Value.oneCell']) | (simp only [List.length_cons, List.length_nil, List.length_set, List.length_map, List.length_replicate, List.length_append, List.length_take, List.length_drop, Int.toNat_natCast, Int.toNat_of_nonneg, nx_push, nx_set, nx_kill]; done) | (simp only [List.length_cons, List.length_nil, List.length_set, List.length_map, List.length_replicate, List.length_append, List.length_take, List.length_drop, Int.toNat_natCast, Int.toNat_of_nonneg, nx_push, nx_set, nx_kill]; omega)) only [go_sem, reduceCtorEq, Nat.reduceAdd, Nat.reduceSub, Nat.reduceMul, Nat.reduceLT, Nat.reduceLeDiff, Nat.reduceEqDiff, Nat.reduceBEq, Nat.reduceBNe, Int.reduceBEq, Int.reduceEq, Int.reduceLT, Int.reduceLE, Int.reduceAdd, Int.reduceSub, ↓reduceIte, Int.reduceToNat, Nat.reduceShiftRight, Nat.reduceAnd, hs, ldc_cells]
          exact hR
      · have hf : foundV T w = -1 := by unfold foundV; rw [bare_none hu hbad]
        rw [hf] at hR
        simp (disch := first | omega | (show allOne _ = true; simp [allOne, Value.oneCell']) | (simp only [List.length_cons, List.length_nil, List.length_set, List.length_map, List.length_replicate, List.length_append, List.length_take, List.length_drop, Int.toNat_natCast, Int.toNat_of_nonneg, nx_push, nx_set, nx_kill]; done) | (simp only [List.length_cons, List.length_nil, List.length_set, List.length_map, List.length_replicate, List.length_append, List.length_take, List.length_drop, Int.toNat_natCast, Int.toNat_of_nonneg, nx_push, nx_set, nx_kill]; omega)) only [go_sem, reduceCtorEq, Nat.reduceAdd, Nat.reduceSub, Nat.reduceMul, Nat.reduceLT, Nat.reduceLeDiff, Nat.reduceEqDiff, Nat.reduceBEq, Nat.reduceBNe, Int.reduceBEq, Int.reduceEq, Int.reduceLT, Int.reduceLE, Int.reduceAdd, Int.reduceSub, ↓reduceIte, Int.reduceToNat, Nat.reduceShiftRight, Nat.reduceAnd, hs, ldc_cells]
        exact hR

theorem LAt.form {H : HHeap} {lv : Value} {l : List Nat} (h : LAt H lv l) : ∃ a, lv = .slice a l.length l.length := by
  rcases h with ⟨rfl, b, _, h⟩ | ⟨b, _, h, _⟩
  · exact ⟨_, h⟩
  · exact ⟨_, h⟩
theorem LAt.source {H H' : HHeap} {lv : Value} {l : List Nat} (h : LAt H lv l) (f : ∀ b ∈ sblk lv, H'.get b = H.get b) : hsource H' 1 lv = some (l.map U, l.length) := by
  rcases h with ⟨rfl, b, _, rfl⟩ | ⟨b, h0, rfl, h1⟩
  · rw [hsource_slice, List.length_nil]; rfl
  · have : 0 < l.length := by cases l with | nil => exact absurd rfl h0 | cons x l => simp
    rw [hsource_slice, f b (by simp [sblk]), h1, hsrc_cells _ _ _ _ _ this (by simp), List.drop_zero, Nat.mul_one, List.take_of_length_le (by simp)]
/-- Which thing went where. -/
def wentC (T : Things) (F ord : List Nat) : List Value := (List.range T.length).map fun i => U (if i ∈ ord then wordAt (placeIn T F i) else 0)
theorem wentC_len (T : Things) (F ord : List Nat) : (wentC T F ord).length = T.length := by simp [wentC]
theorem wentC_get {T : Things} {F ord : List Nat} {i : Nat} (h : i < T.length) : (wentC T F ord)[i]? = some (U (if i ∈ ord then wordAt (placeIn T F i) else 0)) := by simp [wentC, h]
theorem wentC_set {T : Things} {F ord : List Nat} {i : Nat} (h : i < T.length) : (wentC T F ord).set i (U (wordAt (placeIn T F i))) = wentC T F (ord ++ [i]) := by
  apply List.ext_getElem?
  intro j
  rw [List.getElem?_set]
  rcases Nat.lt_or_ge j T.length with hj | hj
  · rw [wentC_get hj, wentC_get hj]
    by_cases e : i = j
    · subst e; simp [wentC_len, h]
    · rw [if_neg e]; simp [Ne.symm e]
  · rw [List.getElem?_eq_none_iff.2 (by rw [wentC_len]; exact hj), List.getElem?_eq_none_iff.2 (by rw [wentC_len]; exact hj), wentC_len]
    rw [if_neg (by omega)]
/-- How it stands while the document brings. -/
structure RBr (H : HHeap) (ga gb bw size : Nat) (T : Things) (F ord : List Nat) (p q : Nat) (tva tvb : Value) (lva lvb : List Value) : Prop where
  a : RefAt H ga size T tva lva
  b : RefAt H gb size (midT T F p q 0 ord) tvb lvb
  w : H.get bw = some (.cells (wentC T F ord) true)
  ab : ∀ x ∈ rblks ga tva lva, x ∉ rblks gb tvb lvb ∧ x ≠ bw
  bb : bw ∉ rblks gb tvb lvb
theorem RBr.bring {H : HHeap} {ga gb bw size : Nat} {T : Things} {F ord : List Nat} {p q : Nat} {tva tvb : Value} {lva lvb : List Value} (h : RBr H ga gb bw size T F ord p q tva tvb lva lvb) (hsz : size ≤ 65536) (hu : usedOf T ≤ size)
    (w : Nat) (hw : w < 18446744073709551616) (hF : ∃ l, F = stepO T ord w ++ l) (hnd : ord.Nodup) (hlt : ∀ x ∈ ord, x < T.length) (hpq : p < ord.length ∨ p = ord.length ∧ q = 0) (R : Value → HHeap → Prop)
    (hR : ∀ H' tvb' lvb', RBr H' ga gb bw size T F (stepO T ord w) p q tva tvb' lva lvb' → H.next ≤ H'.next → (∀ x, x < H.next → x ∉ rblks gb tvb lvb → x ≠ bw → H'.get x = H.get x) → (∀ x ∈ rblks gb tvb' lvb', x ∈ rblks gb tvb lvb ∨ H.next ≤ x) → R (U (tr T F w)) H') :
    HCalls Try.prog 31 [ptr ga 0, ptr gb 0, .slice (some ⟨bw, 0, none⟩) T.length T.length, U w] H R := by
  refine HCalls.ok fun hok => ?_
  have hbl := hok _ _ h.w
  have hal := h.a.lt hok
  have hTl := length_le_used T
  refine HCalls.of_hw Try.func31 rfl _ Try.ntmps31 _ (by rw [Try.results31]) ?_
  rw [hframe0_eq _ _ (by simp)]
  simp only [List.zipIdx_cons, List.zipIdx_nil, List.map_cons, List.map_nil, Nat.reduceAdd]
  simp (disch := first | omega | (show allOne _ = true; simp [allOne, Value.oneCell']) | (simp only [List.length_cons, List.length_nil, List.length_set, List.length_map, List.length_replicate, List.length_append, List.length_take, List.length_drop, Int.toNat_natCast, Int.toNat_of_nonneg, nx_push, nx_set, nx_kill]; done) | (simp only [List.length_cons, List.length_nil, List.length_set, List.length_map, List.length_replicate, List.length_append, List.length_take, List.length_drop, Int.toNat_natCast, Int.toNat_of_nonneg, nx_push, nx_set, nx_kill]; omega)) only [go_sem, reduceCtorEq, Nat.reduceAdd, Nat.reduceSub, Nat.reduceMul, Nat.reduceLT, Nat.reduceLeDiff, Nat.reduceEqDiff, Nat.reduceBEq, Nat.reduceBNe, Int.reduceBEq, Int.reduceEq, Int.reduceLT, Int.reduceLE, Int.reduceAdd, Int.reduceSub, ↓reduceIte, Int.reduceToNat, Nat.reduceShiftRight, Nat.reduceAnd]
  refine r02_Find _ _ _ _ _ _ h.a (by omega) w hw _ ?_
  cases hi : findI T w with
  | none =>
    have e1 : stepO T ord w = ord := by unfold stepO; rw [hi]
    have e2 : tr T F w = bareN w := by unfold tr bareN; rw [hi]
    have := hR H tvb lvb (by rw [e1]; exact h) (Nat.le_refl _) (fun _ _ _ _ => rfl) (fun _ hx => .inl hx)
    rw [e2, bareN] at this
    have hf : foundV T w = -1 := by unfold foundV; rw [hi]
    rw [hf]
    simp (disch := first | omega | (show allOne _ = true; simp [allOne, Value.oneCell']) | (simp only [List.length_cons, List.length_nil, List.length_set, List.length_map, List.length_replicate, List.length_append, List.length_take, List.length_drop, Int.toNat_natCast, Int.toNat_of_nonneg, nx_push, nx_set, nx_kill]; done) | (simp only [List.length_cons, List.length_nil, List.length_set, List.length_map, List.length_replicate, List.length_append, List.length_take, List.length_drop, Int.toNat_natCast, Int.toNat_of_nonneg, nx_push, nx_set, nx_kill]; omega)) only [go_sem, reduceCtorEq, Nat.reduceAdd, Nat.reduceSub, Nat.reduceMul, Nat.reduceLT, Nat.reduceLeDiff, Nat.reduceEqDiff, Nat.reduceBEq, Nat.reduceBNe, Int.reduceBEq, Int.reduceEq, Int.reduceLT, Int.reduceLE, Int.reduceAdd, Int.reduceSub, ↓reduceIte, Int.reduceToNat, Nat.reduceShiftRight, Nat.reduceAnd]
    refine r01_To w hw _ _ ?_
    rw [toV]
    split
    · rename_i hh; rw [if_pos hh] at this
      simp (disch := first | omega | (show allOne _ = true; simp [allOne, Value.oneCell']) | (simp only [List.length_cons, List.length_nil, List.length_set, List.length_map, List.length_replicate, List.length_append, List.length_take, List.length_drop, Int.toNat_natCast, Int.toNat_of_nonneg, nx_push, nx_set, nx_kill]; done) | (simp only [List.length_cons, List.length_nil, List.length_set, List.length_map, List.length_replicate, List.length_append, List.length_take, List.length_drop, Int.toNat_natCast, Int.toNat_of_nonneg, nx_push, nx_set, nx_kill]; omega)) only [go_sem, reduceCtorEq, Nat.reduceAdd, Nat.reduceSub, Nat.reduceMul, Nat.reduceLT, Nat.reduceLeDiff, Nat.reduceEqDiff, Nat.reduceBEq, Nat.reduceBNe, Int.reduceBEq, Int.reduceEq, Int.reduceLT, Int.reduceLE, Int.reduceAdd, Int.reduceSub, ↓reduceIte, Int.reduceToNat, Nat.reduceShiftRight, Nat.reduceAnd]
      exact this
    · rename_i hh; rw [if_neg hh] at this
      simp (disch := first | omega | (show allOne _ = true; simp [allOne, Value.oneCell']) | (simp only [List.length_cons, List.length_nil, List.length_set, List.length_map, List.length_replicate, List.length_append, List.length_take, List.length_drop, Int.toNat_natCast, Int.toNat_of_nonneg, nx_push, nx_set, nx_kill]; done) | (simp only [List.length_cons, List.length_nil, List.length_set, List.length_map, List.length_replicate, List.length_append, List.length_take, List.length_drop, Int.toNat_natCast, Int.toNat_of_nonneg, nx_push, nx_set, nx_kill]; omega)) only [go_sem, reduceCtorEq, Nat.reduceAdd, Nat.reduceSub, Nat.reduceMul, Nat.reduceLT, Nat.reduceLeDiff, Nat.reduceEqDiff, Nat.reduceBEq, Nat.reduceBNe, Int.reduceBEq, Int.reduceEq, Int.reduceLT, Int.reduceLE, Int.reduceAdd, Int.reduceSub, ↓reduceIte, Int.reduceToNat, Nat.reduceShiftRight, Nat.reduceAnd]
      exact this
  | some i =>
    have hil := findI_lt hi
    obtain ⟨t, ht⟩ : ∃ t, T[i]? = some t := ⟨_, List.getElem?_eq_getElem hil⟩
    have hwg := wentC_get (F := F) (ord := ord) hil
    have hf : foundV T w = i := by unfold foundV; rw [hi]
    have e2 : tr T F w = wordAt (placeIn T F i) := by unfold tr; rw [hi]
    have hww := h.w
    rw [hf]
    by_cases him : i ∈ ord
    · have e1 : stepO T ord w = ord := by unfold stepO; rw [hi]; simp [him]
      rw [if_pos him] at hwg
      have := hR H tvb lvb (by rw [e1]; exact h) (Nat.le_refl _) (fun _ _ _ _ => rfl) (fun _ hx => .inl hx)
      rw [e2] at this
      have hpos : 0 < wordAt (placeIn T F i) := by unfold wordAt; omega
      simp (disch := first | omega | (show allOne _ = true; simp [allOne, Value.oneCell']) | (simp only [List.length_cons, List.length_nil, List.length_set, List.length_map, List.length_replicate, List.length_append, List.length_take, List.length_drop, Int.toNat_natCast, Int.toNat_of_nonneg, nx_push, nx_set, nx_kill]; done) | (simp only [List.length_cons, List.length_nil, List.length_set, List.length_map, List.length_replicate, List.length_append, List.length_take, List.length_drop, Int.toNat_natCast, Int.toNat_of_nonneg, nx_push, nx_set, nx_kill]; omega)) only [go_sem, reduceCtorEq, Nat.reduceAdd, Nat.reduceSub, Nat.reduceMul, Nat.reduceLT, Nat.reduceLeDiff, Nat.reduceEqDiff, Nat.reduceBEq, Nat.reduceBNe, Int.reduceBEq, Int.reduceEq, Int.reduceLT, Int.reduceLE, Int.reduceAdd, Int.reduceSub, ↓reduceIte, Int.reduceToNat, Nat.reduceShiftRight, Nat.reduceAnd, ixa_ok, ldc_cells, hww, hwg]
      exact this
    · rw [if_neg him] at hwg
      have e1 : stepO T ord w = ord ++ [i] := by unfold stepO; rw [hi]; simp [him]
      obtain ⟨l, hF⟩ := hF
      have e3 : placeIn T F i = sumR T ord := by rw [hF, e1, List.append_assoc]; exact placeIn_new T i l ord him
      have e4 : midT T F p q 0 (ord ++ [i]) = midT T F p q 0 ord ++ [t] := by
        rw [midT_append]; simp only [midT]
        rw [midThing_new ht (by omega)]
      have hroom : usedOf (midT T F p q 0 ord) + t.l.length + 1 ≤ size := by
        rw [midT_used]
        have h1 := sumR_le T (ord ++ [i]) (List.nodup_append.2 ⟨hnd, by simp, fun a ha b hb => by simp at hb; subst hb; exact fun e => him (by rw [← e]; exact ha)⟩) (fun x hx => by
          rcases List.mem_append.1 hx with hx | hx
          · exact hlt x hx
          · rw [List.mem_singleton.1 hx]; exact hil)
        rw [sumR_append, sumR_one] at h1
        have : roomI T i = 1 + t.l.length := by unfold roomI; rw [ht]; rfl
        omega
      have htok := h.a.ok t (List.mem_of_getElem? ht)
      have hk1 := htok.k1
      have hk9 := htok.k9
      have hkl := htok.len
      obtain ⟨b, lv, f1, f2, f3, f4, f5, f6, f7⟩ := h.a.thing ht
      obtain ⟨la, hla⟩ := f4.form
      subst hla
      have has := h.a.s
      rw [f1] at has
      have hlvin : ∀ x ∈ sblk (.slice la t.l.length t.l.length), x ∈ rblks ga tva lva := fun x hx => by
        simp only [rblks, List.mem_cons, List.mem_append, List.mem_flatMap]
        exact .inr (.inr ⟨_, List.mem_of_getElem? f3, hx⟩)
      simp (disch := first | omega | (show allOne _ = true; simp [allOne, Value.oneCell']) | (simp only [List.length_cons, List.length_nil, List.length_set, List.length_map, List.length_replicate, List.length_append, List.length_take, List.length_drop, Int.toNat_natCast, Int.toNat_of_nonneg, nx_push, nx_set, nx_kill]; done) | (simp only [List.length_cons, List.length_nil, List.length_set, List.length_map, List.length_replicate, List.length_append, List.length_take, List.length_drop, Int.toNat_natCast, Int.toNat_of_nonneg, nx_push, nx_set, nx_kill]; omega)) only [go_sem, reduceCtorEq, Nat.reduceAdd, Nat.reduceSub, Nat.reduceMul, Nat.reduceLT, Nat.reduceLeDiff, Nat.reduceEqDiff, Nat.reduceBEq, Nat.reduceBNe, Int.reduceBEq, Int.reduceEq, Int.reduceLT, Int.reduceLE, Int.reduceAdd, Int.reduceSub, ↓reduceIte, Int.reduceToNat, Nat.reduceShiftRight, Nat.reduceAnd, ixa_ok, ldc_cells, hww, hwg]
      refine Hwp.drawn mixed [0, 0, 2, 6, 14, 0, 62, 126, 254, 0, 512, 1536, 3584, 0, 15872, 32256, 65024, 131071, 262143, 524287, 524287, 1048575, 4194303] (.op 0 (.op 1 (.op 2 (.op 3 (.op 4 (.op 5 (.op 6 (.op 7 (.op 8 (.op 9 (.op 10 (.op 11 (.op 12 (.op 13 (.op 14 (.op 15 (.op 16 (.eff 17 (.op 18 (.op 19 (.op 20 (.op 21 (.op 22 .done))))) .stop)))))))))))))))))) (by kernel_rfl) ?_
      simp (disch := first | omega | (show allOne _ = true; simp [allOne, Value.oneCell']) | (simp only [List.length_cons, List.length_nil, List.length_set, List.length_map, List.length_replicate, List.length_append, List.length_take, List.length_drop, Int.toNat_natCast, Int.toNat_of_nonneg, nx_push, nx_set, nx_kill]; done) | (simp only [List.length_cons, List.length_nil, List.length_set, List.length_map, List.length_replicate, List.length_append, List.length_take, List.length_drop, Int.toNat_natCast, Int.toNat_of_nonneg, nx_push, nx_set, nx_kill]; omega)) only [go_sem, reduceCtorEq, Nat.reduceAdd, Nat.reduceSub, Nat.reduceMul, Nat.reduceLT, Nat.reduceLeDiff, Nat.reduceEqDiff, Nat.reduceBEq, Nat.reduceBNe, Int.reduceBEq, Int.reduceEq, Int.reduceLT, Int.reduceLE, Int.reduceAdd, Int.reduceSub, ↓reduceIte, Int.reduceToNat, Nat.reduceShiftRight, Nat.reduceAnd, ixa_ok, ldc_cells, has, f2, f6, f7]
      have hrcl : (rcells 0 T lva).length = T.length * 3 := rcells_length 0 T lva h.a.len
      refine r02_AllocV _ _ _ _ _ _ h.b hsz (by omega) t.kind t.l t.l.length rfl htok.words la t.l.length (fun H' hf' => f4.source fun x hx => hf' x (hal x (hlvin x hx)) (h.ab x (hlvin x hx)).1) _ ?_
      intro H' tvb' lvb' hb' hn' hf' hbk'
      unfold allocT allocV at *
      rw [if_pos ⟨⟨by omega, by omega⟩, by omega, hroom⟩] at hb'
      rw [if_pos ⟨⟨by omega, by omega⟩, by omega⟩, if_pos hroom]
      have htk : (⟨((t.kind : Int)).toNat, t.l⟩ : Thing) = t := by cases t; rfl
      rw [htk, ← e4] at hb'
      have hw' : H'.get bw = some (.cells (wentC T F ord) true) := by rw [hf' bw hbl h.bb]; exact hww
      have hx : wordAt (usedOf (midT T F p q 0 ord)) = wordAt (placeIn T F i) := by rw [midT_used, e3]
      rw [hx]
      have hset := wentC_set (F := F) (ord := ord) hil
      have hwl := wentC_len T F ord
      have hwl2 := wentC_len T F (ord ++ [i])
      have hwg2 := wentC_get (F := F) (ord := ord ++ [i]) hil
      rw [if_pos (by simp)] at hwg2
      simp (disch := first | omega | (show allOne _ = true; simp [allOne, Value.oneCell']) | (simp only [List.length_cons, List.length_nil, List.length_set, List.length_map, List.length_replicate, List.length_append, List.length_take, List.length_drop, Int.toNat_natCast, Int.toNat_of_nonneg, nx_push, nx_set, nx_kill]; done) | (simp only [List.length_cons, List.length_nil, List.length_set, List.length_map, List.length_replicate, List.length_append, List.length_take, List.length_drop, Int.toNat_natCast, Int.toNat_of_nonneg, nx_push, nx_set, nx_kill]; omega)) only [go_sem, reduceCtorEq, Nat.reduceAdd, Nat.reduceSub, Nat.reduceMul, Nat.reduceLT, Nat.reduceLeDiff, Nat.reduceEqDiff, Nat.reduceBEq, Nat.reduceBNe, Int.reduceBEq, Int.reduceEq, Int.reduceLT, Int.reduceLE, Int.reduceAdd, Int.reduceSub, ↓reduceIte, Int.reduceToNat, Nat.reduceShiftRight, Nat.reduceAnd, ixa_ok, ldc_cells, hw', stc_cells, hset, hwg2]
      rw [← e2]
      have hbn : ∀ x, x ∈ rblks gb tvb' lvb' → x ≠ bw := fun x hx e => by
        subst e
        rcases hbk' _ hx with h1 | h1
        · exact h.bb h1
        · omega
      have han : ∀ x ∈ rblks ga tva lva, x ∉ rblks gb tvb' lvb' := fun x hx hm => by
        rcases hbk' _ hm with h1 | h1
        · exact (h.ab x hx).1 h1
        · have := hal x hx; omega
      refine hR _ tvb' lvb' ⟨?_, ?_, ?_, fun x hx => ⟨han x hx, (h.ab x hx).2⟩, fun hm => hbn _ hm rfl⟩ (by simp (disch := first | omega | (simp only [nx_push, nx_set, nx_kill]; done) | (simp only [nx_push, nx_set, nx_kill]; omega)) only [get_push_ne, get_push_eq, get_set_ne, get_set_eq, get_kill_ne, nx_push, nx_set, nx_kill]; exact hn') ?_ hbk'
      · exact h.a.frame (by simp (disch := first | omega | (simp only [nx_push, nx_set, nx_kill]; done) | (simp only [nx_push, nx_set, nx_kill]; omega)) only [get_push_ne, get_push_eq, get_set_ne, get_set_eq, get_kill_ne, nx_push, nx_set, nx_kill]; exact hn') fun x hx => by
          have := (h.ab x hx).2
          simp (disch := first | omega | (simp only [nx_push, nx_set, nx_kill]; done) | (simp only [nx_push, nx_set, nx_kill]; omega)) only [get_push_ne, get_push_eq, get_set_ne, get_set_eq, get_kill_ne, nx_push, nx_set, nx_kill]
          exact hf' x (hal x hx) (h.ab x hx).1
      · rw [e1]
        exact hb'.frame (by simp (disch := first | omega | (simp only [nx_push, nx_set, nx_kill]; done) | (simp only [nx_push, nx_set, nx_kill]; omega)) only [get_push_ne, get_push_eq, get_set_ne, get_set_eq, get_kill_ne, nx_push, nx_set, nx_kill]; omega) fun x hx => by
          have := hbn x hx
          simp (disch := first | omega | (simp only [nx_push, nx_set, nx_kill]; done) | (simp only [nx_push, nx_set, nx_kill]; omega)) only [get_push_ne, get_push_eq, get_set_ne, get_set_eq, get_kill_ne, nx_push, nx_set, nx_kill]
      · rw [e1]; simp (disch := first | omega | (simp only [nx_push, nx_set, nx_kill]; done) | (simp only [nx_push, nx_set, nx_kill]; omega)) only [get_push_ne, get_push_eq, get_set_ne, get_set_eq, get_kill_ne, nx_push, nx_set, nx_kill]
      · intro x hx h1 h2
        simp (disch := first | omega | (simp only [nx_push, nx_set, nx_kill]; done) | (simp only [nx_push, nx_set, nx_kill]; omega)) only [get_push_ne, get_push_eq, get_set_ne, get_set_eq, get_kill_ne, nx_push, nx_set, nx_kill]
        exact hf' x hx h1
end Go.HL
