/-
  Joined: D1.
-/
import Derived.Test.YtkflilieljojfaaL25
/-
  Walks: the document's words, and its arenas (making).
-/
namespace Go.HL
open Go.RowKit Go.Proofs
set_option maxHeartbeats 4000000
set_option maxRecDepth 100000
set_option linter.unusedSimpArgs false
set_option linter.unusedVariables false

theorem r01_Of (n : Nat) (hn : n < 1099511627776) (H : HHeap) (R : Value → HHeap → Prop) (hR : R (.tuple #[U (wordAt n), I 0]) H) : HCalls Try.prog 37 [I 1, I n] H R := by
  refine HCalls.of_hw Try.func37 rfl _ Try.ntmps37 _ (by rw [Try.results37]) ?_
  rw [hframe0_eq _ _ (by simp)]
  simp only [List.zipIdx_cons, List.zipIdx_nil, List.map_cons, List.map_nil, Nat.reduceAdd]
  simp (disch := first | omega | (show allOne _ = true; simp [allOne, Value.oneCell']) | (simp only [List.length_cons, List.length_nil, List.length_set, List.length_map, List.length_replicate, List.length_append, List.length_take, List.length_drop, Int.toNat_natCast, Int.toNat_of_nonneg, nx_push, nx_set, nx_kill]; done) | (simp only [List.length_cons, List.length_nil, List.length_set, List.length_map, List.length_replicate, List.length_append, List.length_take, List.length_drop, Int.toNat_natCast, Int.toNat_of_nonneg, nx_push, nx_set, nx_kill]; omega)) only [go_sem, reduceCtorEq, Nat.reduceAdd, Nat.reduceSub, Nat.reduceMul, Nat.reduceLT, Nat.reduceLeDiff, Nat.reduceEqDiff, Nat.reduceBEq, Nat.reduceBNe, Int.reduceBEq, Int.reduceEq, Int.reduceLT, Int.reduceLE, Int.reduceAdd, Int.reduceSub, ↓reduceIte, Int.reduceToNat, Nat.reduceShiftRight, Nat.reduceAnd]
  rw [show (n : Int) * 8 + 1 = ((wordAt n : Nat) : Int) by unfold wordAt; omega]
  exact hR
theorem r01_Of_big (n : Nat) (hn : 1099511627776 ≤ n) (hn' : n < 9223372036854775808) (H : HHeap) (R : Value → HHeap → Prop) (hR : R (.tuple #[U 0, I 1]) H) : HCalls Try.prog 37 [I 1, I n] H R := by
  refine HCalls.of_hw Try.func37 rfl _ Try.ntmps37 _ (by rw [Try.results37]) ?_
  rw [hframe0_eq _ _ (by simp)]
  simp only [List.zipIdx_cons, List.zipIdx_nil, List.map_cons, List.map_nil, Nat.reduceAdd]
  simp (disch := first | omega | (show allOne _ = true; simp [allOne, Value.oneCell']) | (simp only [List.length_cons, List.length_nil, List.length_set, List.length_map, List.length_replicate, List.length_append, List.length_take, List.length_drop, Int.toNat_natCast, Int.toNat_of_nonneg, nx_push, nx_set, nx_kill]; done) | (simp only [List.length_cons, List.length_nil, List.length_set, List.length_map, List.length_replicate, List.length_append, List.length_take, List.length_drop, Int.toNat_natCast, Int.toNat_of_nonneg, nx_push, nx_set, nx_kill]; omega)) only [go_sem, reduceCtorEq, Nat.reduceAdd, Nat.reduceSub, Nat.reduceMul, Nat.reduceLT, Nat.reduceLeDiff, Nat.reduceEqDiff, Nat.reduceBEq, Nat.reduceBNe, Int.reduceBEq, Int.reduceEq, Int.reduceLT, Int.reduceLE, Int.reduceAdd, Int.reduceSub, ↓reduceIte, Int.reduceToNat, Nat.reduceShiftRight, Nat.reduceAnd]
  exact hR
theorem r01_To (x : Nat) (hx : x < 18446744073709551616) (H : HHeap) (R : Value → HHeap → Prop) (hR : R (toV x) H) : HCalls Try.prog 34 [I 1, U x] H R := by
  refine HCalls.of_hw Try.func34 rfl _ Try.ntmps34 _ (by rw [Try.results34]) ?_
  rw [hframe0_eq _ _ (by simp)]
  simp only [List.zipIdx_cons, List.zipIdx_nil, List.map_cons, List.map_nil, Nat.reduceAdd]
  simp (disch := first | omega | (show allOne _ = true; simp [allOne, Value.oneCell']) | (simp only [List.length_cons, List.length_nil, List.length_set, List.length_map, List.length_replicate, List.length_append, List.length_take, List.length_drop, Int.toNat_natCast, Int.toNat_of_nonneg, nx_push, nx_set, nx_kill]; done) | (simp only [List.length_cons, List.length_nil, List.length_set, List.length_map, List.length_replicate, List.length_append, List.length_take, List.length_drop, Int.toNat_natCast, Int.toNat_of_nonneg, nx_push, nx_set, nx_kill]; omega)) only [go_sem, reduceCtorEq, Nat.reduceAdd, Nat.reduceSub, Nat.reduceMul, Nat.reduceLT, Nat.reduceLeDiff, Nat.reduceEqDiff, Nat.reduceBEq, Nat.reduceBNe, Int.reduceBEq, Int.reduceEq, Int.reduceLT, Int.reduceLE, Int.reduceAdd, Int.reduceSub, ↓reduceIte, Int.reduceToNat, Nat.reduceShiftRight, Nat.reduceAnd]
  have hd : ((x : Int) / 8) = ((x / 8 : Nat) : Int) := by omega
  rw [hd]
  by_cases h2 : x / 8 < 1099511627776
  · refine r01_Of (x / 8) h2 _ _ ?_
    by_cases h1 : x % 8 = 1
    · rw [toV, if_pos ⟨h1, h2⟩] at hR
      have : wordAt (x / 8) = x := by unfold wordAt; omega
      rw [this]
      simp (disch := first | omega | (show allOne _ = true; simp [allOne, Value.oneCell']) | (simp only [List.length_cons, List.length_nil, List.length_set, List.length_map, List.length_replicate, List.length_append, List.length_take, List.length_drop, Int.toNat_natCast, Int.toNat_of_nonneg, nx_push, nx_set, nx_kill]; done) | (simp only [List.length_cons, List.length_nil, List.length_set, List.length_map, List.length_replicate, List.length_append, List.length_take, List.length_drop, Int.toNat_natCast, Int.toNat_of_nonneg, nx_push, nx_set, nx_kill]; omega)) only [go_sem, reduceCtorEq, Nat.reduceAdd, Nat.reduceSub, Nat.reduceMul, Nat.reduceLT, Nat.reduceLeDiff, Nat.reduceEqDiff, Nat.reduceBEq, Nat.reduceBNe, Int.reduceBEq, Int.reduceEq, Int.reduceLT, Int.reduceLE, Int.reduceAdd, Int.reduceSub, ↓reduceIte, Int.reduceToNat, Nat.reduceShiftRight, Nat.reduceAnd]
      exact hR
    · rw [toV, if_neg (by simp [h1])] at hR
      have : wordAt (x / 8) ≠ x := by unfold wordAt; omega
      simp (disch := first | omega | (show allOne _ = true; simp [allOne, Value.oneCell']) | (simp only [List.length_cons, List.length_nil, List.length_set, List.length_map, List.length_replicate, List.length_append, List.length_take, List.length_drop, Int.toNat_natCast, Int.toNat_of_nonneg, nx_push, nx_set, nx_kill]; done) | (simp only [List.length_cons, List.length_nil, List.length_set, List.length_map, List.length_replicate, List.length_append, List.length_take, List.length_drop, Int.toNat_natCast, Int.toNat_of_nonneg, nx_push, nx_set, nx_kill]; omega)) only [go_sem, reduceCtorEq, Nat.reduceAdd, Nat.reduceSub, Nat.reduceMul, Nat.reduceLT, Nat.reduceLeDiff, Nat.reduceEqDiff, Nat.reduceBEq, Nat.reduceBNe, Int.reduceBEq, Int.reduceEq, Int.reduceLT, Int.reduceLE, Int.reduceAdd, Int.reduceSub, ↓reduceIte, Int.reduceToNat, Nat.reduceShiftRight, Nat.reduceAnd]
      exact hR
  · refine r01_Of_big (x / 8) (by omega) (by omega) _ _ ?_
    rw [toV, if_neg (by simp [h2])] at hR
    simp (disch := first | omega | (show allOne _ = true; simp [allOne, Value.oneCell']) | (simp only [List.length_cons, List.length_nil, List.length_set, List.length_map, List.length_replicate, List.length_append, List.length_take, List.length_drop, Int.toNat_natCast, Int.toNat_of_nonneg, nx_push, nx_set, nx_kill]; done) | (simp only [List.length_cons, List.length_nil, List.length_set, List.length_map, List.length_replicate, List.length_append, List.length_take, List.length_drop, Int.toNat_natCast, Int.toNat_of_nonneg, nx_push, nx_set, nx_kill]; omega)) only [go_sem, reduceCtorEq, Nat.reduceAdd, Nat.reduceSub, Nat.reduceMul, Nat.reduceLT, Nat.reduceLeDiff, Nat.reduceEqDiff, Nat.reduceBEq, Nat.reduceBNe, Int.reduceBEq, Int.reduceEq, Int.reduceLT, Int.reduceLE, Int.reduceAdd, Int.reduceSub, ↓reduceIte, Int.reduceToNat, Nat.reduceShiftRight, Nat.reduceAnd]
    exact hR

/-- The words of a thing of the document's. -/
def LAt (H : HHeap) (lv : Value) (l : List Nat) : Prop :=
  (l = [] ∧ ∃ b, b < H.next ∧ lv = .slice (some ⟨b, 0, none⟩) 0 0) ∨ (∃ b, l ≠ [] ∧ lv = .slice (some ⟨b, 0, some 2⟩) l.length l.length ∧ H.get b = some (.cells (l.map U) true))
def rcells : Nat → Things → List Value → List Value
  | p, t :: T, lv :: lvs => I p :: I t.kind :: lv :: rcells (p + t.room) T lvs
  | _, _, _ => []
theorem rcells_length : ∀ (p : Nat) (T : Things) (lvs : List Value), lvs.length = T.length → (rcells p T lvs).length = T.length * 3
  | _, [], [], _ => rfl
  | _, [], _ :: _, h => by simp at h
  | _, _ :: _, [], h => by simp at h
  | p, t :: T, lv :: lvs, h => by simp [rcells, rcells_length (p + t.room) T lvs (by simpa using h)]; omega
theorem rcells_append : ∀ (p : Nat) (T : Things) (lvs : List Value) (t : Thing) (lv : Value), lvs.length = T.length → rcells p (T ++ [t]) (lvs ++ [lv]) = rcells p T lvs ++ [I (p + usedOf T : Nat), I t.kind, lv]
  | _, [], [], _, _, _ => by simp [rcells, usedOf]
  | _, [], _ :: _, _, _, h => by simp at h
  | _, _ :: _, [], _, _, h => by simp at h
  | p, t :: T, lv :: lvs, t', lv', h => by
    simp only [List.cons_append, rcells, rcells_append (p + t.room) T lvs t' lv' (by simpa using h), usedOf]
    rw [show p + t.room + usedOf T = p + (t.room + usedOf T) by omega]
/-- All blocks of an arena of the document's. -/
def rblks (gr : Nat) (tv : Value) (lvs : List Value) : List Nat := gr :: (sblk tv ++ lvs.flatMap sblk)
structure RefAt (H : HHeap) (gr size : Nat) (T : Things) (tv : Value) (lvs : List Value) : Prop where
  s : H.get gr = some (.cells [I size, I (usedOf T), tv] true)
  t : GrAt H tv 3 T.length (rcells 0 T lvs)
  len : lvs.length = T.length
  l : ∀ (i : Nat) t lv, T[i]? = some t → lvs[i]? = some lv → LAt H lv t.l
  nd : (rblks gr tv lvs).Nodup
  ok : TOk T
theorem LAt.frame {H H' : HHeap} {lv : Value} {l : List Nat} (h : LAt H lv l) (hn : H.next ≤ H'.next) (f : ∀ b ∈ sblk lv, H'.get b = H.get b) : LAt H' lv l := by
  rcases h with ⟨h1, b, h2, h3⟩ | ⟨b, h1, h2, h3⟩
  · exact .inl ⟨h1, b, by omega, h3⟩
  · exact .inr ⟨b, h1, h2, by rw [f b (by rw [h2]; simp [sblk])]; exact h3⟩
theorem RefAt.frame {H H' : HHeap} {gr size : Nat} {T : Things} {tv : Value} {lvs : List Value} (h : RefAt H gr size T tv lvs) (hn : H.next ≤ H'.next) (f : ∀ b ∈ rblks gr tv lvs, H'.get b = H.get b) : RefAt H' gr size T tv lvs :=
  ⟨by rw [f gr (by simp [rblks])]; exact h.s, h.t.frame fun b hb => f b (by simp [rblks, hb]), h.len,
    fun i t lv e e' => (h.l i t lv e e').frame hn fun b hb => f b (by
      simp only [rblks, List.mem_cons, List.mem_append, List.mem_flatMap]
      exact .inr (.inr ⟨lv, List.mem_of_getElem? e', hb⟩)), h.nd, h.ok⟩
theorem LAt.lt {H : HHeap} {lv : Value} {l : List Nat} (h : LAt H lv l) (ok : H.Ok) : ∀ b ∈ sblk lv, b < H.next := by
  rcases h with ⟨h1, b, h2, rfl⟩ | ⟨b, h1, rfl, h3⟩
  · intro x hx; simp [sblk] at hx; omega
  · intro x hx; simp [sblk] at hx; subst hx; exact ok _ _ h3
theorem RefAt.lt {H : HHeap} {gr size : Nat} {T : Things} {tv : Value} {lvs : List Value} (h : RefAt H gr size T tv lvs) (ok : H.Ok) : ∀ b ∈ rblks gr tv lvs, b < H.next := by
  intro b hb
  simp only [rblks, List.mem_cons, List.mem_append, List.mem_flatMap] at hb
  rcases hb with rfl | hb | ⟨lv, h1, h2⟩
  · exact ok _ _ h.s
  · exact h.t.lt ok b hb
  · obtain ⟨i, hi⟩ := List.getElem?_of_mem h1
    have hil : i < T.length := by rw [← h.len]; exact (List.getElem?_eq_some_iff.1 hi).1
    exact (h.l i _ lv (List.getElem?_eq_getElem hil) hi).lt ok b h2

theorem r02_New (n : Nat) (h1 : 1 ≤ n) (h2 : n ≤ 65536) (H : HHeap) (R : Value → HHeap → Prop)
    (hR : ∀ H', RefAt H' H.next n [] (.slice none 0 0) [] → H'.next = H.next + 1 → (∀ b, b ≠ H.next → H'.get b = H.get b) → R (.tuple #[ptr H.next 0, I 0]) H') : HCalls Try.prog 27 [I n] H R := by
  refine HCalls.of_hw Try.func27 rfl _ Try.ntmps27 _ (by rw [Try.results27]) ?_
  rw [hframe0_eq _ _ (by simp)]
  simp only [List.zipIdx_cons, List.zipIdx_nil, List.map_cons, List.map_nil, Nat.reduceAdd]
  simp (disch := first | omega | (show allOne _ = true; simp [allOne, Value.oneCell']) | (simp only [List.length_cons, List.length_nil, List.length_set, List.length_map, List.length_replicate, List.length_append, List.length_take, List.length_drop, Int.toNat_natCast, Int.toNat_of_nonneg, nx_push, nx_set, nx_kill]; done) | (simp only [List.length_cons, List.length_nil, List.length_set, List.length_map, List.length_replicate, List.length_append, List.length_take, List.length_drop, Int.toNat_natCast, Int.toNat_of_nonneg, nx_push, nx_set, nx_kill]; omega)) only [go_sem, reduceCtorEq, Nat.reduceAdd, Nat.reduceSub, Nat.reduceMul, Nat.reduceLT, Nat.reduceLeDiff, Nat.reduceEqDiff, Nat.reduceBEq, Nat.reduceBNe, Int.reduceBEq, Int.reduceEq, Int.reduceLT, Int.reduceLE, Int.reduceAdd, Int.reduceSub, ↓reduceIte, Int.reduceToNat, Nat.reduceShiftRight, Nat.reduceAnd, hbox_agg]
  exact hR _ ⟨by simp (disch := first | omega | (simp only [nx_push, nx_set, nx_kill]; done) | (simp only [nx_push, nx_set, nx_kill]; omega)) only [get_push_ne, get_push_eq, get_set_ne, get_set_eq, get_kill_ne, nx_push, nx_set, nx_kill]; rfl, GrAt.nil _ _, rfl, by simp, by simp [rblks, sblk], by simp [TOk]⟩ (by simp (disch := first | omega | (simp only [nx_push, nx_set, nx_kill]; done) | (simp only [nx_push, nx_set, nx_kill]; omega)) only [get_push_ne, get_push_eq, get_set_ne, get_set_eq, get_kill_ne, nx_push, nx_set, nx_kill]) (fun b hb => by simp (disch := first | omega | (simp only [nx_push, nx_set, nx_kill]; done) | (simp only [nx_push, nx_set, nx_kill]; omega)) only [get_push_ne, get_push_eq, get_set_ne, get_set_eq, get_kill_ne, nx_push, nx_set, nx_kill])

theorem r02_Alloc (H : HHeap) (gr size : Nat) (T : Things) (tv : Value) (lvs : List Value) (hA : RefAt H gr size T tv lvs) (hsz : size ≤ 65536) (hu : usedOf T ≤ size) (k : Int) (s : Value) (l : List Nat) (n : Nat) (hn : n = l.length) (hl : ∀ x ∈ l, x < 18446744073709551616) (a : Option Addr) (c : Nat) (hs : s = .slice a n c)
    (hsrc : ∀ H' : HHeap, (∀ b, b < H.next → b ∉ rblks gr tv lvs → H'.get b = H.get b) → hsource H' 1 s = some (l.map U, n)) (R : Value → HHeap → Prop) 
    (h1 : ∀ H' tv' lv, (1 ≤ k ∧ k ≤ 9) → n ≤ 255 → usedOf T + n + 1 ≤ size → RefAt H' gr size (T ++ [⟨k.toNat, l⟩]) tv' (lvs ++ [lv]) → H.next ≤ H'.next → (∀ b, b < H.next → b ∉ rblks gr tv lvs → H'.get b = H.get b) →
      (∀ b ∈ rblks gr tv' (lvs ++ [lv]), b ∈ rblks gr tv lvs ∨ H.next ≤ b) → R (.tuple #[U (wordAt (usedOf T)), I 0]) H')
    (h2 : (1 ≤ k ∧ k ≤ 9) → n ≤ 255 → size < usedOf T + n + 1 → R (.tuple #[U 0, I 20]) H)
    (h3 : ¬ ((1 ≤ k ∧ k ≤ 9) ∧ n ≤ 255) → R (.tuple #[U 0, I 1]) H) : HCalls Try.prog 28 [ptr gr 0, I k, s] H R := by
  subst hs
  refine HCalls.ok fun hok => ?_
  refine HCalls.of_hw Try.func28 rfl _ Try.ntmps28 _ (by rw [Try.results28]) ?_
  rw [hframe0_eq _ _ (by simp)]
  simp only [List.zipIdx_cons, List.zipIdx_nil, List.map_cons, List.map_nil, Nat.reduceAdd]
  by_cases hk1 : 1 ≤ k
  · by_cases hk2 : k ≤ 9
    · by_cases hn2 : n ≤ 255
      · simp (disch := first | omega | (show allOne _ = true; simp [allOne, Value.oneCell']) | (simp only [List.length_cons, List.length_nil, List.length_set, List.length_map, List.length_replicate, List.length_append, List.length_take, List.length_drop, Int.toNat_natCast, Int.toNat_of_nonneg, nx_push, nx_set, nx_kill]; done) | (simp only [List.length_cons, List.length_nil, List.length_set, List.length_map, List.length_replicate, List.length_append, List.length_take, List.length_drop, Int.toNat_natCast, Int.toNat_of_nonneg, nx_push, nx_set, nx_kill]; omega)) only [go_sem, reduceCtorEq, Nat.reduceAdd, Nat.reduceSub, Nat.reduceMul, Nat.reduceLT, Nat.reduceLeDiff, Nat.reduceEqDiff, Nat.reduceBEq, Nat.reduceBNe, Int.reduceBEq, Int.reduceEq, Int.reduceLT, Int.reduceLE, Int.reduceAdd, Int.reduceSub, ↓reduceIte, Int.reduceToNat, Nat.reduceShiftRight, Nat.reduceAnd]
        refine Hwp.drawn mixed [0, 1, 3, 7, 0, 16, 48, 112, 255, 0, 512, 1536, 4095] (.op 0 (.op 1 (.op 2 (.op 3 (.op 4 (.op 5 (.op 6 (.op 7 (.op 8 (.op 9 (.op 10 (.op 11 (.op 12 .done))))))))))))) (by kernel_rfl) ?_
        have hs := hA.s
        by_cases hr : usedOf T + n + 1 ≤ size
        · simp (disch := first | omega | (show allOne _ = true; simp [allOne, Value.oneCell']) | (simp only [List.length_cons, List.length_nil, List.length_set, List.length_map, List.length_replicate, List.length_append, List.length_take, List.length_drop, Int.toNat_natCast, Int.toNat_of_nonneg, nx_push, nx_set, nx_kill]; done) | (simp only [List.length_cons, List.length_nil, List.length_set, List.length_map, List.length_replicate, List.length_append, List.length_take, List.length_drop, Int.toNat_natCast, Int.toNat_of_nonneg, nx_push, nx_set, nx_kill]; omega)) only [go_sem, reduceCtorEq, Nat.reduceAdd, Nat.reduceSub, Nat.reduceMul, Nat.reduceLT, Nat.reduceLeDiff, Nat.reduceEqDiff, Nat.reduceBEq, Nat.reduceBNe, Int.reduceBEq, Int.reduceEq, Int.reduceLT, Int.reduceLE, Int.reduceAdd, Int.reduceSub, ↓reduceIte, Int.reduceToNat, Nat.reduceShiftRight, Nat.reduceAnd, hs, ldc_cells]
          refine r01_Of _ (by omega) _ _ ?_
          simp (disch := first | omega | (show allOne _ = true; simp [allOne, Value.oneCell']) | (simp only [List.length_cons, List.length_nil, List.length_set, List.length_map, List.length_replicate, List.length_append, List.length_take, List.length_drop, Int.toNat_natCast, Int.toNat_of_nonneg, nx_push, nx_set, nx_kill]; done) | (simp only [List.length_cons, List.length_nil, List.length_set, List.length_map, List.length_replicate, List.length_append, List.length_take, List.length_drop, Int.toNat_natCast, Int.toNat_of_nonneg, nx_push, nx_set, nx_kill]; omega)) only [go_sem, reduceCtorEq, Nat.reduceAdd, Nat.reduceSub, Nat.reduceMul, Nat.reduceLT, Nat.reduceLeDiff, Nat.reduceEqDiff, Nat.reduceBEq, Nat.reduceBNe, Int.reduceBEq, Int.reduceEq, Int.reduceLT, Int.reduceLE, Int.reduceAdd, Int.reduceSub, ↓reduceIte, Int.reduceToNat, Nat.reduceShiftRight, Nat.reduceAnd, hs, ldc_cells]
          refine Hwp.drawn mixed [0, 0, 2, 6, 14, 0, 32, 96, 224, 0, 0, 0, 3072, 8160, 16352, 32766, 65535, 131071, 262143] (.op 0 (.op 1 (.op 2 (.op 3 (.op 4 (.op 5 (.op 6 (.op 7 (.op 8 (.op 9 (.op 11 (.eff 10 (.eff 12 (.op 13 (.eff 14 (.eff 15 (.op 16 (.op 17 (.eff 18 .done .stop))) .stop) .stop)) .stop) .stop)))))))))))) (by kernel_rfl) ?_
          have hlt := hA.lt hok
          have hgr := hlt gr (by simp [rblks])
          have htl := length_le_used T
          have hgrt : gr ∉ sblk tv := fun h => by have := hA.nd; unfold rblks at this; rw [List.nodup_cons] at this; exact this.1 (List.mem_append_left _ h)
          have hs1 := hsrc (H.push (.cells [] true)) (fun b hb _ => by simp (disch := first | omega | (simp only [nx_push, nx_set, nx_kill]; done) | (simp only [nx_push, nx_set, nx_kill]; omega)) only [get_push_ne, get_push_eq, get_set_ne, get_set_eq, get_kill_ne, nx_push, nx_set, nx_kill])
          have hek : k = (k.toNat : Int) := by omega
          have hroom : (Thing.mk k.toNat l).room = 1 + n := by rw [hn]; rfl
          have hthing : (Thing.mk k.toNat l).Ok := ⟨by simp only; omega, by simp only; omega, by simp only; omega, hl⟩
          have fin : ∀ (H2 H3 : HHeap) (lv tv' : Value), LAt H2 lv l → H.next ≤ H2.next → (∀ b, b < H.next → H2.get b = H.get b) → (∀ b ∈ sblk lv, H.next ≤ b ∧ b < H2.next) → 
              GrAt H3 tv' 3 (T.length + 1) (rcells 0 T lvs ++ [I (usedOf T), I k, lv]) → (∀ b ∈ sblk tv', b = H2.next) → H3.next = H2.next + 1 → (∀ b, b ≠ H2.next → b ∉ sblk tv → H3.get b = H2.get b) →
              R (.tuple #[U (wordAt (usedOf T)), I 0]) (H3.set gr (.cells [I size, I ((usedOf T : Int) + n + 1), tv'] true)) := by
            intro H2 H3 lv tv' f1 f2 f3 f4 f5 f6 f7 f8
            have hnd := hA.nd
            unfold rblks at hnd
            rw [List.nodup_cons, List.mem_append, List.nodup_append] at hnd
            obtain ⟨nd1, nd2, nd3, nd4⟩ := hnd
            have hngr : gr ∉ sblk tv := fun h => nd1 (.inl h)
            have hlv : ∀ lv' ∈ lvs, ∀ b ∈ sblk lv', b < H.next ∧ b ≠ gr ∧ b ∉ sblk tv := fun lv' h1 b h2 => by
              have hm : b ∈ lvs.flatMap sblk := List.mem_flatMap.2 ⟨lv', h1, h2⟩
              refine ⟨hlt b (by simp only [rblks, List.mem_cons, List.mem_append]; exact .inr (.inr hm)), fun e => nd1 (.inr (e ▸ hm)), fun h => nd4 b h b hm rfl⟩
            have htv : ∀ b ∈ sblk tv, b < H.next := fun b hb => hlt b (by simp [rblks, hb])
            refine h1 _ tv' lv ⟨hk1, hk2⟩ hn2 hr ⟨?_, ?_, by simp [hA.len], ?_, ?_, ?_⟩ ?_ ?_ ?_
            · simp (disch := first | omega | (simp only [nx_push, nx_set, nx_kill]; done) | (simp only [nx_push, nx_set, nx_kill]; omega)) only [get_push_ne, get_push_eq, get_set_ne, get_set_eq, get_kill_ne, nx_push, nx_set, nx_kill]
              rw [usedOf_append]
              simp only [usedOf, hroom]
              rw [show ((usedOf T : Int) + n + 1) = ((usedOf T + (1 + n + 0) : Nat) : Int) by omega]
            · have : (T ++ [(⟨k.toNat, l⟩ : Thing)]).length = T.length + 1 := by simp
              rw [this, rcells_append _ _ _ _ _ hA.len, Nat.zero_add]
              simp only
              rw [← hek]
              exact f5.frame fun b hb => by have := f6 b hb; simp (disch := first | omega | (simp only [nx_push, nx_set, nx_kill]; done) | (simp only [nx_push, nx_set, nx_kill]; omega)) only [get_push_ne, get_push_eq, get_set_ne, get_set_eq, get_kill_ne, nx_push, nx_set, nx_kill]
            · intro i t lv' e e'
              rcases Nat.lt_or_ge i T.length with hi | hi
              · rw [List.getElem?_append_left hi] at e
                rw [List.getElem?_append_left (by rw [hA.len]; exact hi)] at e'
                refine (hA.l i t lv' e e').frame (by simp (disch := first | omega | (simp only [nx_push, nx_set, nx_kill]; done) | (simp only [nx_push, nx_set, nx_kill]; omega)) only [get_push_ne, get_push_eq, get_set_ne, get_set_eq, get_kill_ne, nx_push, nx_set, nx_kill]; omega) fun b hb => ?_
                obtain ⟨x1, x2, x3⟩ := hlv lv' (List.mem_of_getElem? e') b hb
                simp (disch := first | omega | (simp only [nx_push, nx_set, nx_kill]; done) | (simp only [nx_push, nx_set, nx_kill]; omega)) only [get_push_ne, get_push_eq, get_set_ne, get_set_eq, get_kill_ne, nx_push, nx_set, nx_kill]
                rw [f8 b (by omega) x3, f3 b x1]
              · have : i = T.length := by
                  have := (List.getElem?_eq_some_iff.1 e).1; simp at this; omega
                subst this
                simp at e
                subst e
                have e2 : (lvs ++ [lv])[T.length]? = some lv := by rw [← hA.len]; simp
                rw [e2] at e'; cases e'
                refine f1.frame (by simp (disch := first | omega | (simp only [nx_push, nx_set, nx_kill]; done) | (simp only [nx_push, nx_set, nx_kill]; omega)) only [get_push_ne, get_push_eq, get_set_ne, get_set_eq, get_kill_ne, nx_push, nx_set, nx_kill]; omega) fun b hb => ?_
                obtain ⟨x1, x2⟩ := f4 b hb
                simp (disch := first | omega | (simp only [nx_push, nx_set, nx_kill]; done) | (simp only [nx_push, nx_set, nx_kill]; omega)) only [get_push_ne, get_push_eq, get_set_ne, get_set_eq, get_kill_ne, nx_push, nx_set, nx_kill]
                exact f8 b (by omega) (fun h => by have := htv b h; omega)
            · unfold rblks
              rw [List.nodup_cons, List.mem_append, List.nodup_append, List.flatMap_append, List.mem_append, List.nodup_append]
              simp only [List.flatMap_cons, List.flatMap_nil, List.append_nil]
              have hs1 : ∀ v : Value, (sblk v).Nodup := fun v => by unfold sblk; split <;> simp
              refine ⟨?_, hs1 _, ⟨nd3, hs1 _, ?_⟩, ?_⟩
              · rintro (h | h | h)
                · have := f6 _ h; omega
                · exact nd1 (.inr h)
                · have := f4 _ h; omega
              · intro a ha b hb
                obtain ⟨lv', y1, y2⟩ := List.mem_flatMap.1 ha
                have := (hlv lv' y1 a y2).1
                have := f4 b hb
                omega
              · intro a ha b hb
                have := f6 a ha
                rcases List.mem_append.1 hb with hb | hb
                · obtain ⟨lv', y1, y2⟩ := List.mem_flatMap.1 hb
                  have := (hlv lv' y1 b y2).1
                  omega
                · have := f4 b hb
                  omega
            · intro t ht
              rcases List.mem_append.1 ht with h | h
              · exact hA.ok t h
              · rw [List.mem_singleton.1 h]; exact hthing
            · simp (disch := first | omega | (simp only [nx_push, nx_set, nx_kill]; done) | (simp only [nx_push, nx_set, nx_kill]; omega)) only [get_push_ne, get_push_eq, get_set_ne, get_set_eq, get_kill_ne, nx_push, nx_set, nx_kill]; omega
            · intro b hb hb2
              simp only [rblks, List.mem_cons, List.mem_append, not_or] at hb2
              simp (disch := first | omega | (simp only [nx_push, nx_set, nx_kill]; done) | (simp only [nx_push, nx_set, nx_kill]; omega)) only [get_push_ne, get_push_eq, get_set_ne, get_set_eq, get_kill_ne, nx_push, nx_set, nx_kill]
              rw [f8 b (by omega) hb2.2.1, f3 b hb]
            · intro b hb
              simp only [rblks, List.mem_cons, List.mem_append, List.flatMap_append, List.flatMap_cons, List.flatMap_nil, List.append_nil] at hb ⊢
              rcases hb with rfl | hb | hb | hb
              · exact .inl (.inl rfl)
              · have := f6 b hb; exact .inr (by omega)
              · exact .inl (.inr (.inr hb))
              · have := f4 b hb; exact .inr (by omega)
          by_cases h0 : n = 0
          · subst h0
            have hl0 : l = [] := by cases l with | nil => rfl | cons x l => simp at hn
            subst hl0
            have hgt : GrAt ((H.push (.cells [] true)).push (.cells [I (usedOf T), I k, .slice (some ⟨H.next, 0, none⟩) 0 0] true)) tv 3 T.length (rcells 0 T lvs) := hA.t.frame fun b hb => by have := hlt b (by simp [rblks, hb]); simp (disch := first | omega | (simp only [nx_push, nx_set, nx_kill]; done) | (simp only [nx_push, nx_set, nx_kill]; omega)) only [get_push_ne, get_push_eq, get_set_ne, get_set_eq, get_kill_ne, nx_push, nx_set, nx_kill]
            obtain ⟨H3, q1, q2, q3, q4, q5⟩ := hgt.append (xs := [I (usedOf T), I k, .slice (some ⟨H.next, 0, none⟩) 0 0]) (by' := 40) (m := 1) (by omega) (by simp) (by omega) (by omega) (by omega)
            have hs3 : H3.get gr = some (.cells [I size, I (usedOf T), tv] true) := by
              rw [q5 gr (by simp (disch := first | omega | (simp only [nx_push, nx_set, nx_kill]; done) | (simp only [nx_push, nx_set, nx_kill]; omega)) only [get_push_ne, get_push_eq, get_set_ne, get_set_eq, get_kill_ne, nx_push, nx_set, nx_kill]; omega) hgrt]; simp (disch := first | omega | (simp only [nx_push, nx_set, nx_kill]; done) | (simp only [nx_push, nx_set, nx_kill]; omega)) only [get_push_ne, get_push_eq, get_set_ne, get_set_eq, get_kill_ne, nx_push, nx_set, nx_kill]; exact hs
            simp (disch := first | omega | (show allOne _ = true; simp [allOne, Value.oneCell']) | (simp only [List.length_cons, List.length_nil, List.length_set, List.length_map, List.length_replicate, List.length_append, List.length_take, List.length_drop, Int.toNat_natCast, Int.toNat_of_nonneg, nx_push, nx_set, nx_kill]; done) | (simp only [List.length_cons, List.length_nil, List.length_set, List.length_map, List.length_replicate, List.length_append, List.length_take, List.length_drop, Int.toNat_natCast, Int.toNat_of_nonneg, nx_push, nx_set, nx_kill]; omega)) only [go_sem, reduceCtorEq, Nat.reduceAdd, Nat.reduceSub, Nat.reduceMul, Nat.reduceLT, Nat.reduceLeDiff, Nat.reduceEqDiff, Nat.reduceBEq, Nat.reduceBNe, Int.reduceBEq, Int.reduceEq, Int.reduceLT, Int.reduceLE, Int.reduceAdd, Int.reduceSub, ↓reduceIte, Int.reduceToNat, Nat.reduceShiftRight, Nat.reduceAnd, hs, ldc_cells, hs1, apd_zero, hsource_slice, hsrc_cells, List.drop_zero, List.take_succ_cons, List.take_zero, q1, hs3, stc_cells]
            rw [set_set]
            exact fin ((H.push (.cells [] true)).push (.cells [I (usedOf T), I k, .slice (some ⟨H.next, 0, none⟩) 0 0] true)) H3 (.slice (some ⟨H.next, 0, none⟩) 0 0) _ (.inl ⟨rfl, H.next, by simp (disch := first | omega | (simp only [nx_push, nx_set, nx_kill]; done) | (simp only [nx_push, nx_set, nx_kill]; omega)) only [get_push_ne, get_push_eq, get_set_ne, get_set_eq, get_kill_ne, nx_push, nx_set, nx_kill]; omega, rfl⟩) (by simp (disch := first | omega | (simp only [nx_push, nx_set, nx_kill]; done) | (simp only [nx_push, nx_set, nx_kill]; omega)) only [get_push_ne, get_push_eq, get_set_ne, get_set_eq, get_kill_ne, nx_push, nx_set, nx_kill]; omega) (fun b hb => by simp (disch := first | omega | (simp only [nx_push, nx_set, nx_kill]; done) | (simp only [nx_push, nx_set, nx_kill]; omega)) only [get_push_ne, get_push_eq, get_set_ne, get_set_eq, get_kill_ne, nx_push, nx_set, nx_kill])
              (fun b hb => by simp [sblk] at hb; subst hb; exact ⟨Nat.le_refl _, by simp (disch := first | omega | (simp only [nx_push, nx_set, nx_kill]; done) | (simp only [nx_push, nx_set, nx_kill]; omega)) only [get_push_ne, get_push_eq, get_set_ne, get_set_eq, get_kill_ne, nx_push, nx_set, nx_kill]; omega⟩) q3 (fun b hb => by simpa [sblk] using hb) q4 q5
          · have hgt : GrAt (((H.push (.cells [] true)).push (.cells (l.map U) true)).push (.cells [I (usedOf T), I k, .slice (some ⟨H.next + 1, 0, some 2⟩) n n] true)) tv 3 T.length (rcells 0 T lvs) := hA.t.frame fun b hb => by have := hlt b (by simp [rblks, hb]); simp (disch := first | omega | (simp only [nx_push, nx_set, nx_kill]; done) | (simp only [nx_push, nx_set, nx_kill]; omega)) only [get_push_ne, get_push_eq, get_set_ne, get_set_eq, get_kill_ne, nx_push, nx_set, nx_kill]
            obtain ⟨H3, q1, q2, q3, q4, q5⟩ := hgt.append (xs := [I (usedOf T), I k, .slice (some ⟨H.next + 1, 0, some 2⟩) n n]) (by' := 40) (m := 1) (by omega) (by simp) (by omega) (by omega) (by omega)
            have hs3 : H3.get gr = some (.cells [I size, I (usedOf T), tv] true) := by
              rw [q5 gr (by simp (disch := first | omega | (simp only [nx_push, nx_set, nx_kill]; done) | (simp only [nx_push, nx_set, nx_kill]; omega)) only [get_push_ne, get_push_eq, get_set_ne, get_set_eq, get_kill_ne, nx_push, nx_set, nx_kill]; omega) hgrt]; simp (disch := first | omega | (simp only [nx_push, nx_set, nx_kill]; done) | (simp only [nx_push, nx_set, nx_kill]; omega)) only [get_push_ne, get_push_eq, get_set_ne, get_set_eq, get_kill_ne, nx_push, nx_set, nx_kill]; exact hs
            simp (disch := first | omega | (show allOne _ = true; simp [allOne, Value.oneCell']) | (simp only [List.length_cons, List.length_nil, List.length_set, List.length_map, List.length_replicate, List.length_append, List.length_take, List.length_drop, Int.toNat_natCast, Int.toNat_of_nonneg, nx_push, nx_set, nx_kill]; done) | (simp only [List.length_cons, List.length_nil, List.length_set, List.length_map, List.length_replicate, List.length_append, List.length_take, List.length_drop, Int.toNat_natCast, Int.toNat_of_nonneg, nx_push, nx_set, nx_kill]; omega)) only [go_sem, reduceCtorEq, Nat.reduceAdd, Nat.reduceSub, Nat.reduceMul, Nat.reduceLT, Nat.reduceLeDiff, Nat.reduceEqDiff, Nat.reduceBEq, Nat.reduceBNe, Int.reduceBEq, Int.reduceEq, Int.reduceLT, Int.reduceLE, Int.reduceAdd, Int.reduceSub, ↓reduceIte, Int.reduceToNat, Nat.reduceShiftRight, Nat.reduceAnd, hs, ldc_cells, hs1, apd_some, apo_fresh, hsource_slice, hsrc_cells, List.drop_zero, List.take_succ_cons, List.take_zero, q1, hs3, stc_cells]
            rw [set_set]
            exact fin (((H.push (.cells [] true)).push (.cells (l.map U) true)).push (.cells [I (usedOf T), I k, .slice (some ⟨H.next + 1, 0, some 2⟩) n n] true)) H3 (.slice (some ⟨H.next + 1, 0, some 2⟩) n n) _
              (.inr ⟨H.next + 1, by intro e; rw [e] at hn; exact h0 hn, by rw [hn], by simp (disch := first | omega | (simp only [nx_push, nx_set, nx_kill]; done) | (simp only [nx_push, nx_set, nx_kill]; omega)) only [get_push_ne, get_push_eq, get_set_ne, get_set_eq, get_kill_ne, nx_push, nx_set, nx_kill]⟩) (by simp (disch := first | omega | (simp only [nx_push, nx_set, nx_kill]; done) | (simp only [nx_push, nx_set, nx_kill]; omega)) only [get_push_ne, get_push_eq, get_set_ne, get_set_eq, get_kill_ne, nx_push, nx_set, nx_kill]; omega) (fun b hb => by simp (disch := first | omega | (simp only [nx_push, nx_set, nx_kill]; done) | (simp only [nx_push, nx_set, nx_kill]; omega)) only [get_push_ne, get_push_eq, get_set_ne, get_set_eq, get_kill_ne, nx_push, nx_set, nx_kill])
              (fun b hb => by simp [sblk] at hb; subst hb; exact ⟨by omega, by simp (disch := first | omega | (simp only [nx_push, nx_set, nx_kill]; done) | (simp only [nx_push, nx_set, nx_kill]; omega)) only [get_push_ne, get_push_eq, get_set_ne, get_set_eq, get_kill_ne, nx_push, nx_set, nx_kill]; omega⟩) q3 (fun b hb => by simpa [sblk] using hb) q4 q5
        · simp (disch := first | omega | (show allOne _ = true; simp [allOne, Value.oneCell']) | (simp only [List.length_cons, List.length_nil, List.length_set, List.length_map, List.length_replicate, List.length_append, List.length_take, List.length_drop, Int.toNat_natCast, Int.toNat_of_nonneg, nx_push, nx_set, nx_kill]; done) | (simp only [List.length_cons, List.length_nil, List.length_set, List.length_map, List.length_replicate, List.length_append, List.length_take, List.length_drop, Int.toNat_natCast, Int.toNat_of_nonneg, nx_push, nx_set, nx_kill]; omega)) only [go_sem, reduceCtorEq, Nat.reduceAdd, Nat.reduceSub, Nat.reduceMul, Nat.reduceLT, Nat.reduceLeDiff, Nat.reduceEqDiff, Nat.reduceBEq, Nat.reduceBNe, Int.reduceBEq, Int.reduceEq, Int.reduceLT, Int.reduceLE, Int.reduceAdd, Int.reduceSub, ↓reduceIte, Int.reduceToNat, Nat.reduceShiftRight, Nat.reduceAnd, hs, ldc_cells]
          exact h2 ⟨hk1, hk2⟩ hn2 (by omega)
      · simp (disch := first | omega | (show allOne _ = true; simp [allOne, Value.oneCell']) | (simp only [List.length_cons, List.length_nil, List.length_set, List.length_map, List.length_replicate, List.length_append, List.length_take, List.length_drop, Int.toNat_natCast, Int.toNat_of_nonneg, nx_push, nx_set, nx_kill]; done) | (simp only [List.length_cons, List.length_nil, List.length_set, List.length_map, List.length_replicate, List.length_append, List.length_take, List.length_drop, Int.toNat_natCast, Int.toNat_of_nonneg, nx_push, nx_set, nx_kill]; omega)) only [go_sem, reduceCtorEq, Nat.reduceAdd, Nat.reduceSub, Nat.reduceMul, Nat.reduceLT, Nat.reduceLeDiff, Nat.reduceEqDiff, Nat.reduceBEq, Nat.reduceBNe, Int.reduceBEq, Int.reduceEq, Int.reduceLT, Int.reduceLE, Int.reduceAdd, Int.reduceSub, ↓reduceIte, Int.reduceToNat, Nat.reduceShiftRight, Nat.reduceAnd]
        exact h3 (by omega)
    · simp (disch := first | omega | (show allOne _ = true; simp [allOne, Value.oneCell']) | (simp only [List.length_cons, List.length_nil, List.length_set, List.length_map, List.length_replicate, List.length_append, List.length_take, List.length_drop, Int.toNat_natCast, Int.toNat_of_nonneg, nx_push, nx_set, nx_kill]; done) | (simp only [List.length_cons, List.length_nil, List.length_set, List.length_map, List.length_replicate, List.length_append, List.length_take, List.length_drop, Int.toNat_natCast, Int.toNat_of_nonneg, nx_push, nx_set, nx_kill]; omega)) only [go_sem, reduceCtorEq, Nat.reduceAdd, Nat.reduceSub, Nat.reduceMul, Nat.reduceLT, Nat.reduceLeDiff, Nat.reduceEqDiff, Nat.reduceBEq, Nat.reduceBNe, Int.reduceBEq, Int.reduceEq, Int.reduceLT, Int.reduceLE, Int.reduceAdd, Int.reduceSub, ↓reduceIte, Int.reduceToNat, Nat.reduceShiftRight, Nat.reduceAnd]
      exact h3 (by omega)
  · simp (disch := first | omega | (show allOne _ = true; simp [allOne, Value.oneCell']) | (simp only [List.length_cons, List.length_nil, List.length_set, List.length_map, List.length_replicate, List.length_append, List.length_take, List.length_drop, Int.toNat_natCast, Int.toNat_of_nonneg, nx_push, nx_set, nx_kill]; done) | (simp only [List.length_cons, List.length_nil, List.length_set, List.length_map, List.length_replicate, List.length_append, List.length_take, List.length_drop, Int.toNat_natCast, Int.toNat_of_nonneg, nx_push, nx_set, nx_kill]; omega)) only [go_sem, reduceCtorEq, Nat.reduceAdd, Nat.reduceSub, Nat.reduceMul, Nat.reduceLT, Nat.reduceLeDiff, Nat.reduceEqDiff, Nat.reduceBEq, Nat.reduceBNe, Int.reduceBEq, Int.reduceEq, Int.reduceLT, Int.reduceLE, Int.reduceAdd, Int.reduceSub, ↓reduceIte, Int.reduceToNat, Nat.reduceShiftRight, Nat.reduceAnd]
    exact h3 (by omega)
end Go.HL
