/-
  Joined: D2, A10, D3, A11, G3, A12, D8.
-/
import Derived.Test.YtkflilieljojfaaL5
/-
  Walks: what a law's arenas are built of.
-/
namespace Go.HL
open Go.RowKit Go.Proofs
set_option maxHeartbeats 4000000
set_option maxRecDepth 100000
set_option linter.unusedSimpArgs false
set_option linter.unusedVariables false

theorem co23 : Try.prog.cellsOf 23 = 1 := by kernel_rfl
theorem co42 : Try.prog.cellsOf 42 = 1 := by kernel_rfl
theorem co61 : Try.prog.cellsOf 61 = 2 := by kernel_rfl
theorem co25 : Try.prog.cellsOf 25 = 3 := by kernel_rfl
theorem co3 : Try.prog.cellsOf 3 = 1 := by kernel_rfl
theorem co22 : Try.prog.cellsOf 22 = 1 := by kernel_rfl

/-- The things that came, and words. -/
structure HeapArg (H : HHeap) (v : Value) (roots : List Nat) : Prop where
  eq : ∃ (size : Int) (tv rv : Value) (n : Nat) (cells : List Value), v = .agg #[I size, tv, rv] ∧ (-9223372036854775808 ≤ size ∧ size ≤ 9223372036854775807) ∧ SlArg H tv 2 n cells ∧ SlArg H rv 1 roots.length (roots.map U) ∧
    ∀ i, i < n → ∃ (k : Int) (lv : Value) (l : List Nat), cells[2 * i]? = some (I k) ∧ cells[2 * i + 1]? = some lv ∧ SlArg H lv 1 l.length (l.map U) ∧ ∀ x ∈ l, x < 18446744073709551616
  lt : ∀ x ∈ roots, x < 18446744073709551616

theorem heapArg {H : HHeap} {v : Value} (h : harg1 Try.prog H 25 v) : ∃ roots, HeapArg H v roots := by
  obtain ⟨n, hs, h1, h2⟩ := h
  rw [Try.underlying25] at h2
  simp only at h2
  obtain ⟨hl, m, hf⟩ := harg_struct Try.underlying25 h1
  rw [co25] at hl
  simp only [List.toList_toArray, List.forall_mem_cons, co3, co22, co23] at hf
  obtain ⟨f0, f1, f2, _⟩ := hf
  obtain ⟨a, b, c, rfl⟩ : ∃ a b c, hs = [a, b, c] := by
    match hs, hl with
    | [a, b, c], _ => exact ⟨a, b, c, rfl⟩
  simp only [List.drop_zero, List.drop_succ_cons, List.take_succ_cons, List.take_zero] at f0 f1 f2
  obtain ⟨z, hz, hzw⟩ := harg_int Try.underlying3 f0
  cases hz
  obtain ⟨tv, k, cells, m1, ht, hts, hte⟩ := harg_slice Try.underlying22 f1
  cases ht
  rw [co61] at hts hte
  obtain ⟨rv, roots, hr, hrs, hrl⟩ := harg_words Try.underlying23 Try.underlying42 co42 f2
  cases hr
  refine ⟨roots, ⟨z, _, _, k, cells, h2, bounds_i64 hzw, hts, hrs, fun i hi => ?_⟩, hrl⟩
  obtain ⟨hl1, m2, hf1⟩ := harg_struct Try.underlying61 (hte i hi)
  rw [co61] at hl1
  simp only [List.toList_toArray, List.forall_mem_cons, co3, co23] at hf1
  obtain ⟨g0, g1, _⟩ := hf1
  have e2 : ∀ j, j < 2 → ((cells.drop (i * 2)).take 2)[j]? = cells[2 * i + j]? := fun j hj => by
    rw [List.getElem?_take, if_pos hj, List.getElem?_drop, Nat.mul_comm]
  generalize (cells.drop (i * 2)).take 2 = w at hl1 g0 g1 e2
  obtain ⟨x, y, rfl⟩ : ∃ x y, w = [x, y] := by
    match w, hl1 with
    | [x, y], _ => exact ⟨x, y, rfl⟩
  simp only [List.drop_zero, List.drop_succ_cons, List.take_succ_cons, List.take_zero] at g0 g1
  obtain ⟨z1, hz1, _⟩ := harg_int Try.underlying3 g0
  cases hz1
  obtain ⟨lv, l, hl2, hls, hll⟩ := harg_words Try.underlying23 Try.underlying42 co42 g1
  cases hl2
  exact ⟨z1, _, l, (e2 0 (by omega)).symm, (e2 1 (by omega)).symm, hls, hll⟩

theorem AtA.lt {H : HHeap} {g gw gh size : Nat} {T : Things} (h : AtA H g gw gh size T) (ok : H.Ok) : g < H.next ∧ gw < H.next ∧ gh < H.next := ⟨ok _ _ h.a, ok _ _ h.w, ok _ _ h.h⟩
/-- What comes of making a thing: the things then, and what is told. -/
def allocT (size : Nat) (T : Things) (k : Int) (l : List Nat) : Things := if (1 ≤ k ∧ k ≤ 9) ∧ l.length ≤ 255 ∧ usedOf T + l.length + 1 ≤ size then T ++ [⟨k.toNat, l⟩] else T
def allocV (size : Nat) (T : Things) (k : Int) (l : List Nat) : Value := if (1 ≤ k ∧ k ≤ 9) ∧ l.length ≤ 255 then (if usedOf T + l.length + 1 ≤ size then .tuple #[U (wordAt (usedOf T)), I 0] else .tuple #[U 0, I 20]) else .tuple #[U 0, I 1]
theorem arena_AllocV (H : HHeap) (g gw gh size : Nat) (T : Things) (hA : AtA H g gw gh size T) (k : Int) (l : List Nat) (n : Nat) (hn : n = l.length) (hl : ∀ x ∈ l, x < 18446744073709551616) (a : Option Addr) (c : Nat) (hsrc : ∀ H' : HHeap, (∀ b, b ≠ g → b ≠ gw → b ≠ gh → H'.get b = H.get b) → hsource H' 1 (.slice a n c) = some (l.map U, n)) (R : Value → HHeap → Prop)
    (hR : ∀ H', AtA H' g gw gh size (allocT size T k l) → (∀ b, b ≠ g → b ≠ gw → b ≠ gh → H'.get b = H.get b) → H'.next = H.next → R (allocV size T k l) H') : HCalls Try.prog 25 [ptr g 0, I k, .slice a n c] H R := by
  have n1 := hA.ne1
  have n2 := hA.ne2
  have n3 := hA.ne3
  unfold allocT allocV at hR
  refine arena_Alloc _ _ _ _ _ _ hA k _ l n hn hl a c rfl hsrc R ?_ ?_ ?_
  · intro h1 h2 h3
    have := hR (putT H g gw gh size (T ++ [⟨k.toNat, l⟩]))
    rw [if_pos ⟨h1, by omega, by omega⟩, if_pos ⟨h1, by omega⟩, if_pos (by omega)] at this
    refine this ⟨by unfold putT; simp (disch := first | omega | (simp only [nx_push, nx_set, nx_kill]; done) | (simp only [nx_push, nx_set, nx_kill]; omega)) only [get_push_ne, get_push_eq, get_set_ne, get_set_eq, get_kill_ne, nx_push, nx_set, nx_kill], by unfold putT; simp (disch := first | omega | (simp only [nx_push, nx_set, nx_kill]; done) | (simp only [nx_push, nx_set, nx_kill]; omega)) only [get_push_ne, get_push_eq, get_set_ne, get_set_eq, get_kill_ne, nx_push, nx_set, nx_kill], by unfold putT; simp (disch := first | omega | (simp only [nx_push, nx_set, nx_kill]; done) | (simp only [nx_push, nx_set, nx_kill]; omega)) only [get_push_ne, get_push_eq, get_set_ne, get_set_eq, get_kill_ne, nx_push, nx_set, nx_kill], ?_, hA.big, hA.pos, ?_, n1, n2, n3⟩ ?_ ?_
    · rw [usedOf_append]; simp [usedOf, Thing.room]; omega
    · intro u hu
      rcases List.mem_append.1 hu with hu | hu
      · exact hA.ok u hu
      · rw [List.mem_singleton.1 hu]; exact ⟨by simp only; omega, by simp only; omega, by simp only; omega, hl⟩
    · intro b b1 b2 b3; unfold putT; simp (disch := first | omega | (simp only [nx_push, nx_set, nx_kill]; done) | (simp only [nx_push, nx_set, nx_kill]; omega)) only [get_push_ne, get_push_eq, get_set_ne, get_set_eq, get_kill_ne, nx_push, nx_set, nx_kill]
    · unfold putT; simp (disch := first | omega | (simp only [nx_push, nx_set, nx_kill]; done) | (simp only [nx_push, nx_set, nx_kill]; omega)) only [get_push_ne, get_push_eq, get_set_ne, get_set_eq, get_kill_ne, nx_push, nx_set, nx_kill]
  · intro h1 h2 h3
    have := hR H
    rw [if_neg (by omega), if_pos ⟨h1, by omega⟩, if_neg (by omega)] at this
    exact this hA (fun _ _ _ _ => rfl) rfl
  · intro h1
    have := hR H
    rw [if_neg (by omega), if_neg (by omega)] at this
    exact this hA (fun _ _ _ _ => rfl) rfl
theorem r02_AllocV (H : HHeap) (gr size : Nat) (T : Things) (tv : Value) (lvs : List Value) (hA : RefAt H gr size T tv lvs) (hsz : size ≤ 65536) (hu : usedOf T ≤ size) (k : Int) (l : List Nat) (n : Nat) (hn : n = l.length) (hl : ∀ x ∈ l, x < 18446744073709551616) (a : Option Addr) (c : Nat)
    (hsrc : ∀ H' : HHeap, (∀ b, b < H.next → b ∉ rblks gr tv lvs → H'.get b = H.get b) → hsource H' 1 (.slice a n c) = some (l.map U, n)) (R : Value → HHeap → Prop)
    (hR : ∀ H' tv' lvs', RefAt H' gr size (allocT size T k l) tv' lvs' → H.next ≤ H'.next → (∀ b, b < H.next → b ∉ rblks gr tv lvs → H'.get b = H.get b) →
      (∀ b ∈ rblks gr tv' lvs', b ∈ rblks gr tv lvs ∨ H.next ≤ b) → R (allocV size T k l) H') : HCalls Try.prog 28 [ptr gr 0, I k, .slice a n c] H R := by
  unfold allocT allocV at hR
  refine r02_Alloc _ _ _ _ _ _ hA hsz hu k _ l n hn hl a c rfl hsrc R ?_ ?_ ?_
  · intro H' tv' lv h1 h2 h3 h4 h5 h6 h7
    have := hR H' tv' (lvs ++ [lv])
    rw [if_pos ⟨h1, by omega, by omega⟩, if_pos ⟨h1, by omega⟩, if_pos (by omega)] at this
    exact this h4 h5 h6 h7
  · intro h1 h2 h3
    have := hR H tv lvs
    rw [if_neg (by omega), if_pos ⟨h1, by omega⟩, if_neg (by omega)] at this
    exact this hA (Nat.le_refl _) (fun _ _ _ => rfl) (fun b hb => .inl hb)
  · intro h1
    have := hR H tv lvs
    rw [if_neg (by omega), if_neg (by omega)] at this
    exact this hA (Nat.le_refl _) (fun _ _ _ => rfl) (fun b hb => .inl hb)

theorem law_build (H : HHeap) (v : Value) (roots : List Nat) (hv : HeapArg H v roots) (R : Value → HHeap → Prop)
    (hR : ∀ H' n g gw gh gr T tv lvs rv, 1 ≤ n → n ≤ 1025 → AtA H' g gw gh n T → RefAt H' gr n T tv lvs → RowS H' rv ((roots.take 20).map U) → (∀ b, b < H.next → H'.get b = H.get b) → H.next ≤ H'.next →
      (H.next ≤ g ∧ H.next ≤ gw ∧ H.next ≤ gh) → (∀ b ∈ rblks gr tv lvs, H.next ≤ b ∧ b ≠ g ∧ b ≠ gw ∧ b ≠ gh) → R (.tuple #[ptr g 0, ptr gr 0, rv]) H') : HCalls Try.prog 11 [v] H R := by
  refine HCalls.ok fun hok => ?_
  obtain ⟨⟨size, tv0, rv, k, cells, rfl, ⟨z1, z2⟩, hts, hrs, hel⟩, hrl⟩ := hv
  have hsz : ∃ n : Nat, 1 + (size / 1048576 % 2 * 1048576) / 1048576 + size % 1024 = (n : Int) ∧ 1 ≤ n ∧ n ≤ 1025 := ⟨(1 + (size / 1048576 % 2 * 1048576) / 1048576 + size % 1024).toNat, by omega, by omega, by omega⟩
  obtain ⟨n, hn, hn1, hn2⟩ := hsz
  refine HCalls.of_hw Try.func11 rfl _ Try.ntmps11 _ (by rw [Try.results11]) ?_
  rw [hframe0_eq _ _ (by simp)]
  simp only [List.zipIdx_cons, List.zipIdx_nil, List.map_cons, List.map_nil, Nat.reduceAdd]
  have hml : maxLen = 9223372036854775807 := by decide
  have hts' := hts
  obtain ⟨ts1, ts2, ta, tc, rfl, ts4, ts5⟩ := hts'
  have hrs' := hrs
  obtain ⟨rs1, rs2, ra, rc, rfl, rs4, rs5⟩ := hrs'
  simp (disch := first | omega | (show allOne _ = true; simp [allOne, Value.oneCell']) | (simp only [List.length_cons, List.length_nil, List.length_set, List.length_map, List.length_replicate, List.length_append, List.length_take, List.length_drop, Int.toNat_natCast, Int.toNat_of_nonneg, nx_push, nx_set, nx_kill]; done) | (simp only [List.length_cons, List.length_nil, List.length_set, List.length_map, List.length_replicate, List.length_append, List.length_take, List.length_drop, Int.toNat_natCast, Int.toNat_of_nonneg, nx_push, nx_set, nx_kill]; omega)) only [go_sem, reduceCtorEq, Nat.reduceAdd, Nat.reduceSub, Nat.reduceMul, Nat.reduceLT, Nat.reduceLeDiff, Nat.reduceEqDiff, Nat.reduceBEq, Nat.reduceBNe, Int.reduceBEq, Int.reduceEq, Int.reduceLT, Int.reduceLE, Int.reduceAdd, Int.reduceSub, ↓reduceIte, Int.reduceToNat, Nat.reduceShiftRight, Nat.reduceAnd, hbox_agg, ldc_cells, hn]
  refine arena_New n hn1 (by omega) _ _ ?_
  intro H1 g gw gh b1 b2 b3 b4 b5 b6 b7 hA1
  rw [nx_push] at b1 b2 b3 b7
  simp (disch := first | omega | (show allOne _ = true; simp [allOne, Value.oneCell']) | (simp only [List.length_cons, List.length_nil, List.length_set, List.length_map, List.length_replicate, List.length_append, List.length_take, List.length_drop, Int.toNat_natCast, Int.toNat_of_nonneg, nx_push, nx_set, nx_kill]; done) | (simp only [List.length_cons, List.length_nil, List.length_set, List.length_map, List.length_replicate, List.length_append, List.length_take, List.length_drop, Int.toNat_natCast, Int.toNat_of_nonneg, nx_push, nx_set, nx_kill]; omega)) only [go_sem, reduceCtorEq, Nat.reduceAdd, Nat.reduceSub, Nat.reduceMul, Nat.reduceLT, Nat.reduceLeDiff, Nat.reduceEqDiff, Nat.reduceBEq, Nat.reduceBNe, Int.reduceBEq, Int.reduceEq, Int.reduceLT, Int.reduceLE, Int.reduceAdd, Int.reduceSub, ↓reduceIte, Int.reduceToNat, Nat.reduceShiftRight, Nat.reduceAnd]
  refine r02_New n hn1 (by omega) _ _ ?_
  intro H2 hr2 hn3 hk2
  have hbx : H2.get H.next = some (.cells [I size, .slice ta k tc, .slice ra roots.length rc] true) := by
    rw [hk2 _ (by omega), b7 _ (by omega)]; simp (disch := first | omega | (simp only [nx_push, nx_set, nx_kill]; done) | (simp only [nx_push, nx_set, nx_kill]; omega)) only [get_push_ne, get_push_eq, get_set_ne, get_set_eq, get_kill_ne, nx_push, nx_set, nx_kill]
  simp (disch := first | omega | (show allOne _ = true; simp [allOne, Value.oneCell']) | (simp only [List.length_cons, List.length_nil, List.length_set, List.length_map, List.length_replicate, List.length_append, List.length_take, List.length_drop, Int.toNat_natCast, Int.toNat_of_nonneg, nx_push, nx_set, nx_kill]; done) | (simp only [List.length_cons, List.length_nil, List.length_set, List.length_map, List.length_replicate, List.length_append, List.length_take, List.length_drop, Int.toNat_natCast, Int.toNat_of_nonneg, nx_push, nx_set, nx_kill]; omega)) only [go_sem, reduceCtorEq, Nat.reduceAdd, Nat.reduceSub, Nat.reduceMul, Nat.reduceLT, Nat.reduceLeDiff, Nat.reduceEqDiff, Nat.reduceBEq, Nat.reduceBNe, Int.reduceBEq, Int.reduceEq, Int.reduceLT, Int.reduceLE, Int.reduceAdd, Int.reduceSub, ↓reduceIte, Int.reduceToNat, Nat.reduceShiftRight, Nat.reduceAnd, ldc_cells, hbx]
  have hbelow : ∀ b, b < H.next → H2.get b = H.get b := fun b hb => by rw [hk2 _ (by omega), b7 _ (by omega)]; simp (disch := first | omega | (simp only [nx_push, nx_set, nx_kill]; done) | (simp only [nx_push, nx_set, nx_kill]; omega)) only [get_push_ne, get_push_eq, get_set_ne, get_set_eq, get_kill_ne, nx_push, nx_set, nx_kill]
  have hA2 : AtA H2 g gw gh n [] := hA1.frame (by rintro b (rfl | rfl | rfl) <;> exact hk2 _ (by omega))
  have hsep2 : ∀ b ∈ rblks H1.next (.slice none 0 0) [], H.next + 1 ≤ b ∧ b ≠ g ∧ b ≠ gw ∧ b ≠ gh := fun b hb => by simp [rblks, sblk] at hb; omega
  refine Hwp.loop (fun m fr H' => ∃ i T tv lvs, m = k - i ∧ i ≤ k ∧ AtA H' g gw gh n T ∧ RefAt H' H1.next n T tv lvs ∧ (∀ b, b < H.next → H'.get b = H.get b) ∧ H'.get H.next = some (.cells [I size, .slice ta k tc, .slice ra roots.length rc] true) ∧
      (∀ b ∈ rblks H1.next tv lvs, H.next + 1 ≤ b ∧ b ≠ g ∧ b ≠ gw ∧ b ≠ gh) ∧
     FLe (hfr 73 [(34, I i), (33, I k), (32, .slice ta k tc), (8, ptr H1.next 0), (6, ptr g 0), (1, ptr H.next 0)]) fr) k ?_ ?_
  · exact ⟨0, [], .slice none 0 0, [], by omega, by omega, hA2, hr2, hbelow, hbx, hsep2, fle_of (by simp [flook])⟩
  · rintro m fr H3 ⟨i, T, tv, lvs, rfl, hi, hA, hr, hk, hb0, hsep, hle⟩
    refine Hwp.ok fun hok3 => Hwp.weaken hle (HW.sound _ _ _ _ ?_)
    obtain ⟨lg1, lg2, lg3⟩ := hA.lt hok3
    have lgr := hr.lt hok3
    have lgn := hok3 _ _ hb0
    by_cases hc : i < k
    · obtain ⟨kd, lv, l, e1, e2, hls, hll⟩ := hel i hc
      have hls' := hls
      obtain ⟨ls1, ls2, la, lc, rfl, ls4, ls5⟩ := hls'
      rcases ts5 with ⟨rfl, rfl⟩ | ⟨tb, rfl, ts6⟩
      · omega
      · have htb := ts6 (by omega)
        have htbl := hok _ _ htb
        have htg : H3.get tb = some (.cells cells false) := by rw [hk tb htbl]; exact htb
        have hcell : (cells.drop (i * 2)).take 2 = [I kd, .slice la l.length lc] := cells2 (by rw [Nat.mul_comm]; exact e1) (by rw [Nat.mul_comm]; exact e2)
        have hcl := hts.1
        have hst : ∀ v0 v1 : Value, splice [.int .i64 0, .slice none 0 0] 0 [v0, v1] = [v0, v1] := fun _ _ => rfl
        have hA3 : AtA (H3.push (.cells [I kd, .slice la l.length lc] true)) g gw gh n T := hA.frame (by rintro b (rfl | rfl | rfl) <;> simp (disch := first | omega | (simp only [nx_push, nx_set, nx_kill]; done) | (simp only [nx_push, nx_set, nx_kill]; omega)) only [get_push_ne, get_push_eq, get_set_ne, get_set_eq, get_kill_ne, nx_push, nx_set, nx_kill])
        simp (disch := first | omega | (show allOne _ = true; simp [allOne, Value.oneCell']) | (simp only [List.length_cons, List.length_nil, List.length_set, List.length_map, List.length_replicate, List.length_append, List.length_take, List.length_drop, Int.toNat_natCast, Int.toNat_of_nonneg, nx_push, nx_set, nx_kill]; done) | (simp only [List.length_cons, List.length_nil, List.length_set, List.length_map, List.length_replicate, List.length_append, List.length_take, List.length_drop, Int.toNat_natCast, Int.toNat_of_nonneg, nx_push, nx_set, nx_kill]; omega)) only [go_sem, reduceCtorEq, Nat.reduceAdd, Nat.reduceSub, Nat.reduceMul, Nat.reduceLT, Nat.reduceLeDiff, Nat.reduceEqDiff, Nat.reduceBEq, Nat.reduceBNe, Int.reduceBEq, Int.reduceEq, Int.reduceLT, Int.reduceLE, Int.reduceAdd, Int.reduceSub, ↓reduceIte, Int.reduceToNat, Nat.reduceShiftRight, Nat.reduceAnd, ixa_ok, htg, lda_cells, hcell, sta_cells, push_set, hst]
        have hxb : (H3.push (.cells [I kd, .slice la l.length lc] true)).get H3.next = some (.cells [I kd, .slice la l.length lc] true) := by simp (disch := first | omega | (simp only [nx_push, nx_set, nx_kill]; done) | (simp only [nx_push, nx_set, nx_kill]; omega)) only [get_push_ne, get_push_eq, get_set_ne, get_set_eq, get_kill_ne, nx_push, nx_set, nx_kill]
        have hok4 : (H3.push (.cells [I kd, .slice la l.length lc] true)).Ok := by
          intro b o hb
          rw [HHeap.get_push] at hb
          split at hb
          · subst_vars; simp
          · have := hok3 _ _ hb; simp; omega
        have hr4 : RefAt (H3.push (.cells [I kd, .slice la l.length lc] true)) H1.next n T tv lvs := hr.frame (by simp) fun b hb => by have := lgr b hb; simp (disch := first | omega | (simp only [nx_push, nx_set, nx_kill]; done) | (simp only [nx_push, nx_set, nx_kill]; omega)) only [get_push_ne, get_push_eq, get_set_ne, get_set_eq, get_kill_ne, nx_push, nx_set, nx_kill]
        have hcut : ∀ H' : HHeap, (∀ b, b < H.next → H'.get b = H.get b) → ∀ m, m ≤ l.length → hsource H' 1 (.slice la m lc) = some ((l.take m).map U, m) := fun H' hf m hm => by
          rw [slarg_source hls hm hok hf, Nat.mul_one, List.map_take]
        have hsl : ∀ m : Nat, m ≤ l.length → hslice Try.prog 23 (.slice la l.length lc) none (some (.int .i64 (m : Int))) none = some (.slice la m lc) := fun m hm => slarg_hi Try.underlying23 sz42 hls hm
        obtain ⟨m9, hm9, hm9l⟩ : ∃ m9 : Nat, m9 = min l.length 9 ∧ m9 ≤ l.length := ⟨_, rfl, Nat.min_le_left _ _⟩
        have hmin : hmin2 (.int .i64 (l.length : Int)) (.int .i64 9) = some (.int .i64 (m9 : Int)) := by unfold hmin2; simp only; split <;> (congr 2; omega)
        by_cases h60 : (i : Int) < 60
        · simp (disch := first | omega | (show allOne _ = true; simp [allOne, Value.oneCell']) | (simp only [List.length_cons, List.length_nil, List.length_set, List.length_map, List.length_replicate, List.length_append, List.length_take, List.length_drop, Int.toNat_natCast, Int.toNat_of_nonneg, nx_push, nx_set, nx_kill]; done) | (simp only [List.length_cons, List.length_nil, List.length_set, List.length_map, List.length_replicate, List.length_append, List.length_take, List.length_drop, Int.toNat_natCast, Int.toNat_of_nonneg, nx_push, nx_set, nx_kill]; omega)) only [go_sem, reduceCtorEq, Nat.reduceAdd, Nat.reduceSub, Nat.reduceMul, Nat.reduceLT, Nat.reduceLeDiff, Nat.reduceEqDiff, Nat.reduceBEq, Nat.reduceBNe, Int.reduceBEq, Int.reduceEq, Int.reduceLT, Int.reduceLE, Int.reduceAdd, Int.reduceSub, ↓reduceIte, Int.reduceToNat, Nat.reduceShiftRight, Nat.reduceAnd]
          refine Hwp.drawn mixed [0, 0, 2, 0, 8, 0, 32, 96, 224, 504, 1023] (.op 0 (.op 1 (.op 2 (.op 3 (.op 4 (.op 5 (.op 6 (.op 7 (.op 8 (.op 9 (.eff 10 .done .stop))))))))))) (by kernel_rfl) ?_
          simp (disch := first | omega | (show allOne _ = true; simp [allOne, Value.oneCell']) | (simp only [List.length_cons, List.length_nil, List.length_set, List.length_map, List.length_replicate, List.length_append, List.length_take, List.length_drop, Int.toNat_natCast, Int.toNat_of_nonneg, nx_push, nx_set, nx_kill]; done) | (simp only [List.length_cons, List.length_nil, List.length_set, List.length_map, List.length_replicate, List.length_append, List.length_take, List.length_drop, Int.toNat_natCast, Int.toNat_of_nonneg, nx_push, nx_set, nx_kill]; omega)) only [go_sem, reduceCtorEq, Nat.reduceAdd, Nat.reduceSub, Nat.reduceMul, Nat.reduceLT, Nat.reduceLeDiff, Nat.reduceEqDiff, Nat.reduceBEq, Nat.reduceBNe, Int.reduceBEq, Int.reduceEq, Int.reduceLT, Int.reduceLE, Int.reduceAdd, Int.reduceSub, ↓reduceIte, Int.reduceToNat, Nat.reduceShiftRight, Nat.reduceAnd, hxb, ldc_cells, hmin, hsl]
          have hl9 : (l.take m9).length = m9 := by simp; omega
          have hlt9 : ∀ x ∈ l.take m9, x < 18446744073709551616 := fun x hx => hll x (List.mem_of_mem_take hx)
          have hst9 : ∀ V, V = allocV n T kd (l.take m9) → ∃ x y, V = .tuple #[x, y] := fun V hV => by subst hV; unfold allocV; split <;> (try split) <;> exact ⟨_, _, rfl⟩
          refine arena_AllocV _ _ _ _ _ _ hA3 kd (l.take m9) m9 hl9.symm hlt9 la lc (fun H' hf => hcut H' (fun b hb => by
            rw [hf b (by omega) (by omega) (by omega), get_push_ne _ _ (by omega)]; exact hk b hb) m9 hm9l) _ ?_
          intro H5 hA5 hf5 hn5
          rw [nx_push] at hn5
          have hr5 : RefAt H5 H1.next n T tv lvs := hr4.frame (by simp (disch := first | omega | (simp only [nx_push, nx_set, nx_kill]; done) | (simp only [nx_push, nx_set, nx_kill]; omega)) only [get_push_ne, get_push_eq, get_set_ne, get_set_eq, get_kill_ne, nx_push, nx_set, nx_kill]; omega) fun b hb => by
            obtain ⟨s1, s2, s3, s4⟩ := hsep b hb
            exact hf5 b s2 s3 s4
          have hxb5 : H5.get H3.next = some (.cells [I kd, .slice la l.length lc] true) := by
            rw [hf5 _ (by omega) (by omega) (by omega)]; exact hxb
          have hk5 : ∀ b, b < H.next → H5.get b = H.get b := fun b hb => by rw [hf5 b (by omega) (by omega) (by omega), get_push_ne _ _ (by omega)]; exact hk b hb
          simp (disch := first | omega | (show allOne _ = true; simp [allOne, Value.oneCell']) | (simp only [List.length_cons, List.length_nil, List.length_set, List.length_map, List.length_replicate, List.length_append, List.length_take, List.length_drop, Int.toNat_natCast, Int.toNat_of_nonneg, nx_push, nx_set, nx_kill]; done) | (simp only [List.length_cons, List.length_nil, List.length_set, List.length_map, List.length_replicate, List.length_append, List.length_take, List.length_drop, Int.toNat_natCast, Int.toNat_of_nonneg, nx_push, nx_set, nx_kill]; omega)) only [go_sem, reduceCtorEq, Nat.reduceAdd, Nat.reduceSub, Nat.reduceMul, Nat.reduceLT, Nat.reduceLeDiff, Nat.reduceEqDiff, Nat.reduceBEq, Nat.reduceBNe, Int.reduceBEq, Int.reduceEq, Int.reduceLT, Int.reduceLE, Int.reduceAdd, Int.reduceSub, ↓reduceIte, Int.reduceToNat, Nat.reduceShiftRight, Nat.reduceAnd]
          refine Hwp.drawn mixed [0, 0, 2, 0, 8, 0, 32, 96, 224, 504, 1023] (.op 0 (.op 1 (.op 2 (.op 3 (.op 4 (.op 5 (.op 6 (.op 7 (.op 8 (.op 9 (.eff 10 .done .stop))))))))))) (by kernel_rfl) ?_
          simp (disch := first | omega | (show allOne _ = true; simp [allOne, Value.oneCell']) | (simp only [List.length_cons, List.length_nil, List.length_set, List.length_map, List.length_replicate, List.length_append, List.length_take, List.length_drop, Int.toNat_natCast, Int.toNat_of_nonneg, nx_push, nx_set, nx_kill]; done) | (simp only [List.length_cons, List.length_nil, List.length_set, List.length_map, List.length_replicate, List.length_append, List.length_take, List.length_drop, Int.toNat_natCast, Int.toNat_of_nonneg, nx_push, nx_set, nx_kill]; omega)) only [go_sem, reduceCtorEq, Nat.reduceAdd, Nat.reduceSub, Nat.reduceMul, Nat.reduceLT, Nat.reduceLeDiff, Nat.reduceEqDiff, Nat.reduceBEq, Nat.reduceBNe, Int.reduceBEq, Int.reduceEq, Int.reduceLT, Int.reduceLE, Int.reduceAdd, Int.reduceSub, ↓reduceIte, Int.reduceToNat, Nat.reduceShiftRight, Nat.reduceAnd, hxb5, ldc_cells, hmin, hsl]
          refine r02_AllocV _ _ _ _ _ _ hr5 (by omega) hA.room kd (l.take m9) m9 hl9.symm hlt9 la lc (fun H' hf => hcut H' (fun b hb => by
            rw [hf b (by omega) (fun hm => by have := hsep b hm; omega)]; exact hk5 b hb) m9 hm9l) _ ?_
          intro H6 tv6 lvs6 hr6 hn6 hf6 hb6
          have hnot : ∀ b, (∀ x ∈ rblks H1.next tv lvs, b ≠ x) → b ∉ rblks H1.next tv lvs := fun b h hm => h b hm rfl
          have hA6 : AtA H6 g gw gh n (allocT n T kd (l.take m9)) := hA5.frame (by rintro b (rfl | rfl | rfl) <;> exact hf6 _ (by omega) (hnot _ fun x hx => by have := hsep x hx; omega))
          simp (disch := first | omega | (show allOne _ = true; simp [allOne, Value.oneCell']) | (simp only [List.length_cons, List.length_nil, List.length_set, List.length_map, List.length_replicate, List.length_append, List.length_take, List.length_drop, Int.toNat_natCast, Int.toNat_of_nonneg, nx_push, nx_set, nx_kill]; done) | (simp only [List.length_cons, List.length_nil, List.length_set, List.length_map, List.length_replicate, List.length_append, List.length_take, List.length_drop, Int.toNat_natCast, Int.toNat_of_nonneg, nx_push, nx_set, nx_kill]; omega)) only [go_sem, reduceCtorEq, Nat.reduceAdd, Nat.reduceSub, Nat.reduceMul, Nat.reduceLT, Nat.reduceLeDiff, Nat.reduceEqDiff, Nat.reduceBEq, Nat.reduceBNe, Int.reduceBEq, Int.reduceEq, Int.reduceLT, Int.reduceLE, Int.reduceAdd, Int.reduceSub, ↓reduceIte, Int.reduceToNat, Nat.reduceShiftRight, Nat.reduceAnd]
          refine ⟨_, ?_, i + 1, _, tv6, lvs6, rfl, by omega, hA6, hr6, ?_, ?_, ?_, fle_of (by simp [flook])⟩
          · omega
          · intro b hb
            rw [hf6 b (by omega) (hnot _ fun x hx => by have := hsep x hx; omega)]; exact hk5 b hb
          · rw [hf6 _ (by omega) (hnot _ fun x hx => by have := hsep x hx; omega), hf5 _ (by omega) (by omega) (by omega), get_push_ne _ _ (by omega)]; exact hb0
          · intro b hb
            rcases hb6 b hb with h | h
            · exact hsep b h
            · omega
        · simp (disch := first | omega | (show allOne _ = true; simp [allOne, Value.oneCell']) | (simp only [List.length_cons, List.length_nil, List.length_set, List.length_map, List.length_replicate, List.length_append, List.length_take, List.length_drop, Int.toNat_natCast, Int.toNat_of_nonneg, nx_push, nx_set, nx_kill]; done) | (simp only [List.length_cons, List.length_nil, List.length_set, List.length_map, List.length_replicate, List.length_append, List.length_take, List.length_drop, Int.toNat_natCast, Int.toNat_of_nonneg, nx_push, nx_set, nx_kill]; omega)) only [go_sem, reduceCtorEq, Nat.reduceAdd, Nat.reduceSub, Nat.reduceMul, Nat.reduceLT, Nat.reduceLeDiff, Nat.reduceEqDiff, Nat.reduceBEq, Nat.reduceBNe, Int.reduceBEq, Int.reduceEq, Int.reduceLT, Int.reduceLE, Int.reduceAdd, Int.reduceSub, ↓reduceIte, Int.reduceToNat, Nat.reduceShiftRight, Nat.reduceAnd]
          refine ⟨_, ?_, i + 1, T, tv, lvs, rfl, by omega, hA3, hr4, ?_, ?_, hsep, fle_of (by simp [flook])⟩
          · omega
          · intro b hb; first | exact hk b hb | (rw [get_push_ne _ _ (by omega)]; exact hk b hb)
          · first | exact hb0 | (rw [get_push_ne _ _ (by omega)]; exact hb0)
    · simp (disch := first | omega | (show allOne _ = true; simp [allOne, Value.oneCell']) | (simp only [List.length_cons, List.length_nil, List.length_set, List.length_map, List.length_replicate, List.length_append, List.length_take, List.length_drop, Int.toNat_natCast, Int.toNat_of_nonneg, nx_push, nx_set, nx_kill]; done) | (simp only [List.length_cons, List.length_nil, List.length_set, List.length_map, List.length_replicate, List.length_append, List.length_take, List.length_drop, Int.toNat_natCast, Int.toNat_of_nonneg, nx_push, nx_set, nx_kill]; omega)) only [go_sem, reduceCtorEq, Nat.reduceAdd, Nat.reduceSub, Nat.reduceMul, Nat.reduceLT, Nat.reduceLeDiff, Nat.reduceEqDiff, Nat.reduceBEq, Nat.reduceBNe, Int.reduceBEq, Int.reduceEq, Int.reduceLT, Int.reduceLE, Int.reduceAdd, Int.reduceSub, ↓reduceIte, Int.reduceToNat, Nat.reduceShiftRight, Nat.reduceAnd]
      refine Hwp.drawn mixed [0, 0, 0, 4, 0, 16, 48, 112, 252, 1, 515, 2047] (.op 0 (.op 1 (.op 2 (.op 3 (.op 4 (.op 5 (.op 6 (.op 7 (.op 8 (.op 9 (.op 10 (.op 11 .done)))))))))))) (by kernel_rfl) ?_
      obtain ⟨m9, hm9, hm9l⟩ : ∃ m9 : Nat, m9 = min roots.length 20 ∧ m9 ≤ roots.length := ⟨_, rfl, Nat.min_le_left _ _⟩
      have hmin : hmin2 (.int .i64 (roots.length : Int)) (.int .i64 20) = some (.int .i64 (m9 : Int)) := by unfold hmin2; simp only; split <;> (congr 2; omega)
      have hsl : hslice Try.prog 23 (.slice ra roots.length rc) none (some (.int .i64 (m9 : Int))) none = some (.slice ra m9 rc) := slarg_hi Try.underlying23 sz42 hrs hm9l
      simp (disch := first | omega | (show allOne _ = true; simp [allOne, Value.oneCell']) | (simp only [List.length_cons, List.length_nil, List.length_set, List.length_map, List.length_replicate, List.length_append, List.length_take, List.length_drop, Int.toNat_natCast, Int.toNat_of_nonneg, nx_push, nx_set, nx_kill]; done) | (simp only [List.length_cons, List.length_nil, List.length_set, List.length_map, List.length_replicate, List.length_append, List.length_take, List.length_drop, Int.toNat_natCast, Int.toNat_of_nonneg, nx_push, nx_set, nx_kill]; omega)) only [go_sem, reduceCtorEq, Nat.reduceAdd, Nat.reduceSub, Nat.reduceMul, Nat.reduceLT, Nat.reduceLeDiff, Nat.reduceEqDiff, Nat.reduceBEq, Nat.reduceBNe, Int.reduceBEq, Int.reduceEq, Int.reduceLT, Int.reduceLE, Int.reduceAdd, Int.reduceSub, ↓reduceIte, Int.reduceToNat, Nat.reduceShiftRight, Nat.reduceAnd, hb0, ldc_cells, hmin, hsl]
      refine hR H3 n g gw gh H1.next T tv lvs _ hn1 hn2 hA hr ?_ hk (by omega) ⟨by omega, by omega, by omega⟩ (fun b hb => by have := hsep b hb; omega)
      have hl9 : m9 = ((roots.take 20).map U).length := by simp; omega
      refine ⟨ra, rc, by rw [← hl9], by rw [← hl9]; omega, ?_⟩
      rcases rs5 with ⟨rfl, rfl⟩ | ⟨b, rfl, rs6⟩
      · exact .inl ⟨rfl, rfl⟩
      · refine .inr ⟨b, 0, none, rfl, .inl rfl, ?_⟩
        by_cases h0 : roots.length = 0
        · left
          have : roots = [] := by simpa using h0
          subst this; simp
        · right
          have hg := rs6 h0
          have hbl := hok _ _ hg
          refine ⟨_, false, by rw [hk b hbl]; exact hg, fun i v hv => ?_⟩
          rw [List.getElem?_map, Option.map_eq_some_iff] at hv
          obtain ⟨x, hx, rfl⟩ := hv
          rw [List.getElem?_take] at hx
          split at hx
          · rw [Nat.zero_add, List.getElem?_map, hx]; rfl
          · cases hx
end Go.HL
/-
  What was brought, gone through again: plain Lean.
-/
namespace Go.HL
set_option linter.unusedSimpArgs false
set_option linter.unusedVariables false

/-- A set of things from which nothing leads out. -/
structure Closed (T : Things) (F : List Nat) : Prop where
  nodup : F.Nodup
  lt : ∀ i ∈ F, i < T.length
  step : ∀ i ∈ F, ∀ w ∈ wordsI T i, ∀ j, findI T w = some j → j ∈ F
theorem bfs_closed (T : Things) (roots : List Nat) : Closed T (bfs T roots) :=
  ⟨bfs_nodup T roots, fun i hi => reached_lt ((bfs_mem T roots i).1 hi), fun i hi w hw j hj => (bfs_mem T roots j).2 (.next i w j ((bfs_mem T roots i).1 hi) hw hj)⟩
theorem bfs_root {T : Things} {roots : List Nat} {w i : Nat} (hw : w ∈ roots) (hi : findI T w = some i) : i ∈ bfs T roots := (bfs_mem T roots i).2 (.root w i hw hi)
theorem bfs_min {T : Things} {roots F : List Nat} (hF : Closed T F) (hr : ∀ w ∈ roots, ∀ i, findI T w = some i → i ∈ F) : ∀ i ∈ bfs T roots, i ∈ F := by
  intro i hi
  have := (bfs_mem T roots i).1 hi
  clear hi
  induction this with
  | root w i hw hi' => exact hr w hw i hi'
  | next j w i hj hw hi' ih => exact hF.step j ih w hw i hi'

theorem idxOf_get {F : List Nat} (hn : F.Nodup) {n j : Nat} (h : F[n]? = some j) : F.idxOf j = n := by
  obtain ⟨h1, h2⟩ := List.getElem?_eq_some_iff.1 h
  rw [← h2]; exact hn.idxOf_getElem n h1
theorem idxOf_mem {F : List Nat} {i : Nat} (h : i ∈ F) : F[F.idxOf i]? = some i := by
  have h1 := List.idxOf_lt_length_iff.2 h
  rw [List.getElem?_eq_getElem h1, List.getElem_idxOf h1]

theorem outT_length (T : Things) (F : List Nat) : (outT T F).length = F.length := by simp [outT]
theorem outT_get {T : Things} {F : List Nat} {n j : Nat} (h : F[n]? = some j) : (outT T F)[n]? = some (fullThing T F j) := by simp [outT, h]
theorem outT_mid (T : Things) (F : List Nat) : outT T F = midT T F F.length 0 0 F := (midT_done T F F.length 0 F 0 (by omega)).symm
theorem outT_place (T : Things) (F : List Nat) (n : Nat) : placeOf (outT T F) n = sumR T (F.take n) := by rw [outT_mid, placeOf_midT]
theorem outT_used (T : Things) (F : List Nat) : usedOf (outT T F) = sumR T F := by rw [outT_mid, midT_used]
theorem outT_words {T : Things} {F : List Nat} {n j : Nat} (h : F[n]? = some j) : wordsI (outT T F) n = (wordsI T j).map (tr T F) := by
  unfold wordsI; rw [outT_get h]; simp only [fullThing]
  cases T[j]? <;> rfl
theorem outT_room {T : Things} {F : List Nat} {n j : Nat} (h : F[n]? = some j) : roomI (outT T F) n = roomI T j := by
  unfold roomI; rw [outT_get h]; simp only [fullThing]
  cases T[j]? <;> simp [Thing.room]
theorem findI_used {T : Things} {w i : Nat} (h : findI T w = some i) : w / 8 < usedOf T := by
  obtain ⟨hw, hl⟩ := findI_word h
  subst hw
  have h2 : placeOf T i + roomI T i ≤ usedOf T := by
    have := usedOf_take_succ T i hl
    have h3 : usedOf (T.take (i + 1)) ≤ usedOf T := by
      conv => rhs; rw [← List.take_append_drop (i + 1) T]
      rw [usedOf_append]; omega
    unfold placeOf; omega
  have : 0 < roomI T i := by unfold roomI; split <;> simp [Thing.room]; omega
  unfold wordAt; omega
theorem bare_none {T : Things} {w : Nat} (hu : usedOf T ≤ 65536) (h : ¬ (w % 8 = 1 ∧ w / 8 < 1099511627776)) : findI T w = none := by
  cases e : findI T w with
  | none => rfl
  | some i =>
    have h1 := findI_used e
    have h2 : w % 8 = 1 := by unfold findI at e; split at e; assumption; cases e
    exact absurd ⟨h2, by omega⟩ h
/-- A word that is brought finds what it found. -/
theorem tr_find {T : Things} {F : List Nat} (hF : Closed T F) (hu : usedOf T ≤ 65536) {w : Nat} (hw : ∀ i, findI T w = some i → i ∈ F) : findI (outT T F) (tr T F w) = (findI T w).map F.idxOf := by
  have hu' : usedOf (outT T F) ≤ 65536 := by rw [outT_used]; have := sumR_le T F hF.nodup hF.lt; omega
  unfold tr
  cases h : findI T w with
  | some i =>
    simp only [Option.map_some]
    have hi := hw i h
    have hg := idxOf_mem hi
    have e := placeIn_get (T := T) (F := F) (ord := F) (l := []) (by simp) hF.nodup hg
    rw [e, ← outT_place]
    exact word_findI (by rw [outT_length]; exact List.idxOf_lt_length_iff.2 hi)
  | none =>
    simp only [Option.map_none]
    split
    · exact bare_none hu' (by omega)
    · rename_i hh; exact bare_none hu' hh

theorem tr_stepO {T : Things} {F : List Nat} (hF : Closed T F) (hu : usedOf T ≤ 65536) {w : Nat} (hw : ∀ i, findI T w = some i → i ∈ F) {ord : List Nat} (ho : ∀ i ∈ ord, i ∈ F) :
    stepO (outT T F) (ord.map F.idxOf) (tr T F w) = (stepO T ord w).map F.idxOf := by
  unfold stepO
  rw [tr_find hF hu hw]
  cases h : findI T w with
  | none => rfl
  | some i =>
    simp only [Option.map_some]
    have hi := hw i h
    have hm : F.idxOf i ∈ ord.map F.idxOf ↔ i ∈ ord := by
      refine ⟨fun hm => ?_, fun hm => List.mem_map.2 ⟨i, hm, rfl⟩⟩
      obtain ⟨j, hj, e⟩ := List.mem_map.1 hm
      have e1 := idxOf_mem hi
      have e2 := idxOf_mem (ho j hj)
      rw [e, e1] at e2; cases e2; exact hj
    by_cases h1 : i ∈ ord
    · rw [if_pos h1, if_pos (hm.2 h1)]
    · rw [if_neg h1, if_neg (fun h => h1 (hm.1 h))]; simp
theorem stepAll_in {T : Things} {F : List Nat} {ws ord : List Nat} (hw : ∀ w ∈ ws, ∀ i, findI T w = some i → i ∈ F) (ho : ∀ i ∈ ord, i ∈ F) : ∀ i ∈ stepAll T ord ws, i ∈ F := by
  intro i hi
  rw [stepAll_mem] at hi
  rcases hi with hi | ⟨w, hw', hi⟩
  · exact ho i hi
  · exact hw w hw' i hi
theorem tr_stepAll {T : Things} {F : List Nat} (hF : Closed T F) (hu : usedOf T ≤ 65536) : ∀ (ws ord : List Nat), (∀ w ∈ ws, ∀ i, findI T w = some i → i ∈ F) → (∀ i ∈ ord, i ∈ F) →
    stepAll (outT T F) (ord.map F.idxOf) (ws.map (tr T F)) = (stepAll T ord ws).map F.idxOf
  | [], ord, _, _ => rfl
  | w :: ws, ord, hw, ho => by
    have h1 := tr_stepO hF hu (hw w (by simp)) ho
    have h2 := tr_stepAll hF hu ws (stepO T ord w) (fun x hx => hw x (by simp [hx])) (stepAll_in (ws := [w]) (fun x hx => hw x (by simp at hx; simp [hx])) ho)
    unfold stepAll at h2 ⊢
    rw [List.map_cons, List.foldl_cons, List.foldl_cons, h1, h2]
theorem tr_scan {T : Things} {F : List Nat} (hF : Closed T F) (hu : usedOf T ≤ 65536) : ∀ (f p : Nat) (ord : List Nat), (∀ i ∈ ord, i ∈ F) → scan (outT T F) f p (ord.map F.idxOf) = (scan T f p ord).map F.idxOf
  | 0, _, _, _ => rfl
  | f + 1, p, ord, ho => by
    rw [scan, scan, List.getElem?_map]
    cases h : ord[p]? with
    | none => rfl
    | some i =>
      simp only [Option.map_some]
      have hi := ho i (List.mem_of_getElem? h)
      have hs := hF.step i hi
      rw [outT_words (idxOf_mem hi), tr_stepAll hF hu _ _ hs ho]
      exact tr_scan hF hu f (p + 1) _ (stepAll_in hs ho)

theorem scan_fuel {T : Things} {roots : List Nat} : ∀ (f p : Nat) (ord : List Nat), ScanInv T roots p ord → p ≤ ord.length → T.length + 1 ≤ f + p → scan T (f + 1) p ord = scan T f p ord := by
  intro f
  induction f with
  | zero => intro p ord h hp hf; have := h.le; exact absurd hp (by omega)
  | succ f ih =>
    intro p ord h hp hf
    rw [scan, scan]
    cases hi : ord[p]? with
    | none => rfl
    | some i =>
      simp only
      have hp' : p < ord.length := (List.getElem?_eq_some_iff.1 hi).1
      obtain ⟨l, hl⟩ := stepAll_sub (T := T) (wordsI T i) ord
      exact ih (p + 1) _ (h.next hi) (by rw [hl, List.length_append]; omega) (by omega)
theorem bfs_fuel (T : Things) (roots : List Nat) : ∀ (k : Nat), scan T (T.length + 1 + k) 0 (stepAll T [] roots) = bfs T roots
  | 0 => rfl
  | k + 1 => by
    rw [← bfs_fuel T roots k, ← Nat.add_assoc]
    exact scan_fuel _ 0 _ (ScanInv.start T roots) (by omega) (by omega)
/-- What is reached of what was brought. -/
theorem tr_bfs {T : Things} {F : List Nat} (hF : Closed T F) (hu : usedOf T ≤ 65536) {rs : List Nat} (hr : ∀ w ∈ rs, ∀ i, findI T w = some i → i ∈ F) : bfs (outT T F) (rs.map (tr T F)) = (bfs T rs).map F.idxOf := by
  have hle : F.length ≤ T.length := nodup_le F hF.nodup hF.lt
  have h1 := tr_stepAll hF hu rs [] hr (by simp)
  rw [List.map_nil] at h1
  have h2 := tr_scan hF hu (T.length + 1) 0 (stepAll T [] rs) (stepAll_in hr (by simp))
  have h3 := bfs_fuel (outT T F) (rs.map (tr T F)) (T.length - F.length)
  rw [outT_length, show F.length + 1 + (T.length - F.length) = T.length + 1 by omega, h1, h2] at h3
  rw [← h3]; rfl
theorem tr_sumR {T : Things} {F : List Nat} : ∀ (ord : List Nat), (∀ i ∈ ord, i ∈ F) → sumR (outT T F) (ord.map F.idxOf) = sumR T ord
  | [], _ => rfl
  | i :: ord, h => by
    have := tr_sumR (T := T) ord (fun j hj => h j (by simp [hj]))
    unfold sumR at this ⊢
    rw [List.map_cons, List.map_cons, List.sum_cons, this, outT_room (idxOf_mem (h i (by simp))), List.map_cons, List.sum_cons]
theorem idxOf_range {F : List Nat} (hn : F.Nodup) : F.map F.idxOf = List.range F.length := by
  apply List.ext_getElem?
  intro n
  rw [List.getElem?_map]
  cases h : F[n]? with
  | none =>
    have : F.length ≤ n := List.getElem?_eq_none_iff.1 h
    simp [this]
  | some j =>
    have h1 := (List.getElem?_eq_some_iff.1 h).1
    rw [Option.map_some, idxOf_get hn h, List.getElem?_range h1]
theorem sumR_mono {T : Things} : ∀ (A B : List Nat), A.Nodup → (∀ x ∈ A, x ∈ B) → sumR T A ≤ sumR T B
  | [], B, _, _ => by simp [sumR]
  | a :: A, B, hn, h => by
    rw [List.nodup_cons] at hn
    have ha := h a (by simp)
    have hp := List.perm_cons_erase ha
    have e : sumR T B = roomI T a + sumR T (B.erase a) := by unfold sumR; rw [(hp.map (roomI T)).sum_nat]; simp
    have := sumR_mono (T := T) A (B.erase a) hn.2 (fun x hx => by
      have hne : x ≠ a := fun e => hn.1 (e ▸ hx)
      exact (List.mem_erase_of_ne hne).2 (h x (by simp [hx])))
    have e2 : sumR T (a :: A) = roomI T a + sumR T A := by simp [sumR]
    omega
theorem sumR_same {T : Things} {A B : List Nat} (ha : A.Nodup) (hb : B.Nodup) (h : ∀ x, x ∈ A ↔ x ∈ B) : sumR T A = sumR T B :=
  Nat.le_antisymm (sumR_mono A B ha fun x hx => (h x).1 hx) (sumR_mono B A hb fun x hx => (h x).2 hx)
theorem bfs_mono {T : Things} {rs rs' : List Nat} (h : ∀ w ∈ rs, w ∈ rs') : ∀ i ∈ bfs T rs, i ∈ bfs T rs' :=
  bfs_min (bfs_closed T rs') (fun w hw i hi => bfs_root (h w hw) hi)
theorem bfs_union {T : Things} {a b : List Nat} : ∀ i ∈ bfs T (a ++ b), i ∈ bfs T a ∨ i ∈ bfs T b := by
  intro i hi
  have := (bfs_mem T (a ++ b) i).1 hi
  clear hi
  induction this with
  | root w i hw hi' =>
    rcases List.mem_append.1 hw with hw | hw
    · exact .inl (bfs_root hw hi')
    · exact .inr (bfs_root hw hi')
  | next j w i hj hw hi' ih =>
    rcases ih with h | h
    · exact .inl ((bfs_closed T a).step j h w hw i hi')
    · exact .inr ((bfs_closed T b).step j h w hw i hi')
theorem sumR_union {T : Things} {a b : List Nat} : sumR T (bfs T (a ++ b)) ≤ sumR T (bfs T a) + sumR T (bfs T b) := by
  rw [← sumR_append]
  exact sumR_mono _ _ (bfs_nodup _ _) (fun x hx => List.mem_append.2 (bfs_union x hx))
/-- Words that are no places but those of things. -/
def Clean (T : Things) (w : Nat) : Prop := findI T w = none → ¬ (w % 8 = 1 ∧ w / 8 < 1099511627776)
theorem tr_clean {T : Things} {F : List Nat} (hF : Closed T F) (hu : usedOf T ≤ 65536) {w : Nat} (hw : ∀ i, findI T w = some i → i ∈ F) : Clean (outT T F) (tr T F w) := by
  intro h
  rw [tr_find hF hu hw] at h
  have h' : findI T w = none := by cases e : findI T w with
    | none => rfl
    | some i => rw [e] at h; cases h
  unfold tr; rw [h']; simp only
  split
  · omega
  · rename_i hh; exact hh
theorem placeIn_range {T : Things} {n : Nat} (l : List Nat) {i : Nat} (h : i < n) : placeIn T (List.range n ++ l) i = sumR T (List.range i) := by
  rw [placeIn_get (ord := List.range n) (l := l) rfl List.nodup_range (n := i) (j := i) (by simp [h]), List.take_range, Nat.min_eq_left (by omega)]
theorem sumR_range (T : Things) : ∀ (n : Nat), n ≤ T.length → sumR T (List.range n) = placeOf T n
  | 0, _ => by simp [sumR, placeOf, usedOf]
  | n + 1, h => by
    rw [List.range_succ, sumR_append, sumR_one, sumR_range T n (by omega)]
    unfold placeOf
    rw [usedOf_take_succ T n (by omega)]
/-- A word of a first row of things stays. -/
theorem tr_stay {T : Things} {n : Nat} (l : List Nat) (hn : n ≤ T.length) {w : Nat} (hc : Clean T w) (hw : ∀ i, findI T w = some i → i < n) : tr T (List.range n ++ l) w = w := by
  unfold tr
  cases h : findI T w with
  | none => simp only; rw [if_neg (hc h)]
  | some i =>
    simp only
    have hi := hw i h
    rw [placeIn_range l hi, sumR_range T i (by omega)]
    exact (findI_word h).1.symm
/-- All of it is reached, in its order: it stays as it is. -/
theorem live_id {T : Things} (hc : ∀ t ∈ T, ∀ w ∈ t.l, Clean T w) : outT T (List.range T.length) = T := by
  apply List.ext_getElem?
  intro n
  rcases Nat.lt_or_ge n T.length with h | h
  · have hg : (List.range T.length)[n]? = some n := by simp [h]
    rw [outT_get hg]
    unfold fullThing
    rw [List.getElem?_eq_getElem h]
    simp only
    have : (T[n].l.map (tr T (List.range T.length))) = T[n].l := by
      conv => rhs; rw [← List.map_id T[n].l]
      apply List.map_congr_left
      intro w hw
      have := tr_stay (T := T) (n := T.length) [] (Nat.le_refl _) (hc _ (List.getElem_mem h) w hw) (fun i hi => findI_lt hi)
      rw [List.append_nil] at this
      rw [this]; rfl
    rw [this]
  · rw [List.getElem?_eq_none_iff.2 (by rw [outT_length]; simpa using h), List.getElem?_eq_none_iff.2 h]
theorem outT_clean {T : Things} {F : List Nat} (hF : Closed T F) (hu : usedOf T ≤ 65536) : ∀ t ∈ outT T F, ∀ w ∈ t.l, Clean (outT T F) w := by
  intro t ht w hw
  obtain ⟨i, hi, rfl⟩ := List.mem_map.1 ht
  unfold fullThing at hw
  cases hT : T[i]? with
  | none => rw [hT] at hw; simp at hw
  | some u =>
    rw [hT] at hw
    simp only [List.mem_map] at hw
    obtain ⟨x, hx, rfl⟩ := hw
    exact tr_clean hF hu (hF.step i hi x (by unfold wordsI; rw [hT]; exact hx))
end Go.HL
/-
  Walks: laws.
-/
namespace Go.HL
open Go.RowKit Go.Proofs
set_option maxHeartbeats 4000000
set_option maxRecDepth 100000
set_option linter.unusedSimpArgs false
set_option linter.unusedVariables false

theorem HeapArg.old {H H' : HHeap} {v : Value} {roots : List Nat} (h : HeapArg H v roots) (ok : H.Ok) (f : ∀ b, b < H.next → H'.get b = H.get b) : HeapArg H' v roots := by
  obtain ⟨⟨size, tv, rv, n, cells, h1, h2, h3, h4, h5⟩, h6⟩ := h
  exact ⟨⟨size, tv, rv, n, cells, h1, h2, h3.frame ok f, h4.frame ok f, fun i hi => by
    obtain ⟨k, lv, l, e1, e2, e3, e4⟩ := h5 i hi
    exact ⟨k, lv, l, e1, e2, e3.frame ok f, e4⟩⟩, h6⟩
theorem law_words (H : HHeap) (s s' : Value) (l m : List Nat) (hs : RowAt H s (l.map U)) (hs' : RowAt H s' (m.map U)) (hl : l.length ≤ 1000000) (R : Value → HHeap → Prop) (hR : R (.bool (decide (l = m))) H) : HCalls Try.prog 14 [s, s'] H R := by
  have hs1 := hs
  have hs2 := hs'
  obtain ⟨a, c, rfl, _⟩ := hs1
  obtain ⟨a', c', rfl, _⟩ := hs2
  refine HCalls.of_hw Try.func14 rfl _ Try.ntmps14 _ (by rw [Try.results14]) ?_
  rw [hframe0_eq _ _ (by simp)]
  simp only [List.zipIdx_cons, List.zipIdx_nil, List.map_cons, List.map_nil, Nat.reduceAdd]
  have e1 : ((l.map U).length : Int) = (l.length : Int) := by simp
  have e2 : ((m.map U).length : Int) = (m.length : Int) := by simp
  by_cases hlm : l.length = m.length
  · simp (disch := first | omega | (show allOne _ = true; simp [allOne, Value.oneCell']) | (simp only [List.length_cons, List.length_nil, List.length_set, List.length_map, List.length_replicate, List.length_append, List.length_take, List.length_drop, Int.toNat_natCast, Int.toNat_of_nonneg, nx_push, nx_set, nx_kill]; done) | (simp only [List.length_cons, List.length_nil, List.length_set, List.length_map, List.length_replicate, List.length_append, List.length_take, List.length_drop, Int.toNat_natCast, Int.toNat_of_nonneg, nx_push, nx_set, nx_kill]; omega)) only [go_sem, reduceCtorEq, Nat.reduceAdd, Nat.reduceSub, Nat.reduceMul, Nat.reduceLT, Nat.reduceLeDiff, Nat.reduceEqDiff, Nat.reduceBEq, Nat.reduceBNe, Int.reduceBEq, Int.reduceEq, Int.reduceLT, Int.reduceLE, Int.reduceAdd, Int.reduceSub, ↓reduceIte, Int.reduceToNat, Nat.reduceShiftRight, Nat.reduceAnd, e1, e2]
    refine Hwp.loop (fun n fr H' => ∃ i, n = l.length - i ∧ i ≤ l.length ∧ H' = H ∧ (∀ j, j < i → l[j]? = m[j]?) ∧
      FLe (hfr 26 [(13, I i), (12, I l.length), (0, .slice a (l.map U).length c), (1, .slice a' (m.map U).length c')]) fr) l.length ?_ ?_
    · exact ⟨0, by omega, by omega, rfl, fun j hj => by omega, fle_of (by simp [flook])⟩
    · rintro n fr H' ⟨i, rfl, hi, rfl, heq, hle⟩
      refine Hwp.weaken hle (HW.sound _ _ _ _ ?_)
      by_cases hc : i < l.length
      · obtain ⟨x, hx⟩ : ∃ x, l[i]? = some x := ⟨_, List.getElem?_eq_getElem hc⟩
        obtain ⟨y, hy⟩ : ∃ y, m[i]? = some y := ⟨_, List.getElem?_eq_getElem (by omega)⟩
        obtain ⟨b, o, k, c1, cs, rw1, q1, q2, q3⟩ := hs.get (i := i) (v := U x) (by rw [List.getElem?_map, hx]; rfl)
        obtain ⟨b', o', k', c1', cs', rw1', q1', q2', q3'⟩ := hs'.get (i := i) (v := U y) (by rw [List.getElem?_map, hy]; rfl)
        cases q1; cases q1'
        simp (disch := first | omega | (show allOne _ = true; simp [allOne, Value.oneCell']) | (simp only [List.length_cons, List.length_nil, List.length_set, List.length_map, List.length_replicate, List.length_append, List.length_take, List.length_drop, Int.toNat_natCast, Int.toNat_of_nonneg, nx_push, nx_set, nx_kill]; done) | (simp only [List.length_cons, List.length_nil, List.length_set, List.length_map, List.length_replicate, List.length_append, List.length_take, List.length_drop, Int.toNat_natCast, Int.toNat_of_nonneg, nx_push, nx_set, nx_kill]; omega)) only [go_sem, reduceCtorEq, Nat.reduceAdd, Nat.reduceSub, Nat.reduceMul, Nat.reduceLT, Nat.reduceLeDiff, Nat.reduceEqDiff, Nat.reduceBEq, Nat.reduceBNe, Int.reduceBEq, Int.reduceEq, Int.reduceLT, Int.reduceLE, Int.reduceAdd, Int.reduceSub, ↓reduceIte, Int.reduceToNat, Nat.reduceShiftRight, Nat.reduceAnd]
        refine Hwp.drawn mixed [0, 0, 3, 7, 0, 0, 48, 112, 255] (.op 0 (.op 1 (.op 2 (.op 3 (.op 4 (.op 5 (.op 6 (.op 7 (.op 8 .done))))))))) (by kernel_rfl) ?_
        by_cases hxy : x = y
        · subst hxy
          simp (disch := first | omega | (show allOne _ = true; simp [allOne, Value.oneCell']) | (simp only [List.length_cons, List.length_nil, List.length_set, List.length_map, List.length_replicate, List.length_append, List.length_take, List.length_drop, Int.toNat_natCast, Int.toNat_of_nonneg, nx_push, nx_set, nx_kill]; done) | (simp only [List.length_cons, List.length_nil, List.length_set, List.length_map, List.length_replicate, List.length_append, List.length_take, List.length_drop, Int.toNat_natCast, Int.toNat_of_nonneg, nx_push, nx_set, nx_kill]; omega)) only [go_sem, reduceCtorEq, Nat.reduceAdd, Nat.reduceSub, Nat.reduceMul, Nat.reduceLT, Nat.reduceLeDiff, Nat.reduceEqDiff, Nat.reduceBEq, Nat.reduceBNe, Int.reduceBEq, Int.reduceEq, Int.reduceLT, Int.reduceLE, Int.reduceAdd, Int.reduceSub, ↓reduceIte, Int.reduceToNat, Nat.reduceShiftRight, Nat.reduceAnd, ixa_ok, ldc_cells, q2, q3, q2', q3']
          refine ⟨_, ?_, i + 1, rfl, by omega, fun j hj => ?_, fle_of (by simp [flook])⟩
          · omega
          · rcases Nat.lt_or_ge j i with h | h
            · exact heq j h
            · rw [show j = i by omega, hx, hy]
        · simp (disch := first | omega | (show allOne _ = true; simp [allOne, Value.oneCell']) | (simp only [List.length_cons, List.length_nil, List.length_set, List.length_map, List.length_replicate, List.length_append, List.length_take, List.length_drop, Int.toNat_natCast, Int.toNat_of_nonneg, nx_push, nx_set, nx_kill]; done) | (simp only [List.length_cons, List.length_nil, List.length_set, List.length_map, List.length_replicate, List.length_append, List.length_take, List.length_drop, Int.toNat_natCast, Int.toNat_of_nonneg, nx_push, nx_set, nx_kill]; omega)) only [go_sem, reduceCtorEq, Nat.reduceAdd, Nat.reduceSub, Nat.reduceMul, Nat.reduceLT, Nat.reduceLeDiff, Nat.reduceEqDiff, Nat.reduceBEq, Nat.reduceBNe, Int.reduceBEq, Int.reduceEq, Int.reduceLT, Int.reduceLE, Int.reduceAdd, Int.reduceSub, ↓reduceIte, Int.reduceToNat, Nat.reduceShiftRight, Nat.reduceAnd, ixa_ok, ldc_cells, q2, q3, q2', q3']
          have : l ≠ m := fun e => by subst e; rw [hx] at hy; cases hy; exact hxy rfl
          rw [show decide (l = m) = false by simp [this]] at hR
          exact hR
      · simp (disch := first | omega | (show allOne _ = true; simp [allOne, Value.oneCell']) | (simp only [List.length_cons, List.length_nil, List.length_set, List.length_map, List.length_replicate, List.length_append, List.length_take, List.length_drop, Int.toNat_natCast, Int.toNat_of_nonneg, nx_push, nx_set, nx_kill]; done) | (simp only [List.length_cons, List.length_nil, List.length_set, List.length_map, List.length_replicate, List.length_append, List.length_take, List.length_drop, Int.toNat_natCast, Int.toNat_of_nonneg, nx_push, nx_set, nx_kill]; omega)) only [go_sem, reduceCtorEq, Nat.reduceAdd, Nat.reduceSub, Nat.reduceMul, Nat.reduceLT, Nat.reduceLeDiff, Nat.reduceEqDiff, Nat.reduceBEq, Nat.reduceBNe, Int.reduceBEq, Int.reduceEq, Int.reduceLT, Int.reduceLE, Int.reduceAdd, Int.reduceSub, ↓reduceIte, Int.reduceToNat, Nat.reduceShiftRight, Nat.reduceAnd]
        have : l = m := by
          apply List.ext_getElem?
          intro j
          rcases Nat.lt_or_ge j i with h | h
          · exact heq j h
          · rw [List.getElem?_eq_none_iff.2 (by omega), List.getElem?_eq_none_iff.2 (by omega)]
        rw [show decide (l = m) = true by simp [this]] at hR
        exact hR
  · simp (disch := first | omega | (show allOne _ = true; simp [allOne, Value.oneCell']) | (simp only [List.length_cons, List.length_nil, List.length_set, List.length_map, List.length_replicate, List.length_append, List.length_take, List.length_drop, Int.toNat_natCast, Int.toNat_of_nonneg, nx_push, nx_set, nx_kill]; done) | (simp only [List.length_cons, List.length_nil, List.length_set, List.length_map, List.length_replicate, List.length_append, List.length_take, List.length_drop, Int.toNat_natCast, Int.toNat_of_nonneg, nx_push, nx_set, nx_kill]; omega)) only [go_sem, reduceCtorEq, Nat.reduceAdd, Nat.reduceSub, Nat.reduceMul, Nat.reduceLT, Nat.reduceLeDiff, Nat.reduceEqDiff, Nat.reduceBEq, Nat.reduceBNe, Int.reduceBEq, Int.reduceEq, Int.reduceLT, Int.reduceLE, Int.reduceAdd, Int.reduceSub, ↓reduceIte, Int.reduceToNat, Nat.reduceShiftRight, Nat.reduceAnd, e1, e2]
    have : l ≠ m := fun e => hlm (by rw [e])
    rw [show decide (l = m) = false by simp [this]] at hR
    exact hR

theorem law_MoveMore (H : HHeap) (v : Value) (roots0 : List Nat) (hv : HeapArg H v roots0) (at_ : Nat) (hat : at_ < 256) (R : Value → HHeap → Prop) (hR : ∀ H', R (.bool true) H') : HCalls Try.prog 8 [v, .int .u8 at_] H R := by
  refine HCalls.ok fun hok => ?_
  have hv1 := hv
  obtain ⟨⟨size, tv0, rv0, kk, cells, rfl, _, ⟨_, _, ta, tc, rfl, _⟩, ⟨_, _, ra, rc, rfl, _⟩, _⟩, _⟩ := hv1
  refine HCalls.of_hw Try.func8 rfl _ Try.ntmps8 _ (by rw [Try.results8]) ?_
  rw [hframe0_eq _ _ (by simp)]
  simp only [List.zipIdx_cons, List.zipIdx_nil, List.map_cons, List.map_nil, Nat.reduceAdd]
  simp (disch := first | omega | (show allOne _ = true; simp [allOne, Value.oneCell']) | (simp only [List.length_cons, List.length_nil, List.length_set, List.length_map, List.length_replicate, List.length_append, List.length_take, List.length_drop, Int.toNat_natCast, Int.toNat_of_nonneg, nx_push, nx_set, nx_kill]; done) | (simp only [List.length_cons, List.length_nil, List.length_set, List.length_map, List.length_replicate, List.length_append, List.length_take, List.length_drop, Int.toNat_natCast, Int.toNat_of_nonneg, nx_push, nx_set, nx_kill]; omega)) only [go_sem, reduceCtorEq, Nat.reduceAdd, Nat.reduceSub, Nat.reduceMul, Nat.reduceLT, Nat.reduceLeDiff, Nat.reduceEqDiff, Nat.reduceBEq, Nat.reduceBNe, Int.reduceBEq, Int.reduceEq, Int.reduceLT, Int.reduceLE, Int.reduceAdd, Int.reduceSub, ↓reduceIte, Int.reduceToNat, Nat.reduceShiftRight, Nat.reduceAnd, hbox_agg]
  
  refine law_shown _ _ ?_
  intro H0 hk0 hn0
  rw [nx_push] at hk0 hn0
  have hb0 : H0.get H.next = some (.cells [I size, .slice ta kk tc, .slice ra roots0.length rc] true) := by rw [hk0 _ (by omega)]; simp (disch := first | omega | (simp only [nx_push, nx_set, nx_kill]; done) | (simp only [nx_push, nx_set, nx_kill]; omega)) only [get_push_ne, get_push_eq, get_set_ne, get_set_eq, get_kill_ne, nx_push, nx_set, nx_kill]
  have hv0 : HeapArg H0 (.agg #[I size, .slice ta kk tc, .slice ra roots0.length rc]) roots0 := hv.old hok (fun b hb => by rw [hk0 b (by omega)]; simp (disch := first | omega | (simp only [nx_push, nx_set, nx_kill]; done) | (simp only [nx_push, nx_set, nx_kill]; omega)) only [get_push_ne, get_push_eq, get_set_ne, get_set_eq, get_kill_ne, nx_push, nx_set, nx_kill])
  have h3 : ∀ x y z : Value, ([x, y, z].drop 0).take 3 = [x, y, z] := fun _ _ _ => rfl
  simp (disch := first | omega | (show allOne _ = true; simp [allOne, Value.oneCell']) | (simp only [List.length_cons, List.length_nil, List.length_set, List.length_map, List.length_replicate, List.length_append, List.length_take, List.length_drop, Int.toNat_natCast, Int.toNat_of_nonneg, nx_push, nx_set, nx_kill]; done) | (simp only [List.length_cons, List.length_nil, List.length_set, List.length_map, List.length_replicate, List.length_append, List.length_take, List.length_drop, Int.toNat_natCast, Int.toNat_of_nonneg, nx_push, nx_set, nx_kill]; omega)) only [go_sem, reduceCtorEq, Nat.reduceAdd, Nat.reduceSub, Nat.reduceMul, Nat.reduceLT, Nat.reduceLeDiff, Nat.reduceEqDiff, Nat.reduceBEq, Nat.reduceBNe, Int.reduceBEq, Int.reduceEq, Int.reduceLT, Int.reduceLE, Int.reduceAdd, Int.reduceSub, ↓reduceIte, Int.reduceToNat, Nat.reduceShiftRight, Nat.reduceAnd, hb0, lda_cells, h3]
  refine law_build _ _ roots0 hv0 _ ?_
  intro H1 n g gw gh gr T tv lvs rv n1 n2 hA hRf hrv hk1 hn1 hg hsep
  simp (disch := first | omega | (show allOne _ = true; simp [allOne, Value.oneCell']) | (simp only [List.length_cons, List.length_nil, List.length_set, List.length_map, List.length_replicate, List.length_append, List.length_take, List.length_drop, Int.toNat_natCast, Int.toNat_of_nonneg, nx_push, nx_set, nx_kill]; done) | (simp only [List.length_cons, List.length_nil, List.length_set, List.length_map, List.length_replicate, List.length_append, List.length_take, List.length_drop, Int.toNat_natCast, Int.toNat_of_nonneg, nx_push, nx_set, nx_kill]; omega)) only [go_sem, reduceCtorEq, Nat.reduceAdd, Nat.reduceSub, Nat.reduceMul, Nat.reduceLT, Nat.reduceLeDiff, Nat.reduceEqDiff, Nat.reduceBEq, Nat.reduceBNe, Int.reduceBEq, Int.reduceEq, Int.reduceLT, Int.reduceLE, Int.reduceAdd, Int.reduceSub, ↓reduceIte, Int.reduceToNat, Nat.reduceShiftRight, Nat.reduceAnd]
  generalize hrs : roots0.take 20 = roots at hrv
  have hrt : ∀ x ∈ roots, x < 18446744073709551616 := fun x hx => hv.lt x (by rw [← hrs] at hx; exact List.mem_of_mem_take hx)
  have hr20 : roots.length ≤ 20 := by rw [← hrs]; simp; omega
  obtain ⟨r, hr⟩ : ∃ r, r = (roots.map U).length := ⟨_, rfl⟩
  have hrr : r = roots.length := by rw [hr]; simp
  obtain ⟨a, c, hrv1, _⟩ := id hrv
  rw [← hr] at hrv1
  subst hrv1
  obtain ⟨k, hk⟩ : ∃ k : Nat, (at_ : Int) % ((r : Int) + 1) = (k : Int) := ⟨((at_ : Int) % ((r : Int) + 1)).toNat, by rw [Int.toNat_of_nonneg (Int.emod_nonneg _ (by omega))]⟩
  have hkr : k ≤ r := by have := Int.emod_lt_of_pos (at_ : Int) (show (0 : Int) < (r : Int) + 1 by omega); omega
  have hkr' : k ≤ (roots.map U).length := by omega
  obtain ⟨s1, q1, q1r, _⟩ := hrv.hi Try.underlying23 sz42 (k := .i64) (m := k) hkr'
  obtain ⟨s2, q2, q2r, _⟩ := hrv.lo Try.underlying23 sz42 (k := .i64) (m := k) hkr'
  rw [← List.map_take] at q1r
  rw [← List.map_drop] at q2r
  obtain ⟨a1, c1, hs1, _⟩ := id q1r
  obtain ⟨a2, c2, hs2, _⟩ := id q2r
  simp (disch := first | omega | (show allOne _ = true; simp [allOne, Value.oneCell']) | (simp only [List.length_cons, List.length_nil, List.length_set, List.length_map, List.length_replicate, List.length_append, List.length_take, List.length_drop, Int.toNat_natCast, Int.toNat_of_nonneg, nx_push, nx_set, nx_kill]; done) | (simp only [List.length_cons, List.length_nil, List.length_set, List.length_map, List.length_replicate, List.length_append, List.length_take, List.length_drop, Int.toNat_natCast, Int.toNat_of_nonneg, nx_push, nx_set, nx_kill]; omega)) only [go_sem, reduceCtorEq, Nat.reduceAdd, Nat.reduceSub, Nat.reduceMul, Nat.reduceLT, Nat.reduceLeDiff, Nat.reduceEqDiff, Nat.reduceBEq, Nat.reduceBNe, Int.reduceBEq, Int.reduceEq, Int.reduceLT, Int.reduceLE, Int.reduceAdd, Int.reduceSub, ↓reduceIte, Int.reduceToNat, Nat.reduceShiftRight, Nat.reduceAnd, hk]
  refine Hwp.ok fun hok1 => ?_
  obtain ⟨lg1, lg2, lg3⟩ := hA.lt hok1
  refine Hwp.drawn mixed [0, 0, 0, 6, 15, 0, 0, 0, 192, 511, 0, 0, 4095, 8191, 16383, 32767] (.op 0 (.op 1 (.op 2 (.op 3 (.op 5 (.op 6 (.op 7 (.op 8 (.op 10 (.op 11 (.eff 4 (.eff 9 (.eff 12 (.op 13 (.op 14 (.op 15 .done))) .stop) .stop) .stop))))))))))) (by kernel_rfl) ?_
  simp (disch := first | omega | (show allOne _ = true; simp [allOne, Value.oneCell']) | (simp only [List.length_cons, List.length_nil, List.length_set, List.length_map, List.length_replicate, List.length_append, List.length_take, List.length_drop, Int.toNat_natCast, Int.toNat_of_nonneg, nx_push, nx_set, nx_kill]; done) | (simp only [List.length_cons, List.length_nil, List.length_set, List.length_map, List.length_replicate, List.length_append, List.length_take, List.length_drop, Int.toNat_natCast, Int.toNat_of_nonneg, nx_push, nx_set, nx_kill]; omega)) only [go_sem, reduceCtorEq, Nat.reduceAdd, Nat.reduceSub, Nat.reduceMul, Nat.reduceLT, Nat.reduceLeDiff, Nat.reduceEqDiff, Nat.reduceBEq, Nat.reduceBNe, Int.reduceBEq, Int.reduceEq, Int.reduceLT, Int.reduceLE, Int.reduceAdd, Int.reduceSub, ↓reduceIte, Int.reduceToNat, Nat.reduceShiftRight, Nat.reduceAnd, q1, q2]
  have hru := hA.room
  have hbig : usedOf T ≤ 65536 := by omega
  have hcl := bfs_closed T roots
  have hrF : ∀ w ∈ roots, ∀ i, findI T w = some i → i ∈ bfs T roots := fun w hw i hi => bfs_root hw hi
  have m1 : sumR T (bfs T (roots.take k)) ≤ sumR T (bfs T roots) := sumR_mono _ _ (bfs_nodup _ _) (bfs_mono fun w hw => List.mem_of_mem_take hw)
  have m2 : sumR T (bfs T (roots.drop k)) ≤ sumR T (bfs T roots) := sumR_mono _ _ (bfs_nodup _ _) (bfs_mono fun w hw => List.mem_of_mem_drop hw)
  have m3 : sumR T (bfs T roots) ≤ sumR T (bfs T (roots.take k)) + sumR T (bfs T (roots.drop k)) := by
    have := sumR_union (T := T) (a := roots.take k) (b := roots.drop k)
    rwa [List.take_append_drop] at this
  have m4 : sumR T (bfs T roots) ≤ usedOf T := sumR_le T _ (bfs_nodup _ _) hcl.lt
  have m5 : sumR (outT T (bfs T roots)) (bfs (outT T (bfs T roots)) ((roots.take k).map (tr T (bfs T roots)))) = sumR T (bfs T (roots.take k)) := by
    rw [tr_bfs hcl hbig (fun w hw i hi => hrF w (List.mem_of_mem_take hw) i hi), tr_sumR _ (bfs_mono fun w hw => List.mem_of_mem_take hw)]
  have m6 : sumR (outT T (bfs T roots)) (bfs (outT T (bfs T roots)) ((roots.drop k).map (tr T (bfs T roots)))) = sumR T (bfs T (roots.drop k)) := by
    rw [tr_bfs hcl hbig (fun w hw i hi => hrF w (List.mem_of_mem_drop hw) i hi), tr_sumR _ (bfs_mono fun w hw => List.mem_of_mem_drop hw)]
  generalize hx : sumR T (bfs T (roots.take k)) = x at m1 m3 m5
  generalize hy : sumR T (bfs T (roots.drop k)) = y at m2 m3 m6
  generalize hz : sumR T (bfs T roots) = z at m1 m2 m3 m4
  refine move_Reach _ _ _ _ _ _ hA ⟨lg1, lg2, lg3⟩ _ _ (q1r.row hok1) (fun w hw => hrt w (List.mem_of_mem_take hw)) (by simp; omega) _ ?_
  intro H2 hk2 hn2
  rw [hx]
  have hA2 : AtA H2 g gw gh n T := hA.frame (by rintro b (rfl | rfl | rfl) <;> exact hk2 _ (by omega))
  simp (disch := first | omega | (show allOne _ = true; simp [allOne, Value.oneCell']) | (simp only [List.length_cons, List.length_nil, List.length_set, List.length_map, List.length_replicate, List.length_append, List.length_take, List.length_drop, Int.toNat_natCast, Int.toNat_of_nonneg, nx_push, nx_set, nx_kill]; done) | (simp only [List.length_cons, List.length_nil, List.length_set, List.length_map, List.length_replicate, List.length_append, List.length_take, List.length_drop, Int.toNat_natCast, Int.toNat_of_nonneg, nx_push, nx_set, nx_kill]; omega)) only [go_sem, reduceCtorEq, Nat.reduceAdd, Nat.reduceSub, Nat.reduceMul, Nat.reduceLT, Nat.reduceLeDiff, Nat.reduceEqDiff, Nat.reduceBEq, Nat.reduceBNe, Int.reduceBEq, Int.reduceEq, Int.reduceLT, Int.reduceLE, Int.reduceAdd, Int.reduceSub, ↓reduceIte, Int.reduceToNat, Nat.reduceShiftRight, Nat.reduceAnd]
  refine HCalls.ok fun hok2 => ?_
  refine move_Reach _ _ _ _ _ _ hA2 (hA2.lt hok2) _ _ ((q2r.old hok1 hk2).row hok2) (fun w hw => hrt w (List.mem_of_mem_drop hw)) (by simp; omega) _ ?_
  intro H3 hk3 hn3
  rw [hy]
  have hk3' : ∀ b, b < H1.next → H3.get b = H1.get b := fun b hb => by rw [hk3 b (by omega), hk2 b hb]
  have hA3 : AtA H3 g gw gh n T := hA.frame (by rintro b (rfl | rfl | rfl) <;> exact hk3' _ (by omega))
  simp (disch := first | omega | (show allOne _ = true; simp [allOne, Value.oneCell']) | (simp only [List.length_cons, List.length_nil, List.length_set, List.length_map, List.length_replicate, List.length_append, List.length_take, List.length_drop, Int.toNat_natCast, Int.toNat_of_nonneg, nx_push, nx_set, nx_kill]; done) | (simp only [List.length_cons, List.length_nil, List.length_set, List.length_map, List.length_replicate, List.length_append, List.length_take, List.length_drop, Int.toNat_natCast, Int.toNat_of_nonneg, nx_push, nx_set, nx_kill]; omega)) only [go_sem, reduceCtorEq, Nat.reduceAdd, Nat.reduceSub, Nat.reduceMul, Nat.reduceLT, Nat.reduceLeDiff, Nat.reduceEqDiff, Nat.reduceBEq, Nat.reduceBNe, Int.reduceBEq, Int.reduceEq, Int.reduceLT, Int.reduceLE, Int.reduceAdd, Int.reduceSub, ↓reduceIte, Int.reduceToNat, Nat.reduceShiftRight, Nat.reduceAnd]
  refine HCalls.ok fun hok3 => ?_
  refine move_Reach _ _ _ _ _ _ hA3 (hA3.lt hok3) _ _ ((hrv.old hok1 hk3').row hok3) hrt (by omega) _ ?_
  intro H4 hk4 hn4
  rw [hz]
  have hk4' : ∀ b, b < H1.next → H4.get b = H1.get b := fun b hb => by rw [hk4 b (by omega), hk3' b hb]
  have hA4 : AtA H4 g gw gh n T := hA.frame (by rintro b (rfl | rfl | rfl) <;> exact hk4' _ (by omega))
  simp (disch := first | omega | (show allOne _ = true; simp [allOne, Value.oneCell']) | (simp only [List.length_cons, List.length_nil, List.length_set, List.length_map, List.length_replicate, List.length_append, List.length_take, List.length_drop, Int.toNat_natCast, Int.toNat_of_nonneg, nx_push, nx_set, nx_kill]; done) | (simp only [List.length_cons, List.length_nil, List.length_set, List.length_map, List.length_replicate, List.length_append, List.length_take, List.length_drop, Int.toNat_natCast, Int.toNat_of_nonneg, nx_push, nx_set, nx_kill]; omega)) only [go_sem, reduceCtorEq, Nat.reduceAdd, Nat.reduceSub, Nat.reduceMul, Nat.reduceLT, Nat.reduceLeDiff, Nat.reduceEqDiff, Nat.reduceBEq, Nat.reduceBNe, Int.reduceBEq, Int.reduceEq, Int.reduceLT, Int.reduceLE, Int.reduceAdd, Int.reduceSub, ↓reduceIte, Int.reduceToNat, Nat.reduceShiftRight, Nat.reduceAnd]
  refine HCalls.ok fun hok4 => ?_
  refine move_Live _ _ _ _ _ _ hA4 (hA4.lt hok4) _ _ ((hrv.old hok1 hk4').row hok4) hrt (by omega) _ ?_
  intro H5 g' gw' gh' v5 hB hV hk5 hn5 hnew hlt5 hvb
  simp (disch := first | omega | (show allOne _ = true; simp [allOne, Value.oneCell']) | (simp only [List.length_cons, List.length_nil, List.length_set, List.length_map, List.length_replicate, List.length_append, List.length_take, List.length_drop, Int.toNat_natCast, Int.toNat_of_nonneg, nx_push, nx_set, nx_kill]; done) | (simp only [List.length_cons, List.length_nil, List.length_set, List.length_map, List.length_replicate, List.length_append, List.length_take, List.length_drop, Int.toNat_natCast, Int.toNat_of_nonneg, nx_push, nx_set, nx_kill]; omega)) only [go_sem, reduceCtorEq, Nat.reduceAdd, Nat.reduceSub, Nat.reduceMul, Nat.reduceLT, Nat.reduceLeDiff, Nat.reduceEqDiff, Nat.reduceBEq, Nat.reduceBNe, Int.reduceBEq, Int.reduceEq, Int.reduceLT, Int.reduceLE, Int.reduceAdd, Int.reduceSub, ↓reduceIte, Int.reduceToNat, Nat.reduceShiftRight, Nat.reduceAnd]
  have hk5' : ∀ b, b < H1.next → H5.get b = H1.get b := fun b hb => by rw [hk5 b (by omega), hk4' b hb]
  have hA5 : AtA H5 g gw gh n T := hA.frame (by rintro b (rfl | rfl | rfl) <;> exact hk5' _ (by omega))
  have hbu := outT_used T (bfs T roots)
  rw [hz] at hbu
  generalize outT T (bfs T roots) = T' at hB m5 m6 hbu
  generalize htl : roots.map (tr T (bfs T roots)) = l' at hV
  have htk : (roots.take k).map (tr T (bfs T roots)) = l'.take k := by rw [← htl, List.map_take]
  have htd : (roots.drop k).map (tr T (bfs T roots)) = l'.drop k := by rw [← htl, List.map_drop]
  have hl' : l'.length = r := by rw [← htl]; simp [hrr]
  have hlt' : ∀ w ∈ l', w < 18446744073709551616 := by
    intro w hw
    rw [← htl] at hw
    obtain ⟨u, hu, rfl⟩ := List.mem_map.1 hw
    exact tr_lt (bfs_nodup _ _) hcl.lt hbig (hrt u hu) (hrF u hu)
  rw [htk] at m5
  rw [htd] at m6
  have hvs : RowS H5 v5 (l'.map U) := by
    rcases hV with ⟨h1, h2⟩ | ⟨b, h1, h2, h3, h4⟩
    · subst h1; subst h2; exact RowS.of_gr (GrAt.nil _ _)
    · exact RowS.of_gr (n := l'.length) ⟨by simp, .inr ⟨b, fun e => h1 (List.eq_nil_of_length_eq_zero e), h2, h4⟩⟩
  obtain ⟨a5, c5, hv5, _⟩ := id hvs
  rw [List.length_map, hl'] at hv5
  subst hv5
  have hkl' : k ≤ (l'.map U).length := by simp; omega
  obtain ⟨s3, q3, q3r, _⟩ := hvs.hi Try.underlying23 sz42 (k := .i64) (m := k) hkl'
  obtain ⟨s4, q4, q4r, _⟩ := hvs.lo Try.underlying23 sz42 (k := .i64) (m := k) hkl'
  rw [← List.map_take] at q3r
  rw [← List.map_drop] at q4r
  simp (disch := first | omega | (show allOne _ = true; simp [allOne, Value.oneCell']) | (simp only [List.length_cons, List.length_nil, List.length_set, List.length_map, List.length_replicate, List.length_append, List.length_take, List.length_drop, Int.toNat_natCast, Int.toNat_of_nonneg, nx_push, nx_set, nx_kill]; done) | (simp only [List.length_cons, List.length_nil, List.length_set, List.length_map, List.length_replicate, List.length_append, List.length_take, List.length_drop, Int.toNat_natCast, Int.toNat_of_nonneg, nx_push, nx_set, nx_kill]; omega)) only [go_sem, reduceCtorEq, Nat.reduceAdd, Nat.reduceSub, Nat.reduceMul, Nat.reduceLT, Nat.reduceLeDiff, Nat.reduceEqDiff, Nat.reduceBEq, Nat.reduceBNe, Int.reduceBEq, Int.reduceEq, Int.reduceLT, Int.reduceLE, Int.reduceAdd, Int.reduceSub, ↓reduceIte, Int.reduceToNat, Nat.reduceShiftRight, Nat.reduceAnd]
  obtain ⟨mx, hmx, hmax⟩ : ∃ mx : Nat, mx = max x y ∧ hmax2 (.int .i64 (x : Int)) (.int .i64 (y : Int)) = some (.int .i64 (mx : Int)) := ⟨_, rfl, by unfold hmax2; simp only; split <;> (congr 2; omega)⟩
  simp (disch := first | omega | (show allOne _ = true; simp [allOne, Value.oneCell']) | (simp only [List.length_cons, List.length_nil, List.length_set, List.length_map, List.length_replicate, List.length_append, List.length_take, List.length_drop, Int.toNat_natCast, Int.toNat_of_nonneg, nx_push, nx_set, nx_kill]; done) | (simp only [List.length_cons, List.length_nil, List.length_set, List.length_map, List.length_replicate, List.length_append, List.length_take, List.length_drop, Int.toNat_natCast, Int.toNat_of_nonneg, nx_push, nx_set, nx_kill]; omega)) only [go_sem, reduceCtorEq, Nat.reduceAdd, Nat.reduceSub, Nat.reduceMul, Nat.reduceLT, Nat.reduceLeDiff, Nat.reduceEqDiff, Nat.reduceBEq, Nat.reduceBNe, Int.reduceBEq, Int.reduceEq, Int.reduceLT, Int.reduceLE, Int.reduceAdd, Int.reduceSub, ↓reduceIte, Int.reduceToNat, Nat.reduceShiftRight, Nat.reduceAnd, hmax]
  refine arena_Used _ _ _ _ _ _ hA5 _ ?_
  simp (disch := first | omega | (show allOne _ = true; simp [allOne, Value.oneCell']) | (simp only [List.length_cons, List.length_nil, List.length_set, List.length_map, List.length_replicate, List.length_append, List.length_take, List.length_drop, Int.toNat_natCast, Int.toNat_of_nonneg, nx_push, nx_set, nx_kill]; done) | (simp only [List.length_cons, List.length_nil, List.length_set, List.length_map, List.length_replicate, List.length_append, List.length_take, List.length_drop, Int.toNat_natCast, Int.toNat_of_nonneg, nx_push, nx_set, nx_kill]; omega)) only [go_sem, reduceCtorEq, Nat.reduceAdd, Nat.reduceSub, Nat.reduceMul, Nat.reduceLT, Nat.reduceLeDiff, Nat.reduceEqDiff, Nat.reduceBEq, Nat.reduceBNe, Int.reduceBEq, Int.reduceEq, Int.reduceLT, Int.reduceLE, Int.reduceAdd, Int.reduceSub, ↓reduceIte, Int.reduceToNat, Nat.reduceShiftRight, Nat.reduceAnd]
  refine arena_Used _ _ _ _ _ _ hB _ ?_
  simp (disch := first | omega | (show allOne _ = true; simp [allOne, Value.oneCell']) | (simp only [List.length_cons, List.length_nil, List.length_set, List.length_map, List.length_replicate, List.length_append, List.length_take, List.length_drop, Int.toNat_natCast, Int.toNat_of_nonneg, nx_push, nx_set, nx_kill]; done) | (simp only [List.length_cons, List.length_nil, List.length_set, List.length_map, List.length_replicate, List.length_append, List.length_take, List.length_drop, Int.toNat_natCast, Int.toNat_of_nonneg, nx_push, nx_set, nx_kill]; omega)) only [go_sem, reduceCtorEq, Nat.reduceAdd, Nat.reduceSub, Nat.reduceMul, Nat.reduceLT, Nat.reduceLeDiff, Nat.reduceEqDiff, Nat.reduceBEq, Nat.reduceBNe, Int.reduceBEq, Int.reduceEq, Int.reduceLT, Int.reduceLE, Int.reduceAdd, Int.reduceSub, ↓reduceIte, Int.reduceToNat, Nat.reduceShiftRight, Nat.reduceAnd, hbu, q3]
  refine HCalls.ok fun hok5 => ?_
  refine move_Reach _ _ _ _ _ _ hB hlt5 _ _ (q3r.row hok5) (fun w hw => hlt' w (List.mem_of_mem_take hw)) (by simp; omega) _ ?_
  intro H6 hk6 hn6
  rw [m5]
  simp (disch := first | omega | (show allOne _ = true; simp [allOne, Value.oneCell']) | (simp only [List.length_cons, List.length_nil, List.length_set, List.length_map, List.length_replicate, List.length_append, List.length_take, List.length_drop, Int.toNat_natCast, Int.toNat_of_nonneg, nx_push, nx_set, nx_kill]; done) | (simp only [List.length_cons, List.length_nil, List.length_set, List.length_map, List.length_replicate, List.length_append, List.length_take, List.length_drop, Int.toNat_natCast, Int.toNat_of_nonneg, nx_push, nx_set, nx_kill]; omega)) only [go_sem, reduceCtorEq, Nat.reduceAdd, Nat.reduceSub, Nat.reduceMul, Nat.reduceLT, Nat.reduceLeDiff, Nat.reduceEqDiff, Nat.reduceBEq, Nat.reduceBNe, Int.reduceBEq, Int.reduceEq, Int.reduceLT, Int.reduceLE, Int.reduceAdd, Int.reduceSub, ↓reduceIte, Int.reduceToNat, Nat.reduceShiftRight, Nat.reduceAnd, q4]
  refine HCalls.ok fun hok6 => ?_
  have hB6 : AtA H6 g' gw' gh' n T' := hB.frame (by rintro b (rfl | rfl | rfl) <;> exact hk6 _ (by omega))
  refine move_Reach _ _ _ _ _ _ hB6 (hB6.lt hok6) _ _ ((q4r.old hok5 hk6).row hok6) (fun w hw => hlt' w (List.mem_of_mem_drop hw)) (by simp; omega) _ ?_
  intro H7 hk7 hn7
  rw [m6]
  simp (disch := first | omega | (show allOne _ = true; simp [allOne, Value.oneCell']) | (simp only [List.length_cons, List.length_nil, List.length_set, List.length_map, List.length_replicate, List.length_append, List.length_take, List.length_drop, Int.toNat_natCast, Int.toNat_of_nonneg, nx_push, nx_set, nx_kill]; done) | (simp only [List.length_cons, List.length_nil, List.length_set, List.length_map, List.length_replicate, List.length_append, List.length_take, List.length_drop, Int.toNat_natCast, Int.toNat_of_nonneg, nx_push, nx_set, nx_kill]; omega)) only [go_sem, reduceCtorEq, Nat.reduceAdd, Nat.reduceSub, Nat.reduceMul, Nat.reduceLT, Nat.reduceLeDiff, Nat.reduceEqDiff, Nat.reduceBEq, Nat.reduceBNe, Int.reduceBEq, Int.reduceEq, Int.reduceLT, Int.reduceLE, Int.reduceAdd, Int.reduceSub, ↓reduceIte, Int.reduceToNat, Nat.reduceShiftRight, Nat.reduceAnd]
  exact hR _
end Go.HL
/-
  A thing more behind what was brought: plain Lean.
-/
namespace Go.HL
set_option linter.unusedSimpArgs false
set_option linter.unusedVariables false

theorem ixP_append : ∀ (T T' : Things) (p i : Nat), ixP T p = some i → ixP (T ++ T') p = some i
  | [], _, _, _, h => by simp [ixP] at h
  | t :: T, T', p, i, h => by
    rw [ixP] at h
    rw [List.cons_append, ixP]
    by_cases h0 : p = 0
    · rw [if_pos h0] at h ⊢; exact h
    · rw [if_neg h0] at h ⊢
      by_cases h1 : p < t.room
      · rw [if_pos h1] at h; cases h
      · rw [if_neg h1] at h ⊢
        rw [Option.map_eq_some_iff] at h ⊢
        obtain ⟨j, hj, rfl⟩ := h
        exact ⟨j, ixP_append T T' _ j hj, rfl⟩
theorem findI_append {T T' : Things} {w i : Nat} (h : findI T w = some i) : findI (T ++ T') w = some i := by
  unfold findI at h ⊢
  split at h
  · rename_i h8; rw [if_pos h8]; exact ixP_append _ _ _ _ h
  · cases h
theorem findI_more {T T' : Things} {w : Nat} (hu : usedOf (T ++ T') ≤ 65536) (hc : Clean T w) : findI (T ++ T') w = findI T w := by
  cases h : findI T w with
  | some i => exact findI_append h
  | none => exact bare_none hu (hc h)
theorem wordsI_append {T T' : Things} {i : Nat} (h : i < T.length) : wordsI (T ++ T') i = wordsI T i := by unfold wordsI; rw [List.getElem?_append_left h]
theorem wordsI_mem {T : Things} {i w : Nat} (h : w ∈ wordsI T i) : ∃ t ∈ T, w ∈ t.l := by
  unfold wordsI at h
  cases e : T[i]? with
  | none => rw [e] at h; simp at h
  | some t => rw [e] at h; exact ⟨t, List.mem_of_getElem? e, h⟩

theorem more_thing {T : Things} {l : List Nat} {t : Thing} (hu : usedOf (T ++ [t]) ≤ 65536) (hr : bfs T l = List.range T.length) (hc : ∀ w ∈ l, Clean T w) (hcT : ∀ u ∈ T, ∀ w ∈ u.l, Clean T w) (ht : ∀ w ∈ t.l, w % 8 ≠ 1) :
    sumR (T ++ [t]) (bfs (T ++ [t]) (l ++ [wordAt (usedOf T)])) = usedOf (T ++ [t]) ∧
    l.map (tr (T ++ [t]) (bfs (T ++ [t]) (l ++ [wordAt (usedOf T)]))) = l ∧
    kindN (outT (T ++ [t]) (bfs (T ++ [t]) (l ++ [wordAt (usedOf T)]))) (tr (T ++ [t]) (bfs (T ++ [t]) (l ++ [wordAt (usedOf T)])) (wordAt (usedOf T))) = t.kind := by
  have hlen : (T ++ [t]).length = T.length + 1 := by simp
  have hpl : placeOf (T ++ [t]) T.length = usedOf T := by unfold placeOf; rw [List.take_left]
  have hfn : findI (T ++ [t]) (wordAt (usedOf T)) = some T.length := by rw [← hpl]; exact word_findI (by omega)
  have hcl := bfs_closed (T ++ [t]) (l ++ [wordAt (usedOf T)])
  have hfl : ∀ w ∈ l, findI (T ++ [t]) w = findI T w := fun w hw => findI_more hu (hc w hw)
  have hall : ∀ i, i < T.length + 1 → i ∈ bfs (T ++ [t]) (l ++ [wordAt (usedOf T)]) := by
    intro i hi
    rcases Nat.lt_or_ge i T.length with h | h
    · have hm : i ∈ bfs T l := by rw [hr]; simpa using h
      have hre := (bfs_mem T l i).1 hm
      clear hm h hi
      induction hre with
      | root w i hw hi => exact bfs_root (List.mem_append_left _ hw) (findI_append hi)
      | next j w i hj hw hi ih => exact hcl.step j ih w (by rw [wordsI_append (reached_lt hj)]; exact hw) i (findI_append hi)
    · rw [show i = T.length by omega]
      exact bfs_root (by simp) hfn
  refine ⟨?_, ?_, ?_⟩
  · have : sumR (T ++ [t]) (bfs (T ++ [t]) (l ++ [wordAt (usedOf T)])) = sumR (T ++ [t]) (List.range (T ++ [t]).length) := by
      refine sumR_same hcl.nodup List.nodup_range (fun x => ⟨fun hx => by have := hcl.lt x hx; simpa using this, fun hx => hall x (by simpa [hlen] using hx)⟩)
    rw [this, sumR_range _ _ (Nat.le_refl _)]
    unfold placeOf; rw [List.take_length]
  · -- the first ones
    have hst : stepAll (T ++ [t]) [] l = stepAll T [] l := by
      have : ∀ (ws ord : List Nat), (∀ w ∈ ws, w ∈ l) → stepAll (T ++ [t]) ord ws = stepAll T ord ws := by
        intro ws
        induction ws with
        | nil => intro ord _; rfl
        | cons w ws ih =>
          intro ord h
          have := ih (stepO T ord w) (fun x hx => h x (by simp [hx]))
          unfold stepAll at this ⊢
          rw [List.foldl_cons, List.foldl_cons, ← this]
          unfold stepO
          rw [hfl w (h w (by simp))]
      exact this l [] (fun _ h => h)
    obtain ⟨e1, he1⟩ := scan_sub (T := T) (T.length + 1) 0 (stepAll T [] l)
    have hpre : stepAll T [] l ++ e1 = List.range T.length := by rw [← he1]; exact hr
    obtain ⟨r, hr1, hr2⟩ : ∃ r, stepAll T [] l = List.range r ∧ r ≤ T.length := by
      refine ⟨(stepAll T [] l).length, ?_, ?_⟩
      · have := congrArg (List.take (stepAll T [] l).length) hpre
        rw [List.take_left] at this
        rw [this, List.take_range, List.length_range]
      · have := congrArg List.length hpre
        simp at this; omega
    have hF : ∃ e2, bfs (T ++ [t]) (l ++ [wordAt (usedOf T)]) = List.range r ++ e2 := by
      unfold bfs
      obtain ⟨e2, he2⟩ := scan_sub (T := T ++ [t]) ((T ++ [t]).length + 1) 0 (stepAll (T ++ [t]) [] (l ++ [wordAt (usedOf T)]))
      rw [he2]
      obtain ⟨e3, he3⟩ := stepAll_sub (T := T ++ [t]) [wordAt (usedOf T)] (stepAll (T ++ [t]) [] l)
      have : stepAll (T ++ [t]) [] (l ++ [wordAt (usedOf T)]) = stepAll (T ++ [t]) (stepAll (T ++ [t]) [] l) [wordAt (usedOf T)] := by unfold stepAll; rw [List.foldl_append]
      rw [this, he3, hst, hr1, List.append_assoc]
      exact ⟨_, rfl⟩
    obtain ⟨e2, hF⟩ := hF
    rw [hF]
    conv => rhs; rw [← List.map_id l]
    apply List.map_congr_left
    intro w hw
    refine tr_stay e2 (by omega) (fun hn => hc w hw (by rw [← hfl w hw]; exact hn)) (fun i hi => ?_)
    rw [hfl w hw] at hi
    have : i ∈ stepAll T [] l := by rw [stepAll_mem]; exact .inr ⟨w, hw, hi⟩
    rw [hr1] at this; simpa using this
  · have h1 := tr_find hcl hu (w := wordAt (usedOf T)) (fun i hi => by rw [hfn] at hi; cases hi; exact hall _ (by omega))
    rw [hfn, Option.map_some] at h1
    unfold kindN
    rw [findT_findI, h1, Option.bind_some, outT_get (idxOf_mem (hall T.length (by omega)))]
    unfold fullThing
    rw [List.getElem?_append_right (Nat.le_refl _), Nat.sub_self]; rfl
end Go.HL
/-
  Rows from whose head one takes, and at whose end one adds.
-/
namespace Go.HL
set_option linter.unusedSimpArgs false
set_option linter.unusedVariables false

def QAt (H : HHeap) (v : Value) (l : List Nat) : Prop :=
  ∃ b o k cs, v = .slice (some ⟨b, o, k⟩) l.length l.length ∧ ((l = [] ∧ (k = none ∨ k = some 3)) ∨ k = some 2) ∧ H.get b = some (.cells cs true) ∧ o + l.length ≤ cs.length ∧ (cs.drop o).take l.length = l.map U

theorem QAt.frame {H H' : HHeap} {v : Value} {l : List Nat} (h : QAt H v l) (f : ∀ b ∈ sblk v, H'.get b = H.get b) : QAt H' v l := by
  obtain ⟨b, o, k, cs, rfl, h2, h3, h4, h5⟩ := h
  exact ⟨b, o, k, cs, rfl, h2, by rw [f b (by simp [sblk])]; exact h3, h4, h5⟩
theorem QAt.lt {H : HHeap} {v : Value} {l : List Nat} (h : QAt H v l) (ok : H.Ok) : ∀ b ∈ sblk v, b < H.next := by
  obtain ⟨b, o, k, cs, rfl, h2, h3, h4, h5⟩ := h
  intro x hx; simp [sblk] at hx; subst hx; exact ok _ _ h3
theorem QAt.rowS {H : HHeap} {v : Value} {l : List Nat} (h : QAt H v l) : RowS H v (l.map U) := by
  obtain ⟨b, o, k, cs, rfl, h2, h3, h4, h5⟩ := h
  refine ⟨_, l.length, by simp, by simp, .inr ⟨b, o, k, rfl, ?_, .inr ⟨cs, true, h3, fun i v hv => ?_⟩⟩⟩
  · rcases h2 with ⟨_, rfl | rfl⟩ | rfl
    · exact .inl rfl
    · exact .inr ⟨3, rfl, rfl⟩
    · exact .inr ⟨2, rfl, rfl⟩
  · have hi : i < l.length := by have := (List.getElem?_eq_some_iff.1 hv).1; simpa using this
    rw [← h5, List.getElem?_take, if_pos hi, List.getElem?_drop] at hv
    exact hv
theorem QAt.fresh {H : HHeap} {b : Nat} {l : List Nat} (h : H.get b = some (.cells (l.map U) true)) : QAt H (.slice (some ⟨b, 0, some 2⟩) l.length l.length) l :=
  ⟨b, 0, some 2, l.map U, rfl, .inr rfl, h, by simp, by rw [List.drop_zero, List.take_of_length_le (by simp)]⟩
theorem QAt.append {H : HHeap} {v : Value} {l : List Nat} (h : QAt H v l) {xs : List Nat} (hx : xs ≠ []) (hl : l.length + xs.length ≤ 1000000) :
    ∃ H', apd H 1 8 v (xs.map U, xs.length) = some (.slice (some ⟨H.next, 0, some 2⟩) (l.length + xs.length) (l.length + xs.length), H') ∧ QAt H' (.slice (some ⟨H.next, 0, some 2⟩) (l.length + xs.length) (l.length + xs.length)) (l ++ xs) ∧
      H'.next = H.next + 1 ∧ (∀ c, c ≠ H.next → c ∉ sblk v → H'.get c = H.get c) := by
  obtain ⟨b, o, k, cs, rfl, h2, h3, h4, h5⟩ := h
  have hxl : 0 < xs.length := by cases xs with | nil => exact absurd rfl hx | cons x l => simp
  have key : ∀ H' : HHeap, H'.get H.next = some (.cells (l.map U ++ xs.map U) true) → QAt H' (.slice (some ⟨H.next, 0, some 2⟩) (l.length + xs.length) (l.length + xs.length)) (l ++ xs) := fun H' hg =>
    ⟨H.next, 0, some 2, l.map U ++ xs.map U, by simp, .inr rfl, hg, by simp, by rw [List.drop_zero, List.take_of_length_le (by simp)]; simp⟩
  rw [apd_some _ _ _ _ _ _ _ _ _ hxl (by omega) (by omega), h3]
  unfold apo
  simp only
  rw [if_neg (by omega), if_pos (.inl (by omega))]
  simp only [Nat.mul_one, h5]
  rcases h2 with ⟨rfl, rfl | rfl⟩ | rfl
  · exact ⟨_, rfl, key _ (by simp [HHeap.get_push]), by simp, fun c hc _ => by simp [HHeap.get_push, hc]⟩
  · refine ⟨(H.kill b).push (.cells (([] : List Nat).map U ++ xs.map U) true), by simp, key _ (by simp [HHeap.get_push]), by simp, fun c hc hb => ?_⟩
    have : c ≠ b := by rintro rfl; exact hb (by simp [sblk])
    simp [HHeap.get_push, hc, HHeap.get_kill, this]
  · refine ⟨(H.kill b).push (.cells (l.map U ++ xs.map U) true), by simp, key _ (by simp [HHeap.get_push]), by simp, fun c hc hb => ?_⟩
    have : c ≠ b := by rintro rfl; exact hb (by simp [sblk])
    simp [HHeap.get_push, hc, HHeap.get_kill, this]
theorem QAt.pop {P : Program} {H : HHeap} {v : Value} {x : Nat} {l : List Nat} {t e : TypeId} (ht : P.underlying t = some (.slice e)) (hz : hsize P e = some 1) (h : QAt H v (x :: l)) :
    ∃ v', hslice P t v (some (.int .i64 1)) none none = some v' ∧ QAt H v' l ∧ sblk v' = sblk v ∧ ∃ a, v' = .slice a l.length l.length := by
  obtain ⟨b, o, k, cs, rfl, h2, h3, h4, h5⟩ := h
  have hk : k = some 2 := by rcases h2 with ⟨h, _⟩ | h; cases h; exact h
  subst hk
  rw [x_sliceG ht hz]
  unfold slg
  simp only [List.length_cons] at h4 h5 ⊢
  rw [if_neg (by simp), hbound_none, Option.bind_some, hbound_none, Option.bind_some, hbound_int _ _ _ _ (by omega) (by omega), Option.bind_some, if_neg (by omega), if_neg (by simp)]
  have h6 : (cs.drop (o + 1)).take l.length = l.map U := by
    have := congrArg List.tail h5
    rw [List.map_cons, List.tail_cons] at this
    rw [← this, ← List.drop_one, List.drop_take, List.drop_drop]; congr 1
  by_cases hl : l.length + 1 = (1 : Int).toNat
  · have h0 : l = [] := by apply List.eq_nil_of_length_eq_zero; have : (1 : Int).toNat = 1 := rfl; omega
    subst h0
    rw [if_pos hl]
    exact ⟨_, rfl, ⟨b, o, some 3, cs, rfl, .inl ⟨rfl, .inr rfl⟩, h3, by simp only [List.length_nil]; omega, by simp⟩, rfl, _, rfl⟩
  · rw [if_neg hl]
    have e1 : (1 : Int).toNat = 1 := rfl
    rw [e1, Nat.add_sub_cancel]
    exact ⟨_, rfl, ⟨b, o + 1 * 1, some 2, cs, rfl, .inr rfl, h3, by omega, by simpa using h6⟩, rfl, _, rfl⟩
theorem QAt.head {H : HHeap} {v : Value} {x : Nat} {l : List Nat} (h : QAt H v (x :: l)) : ∃ b o k cs, v = .slice (some ⟨b, o, k⟩) (l.length + 1) (l.length + 1) ∧ H.get b = some (.cells cs true) ∧ cs[o]? = some (U x) := by
  obtain ⟨b, o, k, cs, h1, h2, h3, h4, h5⟩ := h
  refine ⟨b, o, k, cs, h1, h3, ?_⟩
  have : ((cs.drop o).take (x :: l).length)[0]? = some (U x) := by rw [h5]; rfl
  rw [List.getElem?_take, if_pos (by simp), List.getElem?_drop] at this
  simpa using this
theorem QAt.len {H : HHeap} {v : Value} {l : List Nat} (h : QAt H v l) : ∃ b o k, v = .slice (some ⟨b, o, k⟩) l.length l.length := by
  obtain ⟨b, o, k, cs, h1, _⟩ := h
  exact ⟨b, o, k, h1⟩
theorem lookup_map {α : Type} (f : α → Nat) (g : α → Nat) [DecidableEq α] : ∀ (l : List α) (j : α), (∀ i ∈ l, f i = f j → i = j) → (l.map fun i => (f i, g i)).lookup (f j) = if j ∈ l then some (g j) else none
  | [], j, _ => rfl
  | i :: l, j, h => by
    have ih := lookup_map f g l j (fun x hx => h x (by simp [hx]))
    rw [List.map_cons, List.lookup_cons, ih]
    by_cases e : f j = f i
    · have := h i (by simp) e.symm
      subst this
      simp
    · have hne : j ≠ i := fun h => e (by rw [h])
      have hb : (f j == f i) = false := by simpa using e
      rw [hb]; simp [hne]
theorem QAt.add {H : HHeap} {v : Value} {l : List Nat} (h : QAt H v l) (hlt : ∀ b ∈ sblk v, b < H.next) (p : Nat) (hl : l.length + 1 ≤ 1000000) :
    ∃ v' H', apd (H.push (.cells [U p] true)) 1 8 v ([U p], 1) = some (v', H') ∧ QAt H' v' (l ++ [p]) ∧ H.next ≤ H'.next ∧ (∀ c, c < H.next → c ∉ sblk v → H'.get c = H.get c) ∧ (∀ b ∈ sblk v', H.next ≤ b ∧ b < H'.next) := by
  have h' : QAt (H.push (.cells [U p] true)) v l := h.frame fun b hb => by have := hlt b hb; rw [get_push_ne _ _ (by omega)]
  obtain ⟨H', q1, q2, q3, q4⟩ := h'.append (xs := [p]) (by simp) (by simpa using hl)
  refine ⟨_, H', q1, q2, by rw [q3]; simp; omega, fun c hc hb => ?_, fun b hb => ?_⟩
  · rw [q4 c (by simp; omega) hb, get_push_ne _ _ (by omega)]
  · simp [sblk] at hb; rw [q3]; simp; omega
theorem QAt.start (H : HHeap) (l : List Nat) (hl : l.length ≤ 1000000) :
    ∃ v H', apd (H.push (.cells [] true)) 1 8 (.slice (some ⟨H.next, 0, none⟩) 0 0) (l.map U, l.length) = some (v, H') ∧ QAt H' v l ∧ H.next ≤ H'.next ∧ (∀ c, c < H.next → H'.get c = H.get c) ∧ (∀ b ∈ sblk v, H.next ≤ b ∧ b < H'.next) := by
  have h0 : QAt (H.push (.cells [] true)) (.slice (some ⟨H.next, 0, none⟩) 0 0) [] := ⟨H.next, 0, none, [], rfl, .inl ⟨rfl, .inl rfl⟩, by simp [HHeap.get_push], by simp, rfl⟩
  by_cases h : l = []
  · subst h
    exact ⟨_, _, apd_zero _ _ _ _ _ _, h0, by simp, fun c hc => get_push_ne _ _ (by omega), fun b hb => by simp [sblk] at hb; simp; omega⟩
  · obtain ⟨H', q1, q2, q3, q4⟩ := h0.append (xs := l) h (by simpa using hl)
    simp only [List.length_nil, Nat.zero_add, List.nil_append] at q1 q2
    refine ⟨_, H', q1, q2, by rw [q3]; simp; omega, fun c hc => ?_, fun b hb => ?_⟩
    · rw [q4 c (by simp; omega) (by simp [sblk]; omega), get_push_ne _ _ (by omega)]
    · simp [sblk] at hb; rw [q3]; simp; omega
end Go.HL
/-
  What is told of what was brought: plain Lean.
-/
namespace Go.HL
set_option linter.unusedSimpArgs false
set_option linter.unusedVariables false

theorem tr_thing {T : Things} {F : List Nat} (hF : Closed T F) (hu : usedOf T ≤ 65536) {w : Nat} (hw : ∀ i, findI T w = some i → i ∈ F) :
    findT (outT T F) (tr T F w) = (findT T w).map fun t => ⟨t.kind, t.l.map (tr T F)⟩ := by
  rw [findT_findI, findT_findI, tr_find hF hu hw]
  cases h : findI T w with
  | none => rfl
  | some i =>
    have hi := hw i h
    rw [Option.map_some, Option.bind_some, Option.bind_some, outT_get (idxOf_mem hi)]
    unfold fullThing
    rw [List.getElem?_eq_getElem (hF.lt i hi)]; rfl
def toP (T : Things) (F : List Nat) (vis : List Nat) : List (Nat × Nat) := vis.map fun i => (wordAt (placeOf T i), wordAt (placeIn T F i))
def backP (T : Things) (F : List Nat) (vis : List Nat) : List (Nat × Nat) := vis.map fun i => (wordAt (placeIn T F i), wordAt (placeOf T i))
theorem placeIn_inj {T : Things} {F : List Nat} (hF : Closed T F) {i j : Nat} (hi : i ∈ F) (hj : j ∈ F) (h : wordAt (placeIn T F i) = wordAt (placeIn T F j)) : i = j := by
  have e1 := placeIn_get (T := T) (F := F) (ord := F) (l := []) (by simp) hF.nodup (idxOf_mem hi)
  have e2 := placeIn_get (T := T) (F := F) (ord := F) (l := []) (by simp) hF.nodup (idxOf_mem hj)
  rw [e1, e2, ← outT_place, ← outT_place] at h
  have := placeOf_inj (T := outT T F) (by rw [outT_length]; exact List.idxOf_lt_length_iff.2 hi) (by rw [outT_length]; exact List.idxOf_lt_length_iff.2 hj) h
  have e3 := idxOf_mem hi
  rw [this, idxOf_mem hj] at e3
  cases e3; rfl
theorem toP_look {T : Things} {F vis : List Nat} (hF : Closed T F) (hv : ∀ i ∈ vis, i ∈ F) {w i : Nat} (hw : findI T w = some i) (hi : i ∈ F) : (toP T F vis).lookup w = if i ∈ vis then some (tr T F w) else none := by
  have e : tr T F w = wordAt (placeIn T F i) := by unfold tr; rw [hw]
  rw [e, (findI_word hw).1]
  exact lookup_map _ _ vis i (fun j hj h => placeOf_inj (hF.lt j (hv j hj)) (hF.lt i hi) h)
theorem backP_look {T : Things} {F vis : List Nat} (hF : Closed T F) (hv : ∀ i ∈ vis, i ∈ F) {w i : Nat} (hw : findI T w = some i) (hi : i ∈ F) : (backP T F vis).lookup (tr T F w) = if i ∈ vis then some w else none := by
  have e : tr T F w = wordAt (placeIn T F i) := by unfold tr; rw [hw]
  rw [e]
  conv => rhs; rw [(findI_word hw).1]
  exact lookup_map _ _ vis i (fun j hj h => placeIn_inj hF (hv j hj) hi h)
end Go.HL
/-
  Walks: the document's arenas: what is found; what is brought.
-/
namespace Go.HL
open Go.RowKit Go.Proofs
set_option maxHeartbeats 4000000
set_option maxRecDepth 100000
set_option linter.unusedSimpArgs false
set_option linter.unusedVariables false

theorem rcells_get : ∀ (p : Nat) (T : Things) (lvs : List Value) (i : Nat) (t : Thing) (lv : Value), T[i]? = some t → lvs[i]? = some lv →
    (rcells p T lvs)[i * 3]? = some (I (p + placeOf T i : Nat)) ∧ (rcells p T lvs)[i * 3 + 1]? = some (I t.kind) ∧ (rcells p T lvs)[i * 3 + 2]? = some lv
  | _, [], _, i, t, lv, h, _ => by simp at h
  | _, _ :: _, [], i, t, lv, _, h => by simp at h
  | p, u :: T, v :: lvs, 0, t, lv, h, h' => by
    simp at h h'; subst h; subst h'
    simp [rcells, placeOf, usedOf]
  | p, u :: T, v :: lvs, i + 1, t, lv, h, h' => by
    obtain ⟨k1, k2, k3⟩ := rcells_get (p + u.room) T lvs i t lv (by simpa using h) (by simpa using h')
    have e : placeOf (u :: T) (i + 1) = u.room + placeOf T i := by simp [placeOf, usedOf]
    rw [e, show p + (u.room + placeOf T i) = p + u.room + placeOf T i by omega]
    refine ⟨?_, ?_, ?_⟩
    · rw [rcells, show (i + 1) * 3 = i * 3 + 1 + 1 + 1 by omega, List.getElem?_cons_succ, List.getElem?_cons_succ, List.getElem?_cons_succ]; exact k1
    · rw [rcells, show (i + 1) * 3 + 1 = i * 3 + 1 + 1 + 1 + 1 by omega, List.getElem?_cons_succ, List.getElem?_cons_succ, List.getElem?_cons_succ]; exact k2
    · rw [rcells, show (i + 1) * 3 + 2 = i * 3 + 2 + 1 + 1 + 1 by omega, List.getElem?_cons_succ, List.getElem?_cons_succ, List.getElem?_cons_succ]; exact k3
/-- A thing of it. -/
theorem RefAt.thing {H : HHeap} {gr size : Nat} {T : Things} {tv : Value} {lvs : List Value} (h : RefAt H gr size T tv lvs) {i : Nat} {t : Thing} (hi : T[i]? = some t) :
    ∃ b lv, tv = .slice (some ⟨b, 0, some 6⟩) T.length T.length ∧ H.get b = some (.cells (rcells 0 T lvs) true) ∧ lvs[i]? = some lv ∧ LAt H lv t.l ∧ (rcells 0 T lvs)[i * 3]? = some (I (placeOf T i)) ∧ (rcells 0 T lvs)[i * 3 + 1]? = some (I t.kind) ∧ (rcells 0 T lvs)[i * 3 + 2]? = some lv := by
  have hil := (List.getElem?_eq_some_iff.1 hi).1
  obtain ⟨b, h1, h2⟩ := h.t.get (by omega)
  have h3 : lvs[i]? = some (lvs[i]'(by rw [h.len]; exact hil)) := List.getElem?_eq_getElem _
  obtain ⟨k1, k2, k3⟩ := rcells_get 0 T lvs i t _ hi h3
  rw [Nat.zero_add] at k1
  exact ⟨b, _, h1, h2, h3, h.l i t _ hi h3, k1, k2, k3⟩
theorem placeOf_lt {T : Things} {i j : Nat} (h : i < j) (hj : j ≤ T.length) : placeOf T i < placeOf T j := by
  have step : ∀ k, k < T.length → placeOf T k < placeOf T (k + 1) := fun k hk => by
    unfold placeOf; rw [usedOf_take_succ T k hk]
    have : 0 < roomI T k := by unfold roomI; split <;> simp [Thing.room]; omega
    omega
  induction j with
  | zero => omega
  | succ j ih =>
    rcases Nat.lt_or_ge i j with h1 | h1
    · exact Nat.lt_trans (ih h1 (by omega)) (step j (by omega))
    · rw [show i = j by omega]; exact step j (by omega)
def foundV (T : Things) (w : Nat) : Int := match findI T w with | some i => i | none => -1

theorem r02_Find (H : HHeap) (gr size : Nat) (T : Things) (tv : Value) (lvs : List Value) (hA : RefAt H gr size T tv lvs) (hu : usedOf T ≤ 65536) (w : Nat) (hw : w < 18446744073709551616) (R : Value → HHeap → Prop) (hR : R (I (foundV T w)) H) : HCalls Try.prog 32 [ptr gr 0, U w] H R := by
  have hTl := length_le_used T
  obtain ⟨ta, htv⟩ := hA.t.len
  subst htv
  refine HCalls.of_hw Try.func32 rfl _ Try.ntmps32 _ (by rw [Try.results32]) ?_
  rw [hframe0_eq _ _ (by simp)]
  simp only [List.zipIdx_cons, List.zipIdx_nil, List.map_cons, List.map_nil, Nat.reduceAdd]
  simp (disch := first | omega | (show allOne _ = true; simp [allOne, Value.oneCell']) | (simp only [List.length_cons, List.length_nil, List.length_set, List.length_map, List.length_replicate, List.length_append, List.length_take, List.length_drop, Int.toNat_natCast, Int.toNat_of_nonneg, nx_push, nx_set, nx_kill]; done) | (simp only [List.length_cons, List.length_nil, List.length_set, List.length_map, List.length_replicate, List.length_append, List.length_take, List.length_drop, Int.toNat_natCast, Int.toNat_of_nonneg, nx_push, nx_set, nx_kill]; omega)) only [go_sem, reduceCtorEq, Nat.reduceAdd, Nat.reduceSub, Nat.reduceMul, Nat.reduceLT, Nat.reduceLeDiff, Nat.reduceEqDiff, Nat.reduceBEq, Nat.reduceBNe, Int.reduceBEq, Int.reduceEq, Int.reduceLT, Int.reduceLE, Int.reduceAdd, Int.reduceSub, ↓reduceIte, Int.reduceToNat, Nat.reduceShiftRight, Nat.reduceAnd]
  refine r01_To w hw _ _ ?_
  obtain ⟨N, ok, hto, hok⟩ : ∃ (N : Nat) (ok : Bool), toV w = .tuple #[I N, .bool ok] ∧ ((ok = true ∧ w % 8 = 1 ∧ w / 8 = N) ∨ (ok = false ∧ ¬ (w % 8 = 1 ∧ w / 8 < 1099511627776))) := by
    unfold toV
    by_cases h : w % 8 = 1 ∧ w / 8 < 1099511627776
    · rw [if_pos h]; exact ⟨w / 8, true, rfl, .inl ⟨rfl, h.1, rfl⟩⟩
    · rw [if_neg h]; exact ⟨0, false, rfl, .inr ⟨rfl, h⟩⟩
  rw [hto]
  have hs := hA.s
  simp (disch := first | omega | (show allOne _ = true; simp [allOne, Value.oneCell']) | (simp only [List.length_cons, List.length_nil, List.length_set, List.length_map, List.length_replicate, List.length_append, List.length_take, List.length_drop, Int.toNat_natCast, Int.toNat_of_nonneg, nx_push, nx_set, nx_kill]; done) | (simp only [List.length_cons, List.length_nil, List.length_set, List.length_map, List.length_replicate, List.length_append, List.length_take, List.length_drop, Int.toNat_natCast, Int.toNat_of_nonneg, nx_push, nx_set, nx_kill]; omega)) only [go_sem, reduceCtorEq, Nat.reduceAdd, Nat.reduceSub, Nat.reduceMul, Nat.reduceLT, Nat.reduceLeDiff, Nat.reduceEqDiff, Nat.reduceBEq, Nat.reduceBNe, Int.reduceBEq, Int.reduceEq, Int.reduceLT, Int.reduceLE, Int.reduceAdd, Int.reduceSub, ↓reduceIte, Int.reduceToNat, Nat.reduceShiftRight, Nat.reduceAnd, hs, ldc_cells]
  refine Hwp.loop (fun m fr H' => ∃ lo hi : Nat, m = hi - lo ∧ lo ≤ hi ∧ hi ≤ T.length ∧ H' = H ∧ (∀ i, i < lo → placeOf T i < N) ∧ (∀ i, hi ≤ i → i < T.length → N ≤ placeOf T i) ∧
     FLe (hfr 64 [(8, I hi), (7, I lo), (6, .bool ok), (5, I N), (0, ptr gr 0)]) fr) T.length ?_ ?_
  · exact ⟨0, T.length, by omega, by omega, by omega, rfl, fun i hi => by omega, fun i h1 h2 => by omega, fle_of (by simp [flook])⟩
  · rintro m fr H' ⟨lo, hi, rfl, h1, h2, rfl, h3, h4, hle⟩
    refine Hwp.weaken hle (HW.sound _ _ _ _ ?_)
    by_cases hc : lo < hi
    · have hmid : ((lo : Int) + (hi : Int)) / 2 = (((lo + hi) / 2 : Nat) : Int) := by omega
      have hml : (lo + hi) / 2 < T.length := by omega
      obtain ⟨t, ht⟩ : ∃ t, T[(lo + hi) / 2]? = some t := ⟨_, List.getElem?_eq_getElem hml⟩
      obtain ⟨b, lv, e1, e2, e3, e4, e5, e6, e7⟩ := hA.thing ht
      cases e1
      by_cases hlt : placeOf T ((lo + hi) / 2) < N
      · simp (disch := first | omega | (show allOne _ = true; simp [allOne, Value.oneCell']) | (simp only [List.length_cons, List.length_nil, List.length_set, List.length_map, List.length_replicate, List.length_append, List.length_take, List.length_drop, Int.toNat_natCast, Int.toNat_of_nonneg, nx_push, nx_set, nx_kill]; done) | (simp only [List.length_cons, List.length_nil, List.length_set, List.length_map, List.length_replicate, List.length_append, List.length_take, List.length_drop, Int.toNat_natCast, Int.toNat_of_nonneg, nx_push, nx_set, nx_kill]; omega)) only [go_sem, reduceCtorEq, Nat.reduceAdd, Nat.reduceSub, Nat.reduceMul, Nat.reduceLT, Nat.reduceLeDiff, Nat.reduceEqDiff, Nat.reduceBEq, Nat.reduceBNe, Int.reduceBEq, Int.reduceEq, Int.reduceLT, Int.reduceLE, Int.reduceAdd, Int.reduceSub, ↓reduceIte, Int.reduceToNat, Nat.reduceShiftRight, Nat.reduceAnd, hmid, hs, ldc_cells, ixa_ok, e2, e5]
        refine ⟨_, ?_, (lo + hi) / 2 + 1, hi, rfl, by omega, h2, ?_, h4, fle_of (by simp [flook])⟩
        · omega
        · intro i hi'
          rcases Nat.lt_or_ge i ((lo + hi) / 2) with h | h
          · exact Nat.lt_trans (placeOf_lt h (by omega)) hlt
          · rw [show i = (lo + hi) / 2 by omega]; exact hlt
      · simp (disch := first | omega | (show allOne _ = true; simp [allOne, Value.oneCell']) | (simp only [List.length_cons, List.length_nil, List.length_set, List.length_map, List.length_replicate, List.length_append, List.length_take, List.length_drop, Int.toNat_natCast, Int.toNat_of_nonneg, nx_push, nx_set, nx_kill]; done) | (simp only [List.length_cons, List.length_nil, List.length_set, List.length_map, List.length_replicate, List.length_append, List.length_take, List.length_drop, Int.toNat_natCast, Int.toNat_of_nonneg, nx_push, nx_set, nx_kill]; omega)) only [go_sem, reduceCtorEq, Nat.reduceAdd, Nat.reduceSub, Nat.reduceMul, Nat.reduceLT, Nat.reduceLeDiff, Nat.reduceEqDiff, Nat.reduceBEq, Nat.reduceBNe, Int.reduceBEq, Int.reduceEq, Int.reduceLT, Int.reduceLE, Int.reduceAdd, Int.reduceSub, ↓reduceIte, Int.reduceToNat, Nat.reduceShiftRight, Nat.reduceAnd, hmid, hs, ldc_cells, ixa_ok, e2, e5]
        refine ⟨_, ?_, lo, (lo + hi) / 2, rfl, by omega, by omega, h3, ?_, fle_of (by simp [flook])⟩
        · omega
        · intro i h5 h6
          rcases Nat.lt_or_ge ((lo + hi) / 2) i with h | h
          · have := placeOf_lt h (by omega : i ≤ T.length); omega
          · rw [show i = (lo + hi) / 2 by omega]; omega
    · have hlh : lo = hi := by omega
      subst hlh
      rcases hok with ⟨rfl, hw8, rfl⟩ | ⟨rfl, hbad⟩
      · by_cases hl : lo < T.length
        · obtain ⟨t, ht⟩ : ∃ t, T[lo]? = some t := ⟨_, List.getElem?_eq_getElem hl⟩
          obtain ⟨b, lv, e1, e2, e3, e4, e5, e6, e7⟩ := hA.thing ht
          cases e1
          by_cases heq : placeOf T lo = w / 8
          · have hf : foundV T w = lo := by
              unfold foundV
              have : findI T (wordAt (placeOf T lo)) = some lo := word_findI hl
              rw [show wordAt (placeOf T lo) = w by unfold wordAt; omega] at this
              rw [this]
            rw [hf] at hR
            simp (disch := first | omega | (show allOne _ = true; simp [allOne, Value.oneCell']) | (simp only [List.length_cons, List.length_nil, List.length_set, List.length_map, List.length_replicate, List.length_append, List.length_take, List.length_drop, Int.toNat_natCast, Int.toNat_of_nonneg, nx_push, nx_set, nx_kill]; done) | (simp only [List.length_cons, List.length_nil, List.length_set, List.length_map, List.length_replicate, List.length_append, List.length_take, List.length_drop, Int.toNat_natCast, Int.toNat_of_nonneg, nx_push, nx_set, nx_kill]; omega)) only [go_sem, reduceCtorEq, Nat.reduceAdd, Nat.reduceSub, Nat.reduceMul, Nat.reduceLT, Nat.reduceLeDiff, Nat.reduceEqDiff, Nat.reduceBEq, Nat.reduceBNe, Int.reduceBEq, Int.reduceEq, Int.reduceLT, Int.reduceLE, Int.reduceAdd, Int.reduceSub, ↓reduceIte, Int.reduceToNat, Nat.reduceShiftRight, Nat.reduceAnd, hs, ldc_cells, ixa_ok, e2, e5]
            exact hR
          · have hf : foundV T w = -1 := by
              unfold foundV
              cases e : findI T w with
              | none => rfl
              | some j =>
                exfalso
                obtain ⟨j1, j2⟩ := findI_word e
                have hj : placeOf T j = w / 8 := by rw [j1]; unfold wordAt; omega
                rcases Nat.lt_trichotomy j lo with h | h | h
                · have := h3 j h; omega
                · rw [h] at hj; exact heq hj
                · have := placeOf_lt h (by omega : j ≤ T.length)
                  have := h4 lo (Nat.le_refl _) hl
                  omega
            rw [hf] at hR
            simp (disch := first | omega | (show allOne _ = true; simp [allOne, Value.oneCell']) | (simp only [List.length_cons, List.length_nil, List.length_set, List.length_map, List.length_replicate, List.length_append, List.length_take, List.length_drop, Int.toNat_natCast, Int.toNat_of_nonneg, nx_push, nx_set, nx_kill]; done) | (simp only [List.length_cons, List.length_nil, List.length_set, List.length_map, List.length_replicate, List.length_append, List.length_take, List.length_drop, Int.toNat_natCast, Int.toNat_of_nonneg, nx_push, nx_set, nx_kill]; omega)) only [go_sem, reduceCtorEq, Nat.reduceAdd, Nat.reduceSub, Nat.reduceMul, Nat.reduceLT, Nat.reduceLeDiff, Nat.reduceEqDiff, Nat.reduceBEq, Nat.reduceBNe, Int.reduceBEq, Int.reduceEq, Int.reduceLT, Int.reduceLE, Int.reduceAdd, Int.reduceSub, ↓reduceIte, Int.reduceToNat, Nat.reduceShiftRight, Nat.reduceAnd, hs, ldc_cells, ixa_ok, e2, e5]
            exact hR
        · have hf : foundV T w = -1 := by
            unfold foundV
            cases e : findI T w with
            | none => rfl
            | some j =>
              exfalso
              obtain ⟨j1, j2⟩ := findI_word e
              have hj : placeOf T j = w / 8 := by rw [j1]; unfold wordAt; omega
              have := h3 j (by omega)
              omega
          rw [hf] at hR
          simp (disch := first | omega | (show allOne _ = true; simp [allOne, Value.oneCell']) | (simp only [List.length_cons, List.length_nil, List.length_set, List.length_map, List.length_replicate, List.length_append, List.length_take, List.length_drop, Int.toNat_natCast, Int.toNat_of_nonneg, nx_push, nx_set, nx_kill]; done) | (simp only [List.length_cons, List.length_nil, List.length_set, List.length_map, List.length_replicate, List.length_append, List.length_take, List.length_drop, Int.toNat_natCast, Int.toNat_of_nonneg, nx_push, nx_set, nx_kill]; omega)) only [go_sem, reduceCtorEq, Nat.reduceAdd, Nat.reduceSub, Nat.reduceMul, Nat.reduceLT, Nat.reduceLeDiff, Nat.reduceEqDiff, Nat.reduceBEq, Nat.reduceBNe, Int.reduceBEq, Int.reduceEq, Int.reduceLT, Int.reduceLE, Int.reduceAdd, Int.reduceSub, ↓reduceIte, Int.reduceToNat, Nat.reduceShiftRight, Nat.reduceAnd, hs, ldc_cells]
          exact hR
      · have hf : foundV T w = -1 := by unfold foundV; rw [bare_none hu hbad]
        rw [hf] at hR
        simp (disch := first | omega | (show allOne _ = true; simp [allOne, Value.oneCell']) | (simp only [List.length_cons, List.length_nil, List.length_set, List.length_map, List.length_replicate, List.length_append, List.length_take, List.length_drop, Int.toNat_natCast, Int.toNat_of_nonneg, nx_push, nx_set, nx_kill]; done) | (simp only [List.length_cons, List.length_nil, List.length_set, List.length_map, List.length_replicate, List.length_append, List.length_take, List.length_drop, Int.toNat_natCast, Int.toNat_of_nonneg, nx_push, nx_set, nx_kill]; omega)) only [go_sem, reduceCtorEq, Nat.reduceAdd, Nat.reduceSub, Nat.reduceMul, Nat.reduceLT, Nat.reduceLeDiff, Nat.reduceEqDiff, Nat.reduceBEq, Nat.reduceBNe, Int.reduceBEq, Int.reduceEq, Int.reduceLT, Int.reduceLE, Int.reduceAdd, Int.reduceSub, ↓reduceIte, Int.reduceToNat, Nat.reduceShiftRight, Nat.reduceAnd, hs, ldc_cells]
        exact hR

theorem LAt.form {H : HHeap} {lv : Value} {l : List Nat} (h : LAt H lv l) : ∃ a, lv = .slice a l.length l.length := by
  rcases h with ⟨rfl, b, _, h⟩ | ⟨b, _, h, _⟩
  · exact ⟨_, h⟩
  · exact ⟨_, h⟩
theorem LAt.source {H H' : HHeap} {lv : Value} {l : List Nat} (h : LAt H lv l) (f : ∀ b ∈ sblk lv, H'.get b = H.get b) : hsource H' 1 lv = some (l.map U, l.length) := by
  rcases h with ⟨rfl, b, _, rfl⟩ | ⟨b, h0, rfl, h1⟩
  · rw [hsource_slice, List.length_nil]; rfl
  · have : 0 < l.length := by cases l with | nil => exact absurd rfl h0 | cons x l => simp
    rw [hsource_slice, f b (by simp [sblk]), h1, hsrc_cells _ _ _ _ _ this (by simp), List.drop_zero, Nat.mul_one, List.take_of_length_le (by simp)]
/-- Which thing went where. -/
def wentC (T : Things) (F ord : List Nat) : List Value := (List.range T.length).map fun i => U (if i ∈ ord then wordAt (placeIn T F i) else 0)
theorem wentC_len (T : Things) (F ord : List Nat) : (wentC T F ord).length = T.length := by simp [wentC]
theorem wentC_get {T : Things} {F ord : List Nat} {i : Nat} (h : i < T.length) : (wentC T F ord)[i]? = some (U (if i ∈ ord then wordAt (placeIn T F i) else 0)) := by simp [wentC, h]
theorem wentC_set {T : Things} {F ord : List Nat} {i : Nat} (h : i < T.length) : (wentC T F ord).set i (U (wordAt (placeIn T F i))) = wentC T F (ord ++ [i]) := by
  apply List.ext_getElem?
  intro j
  rw [List.getElem?_set]
  rcases Nat.lt_or_ge j T.length with hj | hj
  · rw [wentC_get hj, wentC_get hj]
    by_cases e : i = j
    · subst e; simp [wentC_len, h]
    · rw [if_neg e]; simp [Ne.symm e]
  · rw [List.getElem?_eq_none_iff.2 (by rw [wentC_len]; exact hj), List.getElem?_eq_none_iff.2 (by rw [wentC_len]; exact hj), wentC_len]
    rw [if_neg (by omega)]
/-- How it stands while the document brings. -/
structure RBr (H : HHeap) (ga gb bw size : Nat) (T : Things) (F ord : List Nat) (p q : Nat) (tva tvb : Value) (lva lvb : List Value) : Prop where
  a : RefAt H ga size T tva lva
  b : RefAt H gb size (midT T F p q 0 ord) tvb lvb
  w : H.get bw = some (.cells (wentC T F ord) true)
  ab : ∀ x ∈ rblks ga tva lva, x ∉ rblks gb tvb lvb ∧ x ≠ bw
  bb : bw ∉ rblks gb tvb lvb
theorem RBr.bring {H : HHeap} {ga gb bw size : Nat} {T : Things} {F ord : List Nat} {p q : Nat} {tva tvb : Value} {lva lvb : List Value} (h : RBr H ga gb bw size T F ord p q tva tvb lva lvb) (hsz : size ≤ 65536) (hu : usedOf T ≤ size)
    (w : Nat) (hw : w < 18446744073709551616) (hF : ∃ l, F = stepO T ord w ++ l) (hnd : ord.Nodup) (hlt : ∀ x ∈ ord, x < T.length) (hpq : p < ord.length ∨ p = ord.length ∧ q = 0) (R : Value → HHeap → Prop)
    (hR : ∀ H' tvb' lvb', RBr H' ga gb bw size T F (stepO T ord w) p q tva tvb' lva lvb' → H.next ≤ H'.next → (∀ x, x < H.next → x ∉ rblks gb tvb lvb → x ≠ bw → H'.get x = H.get x) → (∀ x ∈ rblks gb tvb' lvb', x ∈ rblks gb tvb lvb ∨ H.next ≤ x) → R (U (tr T F w)) H') :
    HCalls Try.prog 31 [ptr ga 0, ptr gb 0, .slice (some ⟨bw, 0, none⟩) T.length T.length, U w] H R := by
  refine HCalls.ok fun hok => ?_
  have hbl := hok _ _ h.w
  have hal := h.a.lt hok
  have hTl := length_le_used T
  refine HCalls.of_hw Try.func31 rfl _ Try.ntmps31 _ (by rw [Try.results31]) ?_
  rw [hframe0_eq _ _ (by simp)]
  simp only [List.zipIdx_cons, List.zipIdx_nil, List.map_cons, List.map_nil, Nat.reduceAdd]
  simp (disch := first | omega | (show allOne _ = true; simp [allOne, Value.oneCell']) | (simp only [List.length_cons, List.length_nil, List.length_set, List.length_map, List.length_replicate, List.length_append, List.length_take, List.length_drop, Int.toNat_natCast, Int.toNat_of_nonneg, nx_push, nx_set, nx_kill]; done) | (simp only [List.length_cons, List.length_nil, List.length_set, List.length_map, List.length_replicate, List.length_append, List.length_take, List.length_drop, Int.toNat_natCast, Int.toNat_of_nonneg, nx_push, nx_set, nx_kill]; omega)) only [go_sem, reduceCtorEq, Nat.reduceAdd, Nat.reduceSub, Nat.reduceMul, Nat.reduceLT, Nat.reduceLeDiff, Nat.reduceEqDiff, Nat.reduceBEq, Nat.reduceBNe, Int.reduceBEq, Int.reduceEq, Int.reduceLT, Int.reduceLE, Int.reduceAdd, Int.reduceSub, ↓reduceIte, Int.reduceToNat, Nat.reduceShiftRight, Nat.reduceAnd]
  refine r02_Find _ _ _ _ _ _ h.a (by omega) w hw _ ?_
  cases hi : findI T w with
  | none =>
    have e1 : stepO T ord w = ord := by unfold stepO; rw [hi]
    have e2 : tr T F w = bareN w := by unfold tr bareN; rw [hi]
    have := hR H tvb lvb (by rw [e1]; exact h) (Nat.le_refl _) (fun _ _ _ _ => rfl) (fun _ hx => .inl hx)
    rw [e2, bareN] at this
    have hf : foundV T w = -1 := by unfold foundV; rw [hi]
    rw [hf]
    simp (disch := first | omega | (show allOne _ = true; simp [allOne, Value.oneCell']) | (simp only [List.length_cons, List.length_nil, List.length_set, List.length_map, List.length_replicate, List.length_append, List.length_take, List.length_drop, Int.toNat_natCast, Int.toNat_of_nonneg, nx_push, nx_set, nx_kill]; done) | (simp only [List.length_cons, List.length_nil, List.length_set, List.length_map, List.length_replicate, List.length_append, List.length_take, List.length_drop, Int.toNat_natCast, Int.toNat_of_nonneg, nx_push, nx_set, nx_kill]; omega)) only [go_sem, reduceCtorEq, Nat.reduceAdd, Nat.reduceSub, Nat.reduceMul, Nat.reduceLT, Nat.reduceLeDiff, Nat.reduceEqDiff, Nat.reduceBEq, Nat.reduceBNe, Int.reduceBEq, Int.reduceEq, Int.reduceLT, Int.reduceLE, Int.reduceAdd, Int.reduceSub, ↓reduceIte, Int.reduceToNat, Nat.reduceShiftRight, Nat.reduceAnd]
    refine r01_To w hw _ _ ?_
    rw [toV]
    split
    · rename_i hh; rw [if_pos hh] at this
      simp (disch := first | omega | (show allOne _ = true; simp [allOne, Value.oneCell']) | (simp only [List.length_cons, List.length_nil, List.length_set, List.length_map, List.length_replicate, List.length_append, List.length_take, List.length_drop, Int.toNat_natCast, Int.toNat_of_nonneg, nx_push, nx_set, nx_kill]; done) | (simp only [List.length_cons, List.length_nil, List.length_set, List.length_map, List.length_replicate, List.length_append, List.length_take, List.length_drop, Int.toNat_natCast, Int.toNat_of_nonneg, nx_push, nx_set, nx_kill]; omega)) only [go_sem, reduceCtorEq, Nat.reduceAdd, Nat.reduceSub, Nat.reduceMul, Nat.reduceLT, Nat.reduceLeDiff, Nat.reduceEqDiff, Nat.reduceBEq, Nat.reduceBNe, Int.reduceBEq, Int.reduceEq, Int.reduceLT, Int.reduceLE, Int.reduceAdd, Int.reduceSub, ↓reduceIte, Int.reduceToNat, Nat.reduceShiftRight, Nat.reduceAnd]
      exact this
    · rename_i hh; rw [if_neg hh] at this
      simp (disch := first | omega | (show allOne _ = true; simp [allOne, Value.oneCell']) | (simp only [List.length_cons, List.length_nil, List.length_set, List.length_map, List.length_replicate, List.length_append, List.length_take, List.length_drop, Int.toNat_natCast, Int.toNat_of_nonneg, nx_push, nx_set, nx_kill]; done) | (simp only [List.length_cons, List.length_nil, List.length_set, List.length_map, List.length_replicate, List.length_append, List.length_take, List.length_drop, Int.toNat_natCast, Int.toNat_of_nonneg, nx_push, nx_set, nx_kill]; omega)) only [go_sem, reduceCtorEq, Nat.reduceAdd, Nat.reduceSub, Nat.reduceMul, Nat.reduceLT, Nat.reduceLeDiff, Nat.reduceEqDiff, Nat.reduceBEq, Nat.reduceBNe, Int.reduceBEq, Int.reduceEq, Int.reduceLT, Int.reduceLE, Int.reduceAdd, Int.reduceSub, ↓reduceIte, Int.reduceToNat, Nat.reduceShiftRight, Nat.reduceAnd]
      exact this
  | some i =>
    have hil := findI_lt hi
    obtain ⟨t, ht⟩ : ∃ t, T[i]? = some t := ⟨_, List.getElem?_eq_getElem hil⟩
    have hwg := wentC_get (F := F) (ord := ord) hil
    have hf : foundV T w = i := by unfold foundV; rw [hi]
    have e2 : tr T F w = wordAt (placeIn T F i) := by unfold tr; rw [hi]
    have hww := h.w
    rw [hf]
    by_cases him : i ∈ ord
    · have e1 : stepO T ord w = ord := by unfold stepO; rw [hi]; simp [him]
      rw [if_pos him] at hwg
      have := hR H tvb lvb (by rw [e1]; exact h) (Nat.le_refl _) (fun _ _ _ _ => rfl) (fun _ hx => .inl hx)
      rw [e2] at this
      have hpos : 0 < wordAt (placeIn T F i) := by unfold wordAt; omega
      simp (disch := first | omega | (show allOne _ = true; simp [allOne, Value.oneCell']) | (simp only [List.length_cons, List.length_nil, List.length_set, List.length_map, List.length_replicate, List.length_append, List.length_take, List.length_drop, Int.toNat_natCast, Int.toNat_of_nonneg, nx_push, nx_set, nx_kill]; done) | (simp only [List.length_cons, List.length_nil, List.length_set, List.length_map, List.length_replicate, List.length_append, List.length_take, List.length_drop, Int.toNat_natCast, Int.toNat_of_nonneg, nx_push, nx_set, nx_kill]; omega)) only [go_sem, reduceCtorEq, Nat.reduceAdd, Nat.reduceSub, Nat.reduceMul, Nat.reduceLT, Nat.reduceLeDiff, Nat.reduceEqDiff, Nat.reduceBEq, Nat.reduceBNe, Int.reduceBEq, Int.reduceEq, Int.reduceLT, Int.reduceLE, Int.reduceAdd, Int.reduceSub, ↓reduceIte, Int.reduceToNat, Nat.reduceShiftRight, Nat.reduceAnd, ixa_ok, ldc_cells, hww, hwg]
      exact this
    · rw [if_neg him] at hwg
      have e1 : stepO T ord w = ord ++ [i] := by unfold stepO; rw [hi]; simp [him]
      obtain ⟨l, hF⟩ := hF
      have e3 : placeIn T F i = sumR T ord := by rw [hF, e1, List.append_assoc]; exact placeIn_new T i l ord him
      have e4 : midT T F p q 0 (ord ++ [i]) = midT T F p q 0 ord ++ [t] := by
        rw [midT_append]; simp only [midT]
        rw [midThing_new ht (by omega)]
      have hroom : usedOf (midT T F p q 0 ord) + t.l.length + 1 ≤ size := by
        rw [midT_used]
        have h1 := sumR_le T (ord ++ [i]) (List.nodup_append.2 ⟨hnd, by simp, fun a ha b hb => by simp at hb; subst hb; exact fun e => him (by rw [← e]; exact ha)⟩) (fun x hx => by
          rcases List.mem_append.1 hx with hx | hx
          · exact hlt x hx
          · rw [List.mem_singleton.1 hx]; exact hil)
        rw [sumR_append, sumR_one] at h1
        have : roomI T i = 1 + t.l.length := by unfold roomI; rw [ht]; rfl
        omega
      have htok := h.a.ok t (List.mem_of_getElem? ht)
      have hk1 := htok.k1
      have hk9 := htok.k9
      have hkl := htok.len
      obtain ⟨b, lv, f1, f2, f3, f4, f5, f6, f7⟩ := h.a.thing ht
      obtain ⟨la, hla⟩ := f4.form
      subst hla
      have has := h.a.s
      rw [f1] at has
      have hlvin : ∀ x ∈ sblk (.slice la t.l.length t.l.length), x ∈ rblks ga tva lva := fun x hx => by
        simp only [rblks, List.mem_cons, List.mem_append, List.mem_flatMap]
        exact .inr (.inr ⟨_, List.mem_of_getElem? f3, hx⟩)
      simp (disch := first | omega | (show allOne _ = true; simp [allOne, Value.oneCell']) | (simp only [List.length_cons, List.length_nil, List.length_set, List.length_map, List.length_replicate, List.length_append, List.length_take, List.length_drop, Int.toNat_natCast, Int.toNat_of_nonneg, nx_push, nx_set, nx_kill]; done) | (simp only [List.length_cons, List.length_nil, List.length_set, List.length_map, List.length_replicate, List.length_append, List.length_take, List.length_drop, Int.toNat_natCast, Int.toNat_of_nonneg, nx_push, nx_set, nx_kill]; omega)) only [go_sem, reduceCtorEq, Nat.reduceAdd, Nat.reduceSub, Nat.reduceMul, Nat.reduceLT, Nat.reduceLeDiff, Nat.reduceEqDiff, Nat.reduceBEq, Nat.reduceBNe, Int.reduceBEq, Int.reduceEq, Int.reduceLT, Int.reduceLE, Int.reduceAdd, Int.reduceSub, ↓reduceIte, Int.reduceToNat, Nat.reduceShiftRight, Nat.reduceAnd, ixa_ok, ldc_cells, hww, hwg]
      refine Hwp.drawn mixed [0, 0, 2, 6, 14, 0, 62, 126, 254, 0, 512, 1536, 3584, 0, 15872, 32256, 65024, 131071, 262143, 524287, 524287, 1048575, 4194303] (.op 0 (.op 1 (.op 2 (.op 3 (.op 4 (.op 5 (.op 6 (.op 7 (.op 8 (.op 9 (.op 10 (.op 11 (.op 12 (.op 13 (.op 14 (.op 15 (.op 16 (.eff 17 (.op 18 (.op 19 (.op 20 (.op 21 (.op 22 .done))))) .stop)))))))))))))))))) (by kernel_rfl) ?_
      simp (disch := first | omega | (show allOne _ = true; simp [allOne, Value.oneCell']) | (simp only [List.length_cons, List.length_nil, List.length_set, List.length_map, List.length_replicate, List.length_append, List.length_take, List.length_drop, Int.toNat_natCast, Int.toNat_of_nonneg, nx_push, nx_set, nx_kill]; done) | (simp only [List.length_cons, List.length_nil, List.length_set, List.length_map, List.length_replicate, List.length_append, List.length_take, List.length_drop, Int.toNat_natCast, Int.toNat_of_nonneg, nx_push, nx_set, nx_kill]; omega)) only [go_sem, reduceCtorEq, Nat.reduceAdd, Nat.reduceSub, Nat.reduceMul, Nat.reduceLT, Nat.reduceLeDiff, Nat.reduceEqDiff, Nat.reduceBEq, Nat.reduceBNe, Int.reduceBEq, Int.reduceEq, Int.reduceLT, Int.reduceLE, Int.reduceAdd, Int.reduceSub, ↓reduceIte, Int.reduceToNat, Nat.reduceShiftRight, Nat.reduceAnd, ixa_ok, ldc_cells, has, f2, f6, f7]
      have hrcl : (rcells 0 T lva).length = T.length * 3 := rcells_length 0 T lva h.a.len
      refine r02_AllocV _ _ _ _ _ _ h.b hsz (by omega) t.kind t.l t.l.length rfl htok.words la t.l.length (fun H' hf' => f4.source fun x hx => hf' x (hal x (hlvin x hx)) (h.ab x (hlvin x hx)).1) _ ?_
      intro H' tvb' lvb' hb' hn' hf' hbk'
      unfold allocT allocV at *
      rw [if_pos ⟨⟨by omega, by omega⟩, by omega, hroom⟩] at hb'
      rw [if_pos ⟨⟨by omega, by omega⟩, by omega⟩, if_pos hroom]
      have htk : (⟨((t.kind : Int)).toNat, t.l⟩ : Thing) = t := by cases t; rfl
      rw [htk, ← e4] at hb'
      have hw' : H'.get bw = some (.cells (wentC T F ord) true) := by rw [hf' bw hbl h.bb]; exact hww
      have hx : wordAt (usedOf (midT T F p q 0 ord)) = wordAt (placeIn T F i) := by rw [midT_used, e3]
      rw [hx]
      have hset := wentC_set (F := F) (ord := ord) hil
      have hwl := wentC_len T F ord
      have hwl2 := wentC_len T F (ord ++ [i])
      have hwg2 := wentC_get (F := F) (ord := ord ++ [i]) hil
      rw [if_pos (by simp)] at hwg2
      simp (disch := first | omega | (show allOne _ = true; simp [allOne, Value.oneCell']) | (simp only [List.length_cons, List.length_nil, List.length_set, List.length_map, List.length_replicate, List.length_append, List.length_take, List.length_drop, Int.toNat_natCast, Int.toNat_of_nonneg, nx_push, nx_set, nx_kill]; done) | (simp only [List.length_cons, List.length_nil, List.length_set, List.length_map, List.length_replicate, List.length_append, List.length_take, List.length_drop, Int.toNat_natCast, Int.toNat_of_nonneg, nx_push, nx_set, nx_kill]; omega)) only [go_sem, reduceCtorEq, Nat.reduceAdd, Nat.reduceSub, Nat.reduceMul, Nat.reduceLT, Nat.reduceLeDiff, Nat.reduceEqDiff, Nat.reduceBEq, Nat.reduceBNe, Int.reduceBEq, Int.reduceEq, Int.reduceLT, Int.reduceLE, Int.reduceAdd, Int.reduceSub, ↓reduceIte, Int.reduceToNat, Nat.reduceShiftRight, Nat.reduceAnd, ixa_ok, ldc_cells, hw', stc_cells, hset, hwg2]
      rw [← e2]
      have hbn : ∀ x, x ∈ rblks gb tvb' lvb' → x ≠ bw := fun x hx e => by
        subst e
        rcases hbk' _ hx with h1 | h1
        · exact h.bb h1
        · omega
      have han : ∀ x ∈ rblks ga tva lva, x ∉ rblks gb tvb' lvb' := fun x hx hm => by
        rcases hbk' _ hm with h1 | h1
        · exact (h.ab x hx).1 h1
        · have := hal x hx; omega
      refine hR _ tvb' lvb' ⟨?_, ?_, ?_, fun x hx => ⟨han x hx, (h.ab x hx).2⟩, fun hm => hbn _ hm rfl⟩ (by simp (disch := first | omega | (simp only [nx_push, nx_set, nx_kill]; done) | (simp only [nx_push, nx_set, nx_kill]; omega)) only [get_push_ne, get_push_eq, get_set_ne, get_set_eq, get_kill_ne, nx_push, nx_set, nx_kill]; exact hn') ?_ hbk'
      · exact h.a.frame (by simp (disch := first | omega | (simp only [nx_push, nx_set, nx_kill]; done) | (simp only [nx_push, nx_set, nx_kill]; omega)) only [get_push_ne, get_push_eq, get_set_ne, get_set_eq, get_kill_ne, nx_push, nx_set, nx_kill]; exact hn') fun x hx => by
          have := (h.ab x hx).2
          simp (disch := first | omega | (simp only [nx_push, nx_set, nx_kill]; done) | (simp only [nx_push, nx_set, nx_kill]; omega)) only [get_push_ne, get_push_eq, get_set_ne, get_set_eq, get_kill_ne, nx_push, nx_set, nx_kill]
          exact hf' x (hal x hx) (h.ab x hx).1
      · rw [e1]
        exact hb'.frame (by simp (disch := first | omega | (simp only [nx_push, nx_set, nx_kill]; done) | (simp only [nx_push, nx_set, nx_kill]; omega)) only [get_push_ne, get_push_eq, get_set_ne, get_set_eq, get_kill_ne, nx_push, nx_set, nx_kill]; omega) fun x hx => by
          have := hbn x hx
          simp (disch := first | omega | (simp only [nx_push, nx_set, nx_kill]; done) | (simp only [nx_push, nx_set, nx_kill]; omega)) only [get_push_ne, get_push_eq, get_set_ne, get_set_eq, get_kill_ne, nx_push, nx_set, nx_kill]
      · rw [e1]; simp (disch := first | omega | (simp only [nx_push, nx_set, nx_kill]; done) | (simp only [nx_push, nx_set, nx_kill]; omega)) only [get_push_ne, get_push_eq, get_set_ne, get_set_eq, get_kill_ne, nx_push, nx_set, nx_kill]
      · intro x hx h1 h2
        simp (disch := first | omega | (simp only [nx_push, nx_set, nx_kill]; done) | (simp only [nx_push, nx_set, nx_kill]; omega)) only [get_push_ne, get_push_eq, get_set_ne, get_set_eq, get_kill_ne, nx_push, nx_set, nx_kill]
        exact hf' x hx h1
end Go.HL
