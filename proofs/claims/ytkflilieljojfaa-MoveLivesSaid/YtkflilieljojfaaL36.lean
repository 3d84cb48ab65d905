/-
  Joined: D2.
-/
import Derived.Test.YtkflilieljojfaaL35
/-
  Walks: what a law's arenas are built of.
-/
namespace Go.HL
open Go.RowKit Go.Proofs
set_option maxHeartbeats 4000000
set_option maxRecDepth 100000
set_option linter.unusedSimpArgs false
set_option linter.unusedVariables false

theorem co23 : Try.prog.cellsOf 23 = 1 := by kernel_rfl
theorem co42 : Try.prog.cellsOf 42 = 1 := by kernel_rfl
theorem co61 : Try.prog.cellsOf 61 = 2 := by kernel_rfl
theorem co25 : Try.prog.cellsOf 25 = 3 := by kernel_rfl
theorem co3 : Try.prog.cellsOf 3 = 1 := by kernel_rfl
theorem co22 : Try.prog.cellsOf 22 = 1 := by kernel_rfl

/-- The things that came, and words. -/
structure HeapArg (H : HHeap) (v : Value) (roots : List Nat) : Prop where
  eq : ∃ (size : Int) (tv rv : Value) (n : Nat) (cells : List Value), v = .agg #[I size, tv, rv] ∧ (-9223372036854775808 ≤ size ∧ size ≤ 9223372036854775807) ∧ SlArg H tv 2 n cells ∧ SlArg H rv 1 roots.length (roots.map U) ∧
    ∀ i, i < n → ∃ (k : Int) (lv : Value) (l : List Nat), cells[2 * i]? = some (I k) ∧ cells[2 * i + 1]? = some lv ∧ SlArg H lv 1 l.length (l.map U) ∧ ∀ x ∈ l, x < 18446744073709551616
  lt : ∀ x ∈ roots, x < 18446744073709551616

theorem heapArg {H : HHeap} {v : Value} (h : harg1 Try.prog H 25 v) : ∃ roots, HeapArg H v roots := by
  obtain ⟨n, hs, h1, h2⟩ := h
  rw [Try.underlying25] at h2
  simp only at h2
  obtain ⟨hl, m, hf⟩ := harg_struct Try.underlying25 h1
  rw [co25] at hl
  simp only [List.toList_toArray, List.forall_mem_cons, co3, co22, co23] at hf
  obtain ⟨f0, f1, f2, _⟩ := hf
  obtain ⟨a, b, c, rfl⟩ : ∃ a b c, hs = [a, b, c] := by
    match hs, hl with
    | [a, b, c], _ => exact ⟨a, b, c, rfl⟩
  simp only [List.drop_zero, List.drop_succ_cons, List.take_succ_cons, List.take_zero] at f0 f1 f2
  obtain ⟨z, hz, hzw⟩ := harg_int Try.underlying3 f0
  cases hz
  obtain ⟨tv, k, cells, m1, ht, hts, hte⟩ := harg_slice Try.underlying22 f1
  cases ht
  rw [co61] at hts hte
  obtain ⟨rv, roots, hr, hrs, hrl⟩ := harg_words Try.underlying23 Try.underlying42 co42 f2
  cases hr
  refine ⟨roots, ⟨z, _, _, k, cells, h2, bounds_i64 hzw, hts, hrs, fun i hi => ?_⟩, hrl⟩
  obtain ⟨hl1, m2, hf1⟩ := harg_struct Try.underlying61 (hte i hi)
  rw [co61] at hl1
  simp only [List.toList_toArray, List.forall_mem_cons, co3, co23] at hf1
  obtain ⟨g0, g1, _⟩ := hf1
  have e2 : ∀ j, j < 2 → ((cells.drop (i * 2)).take 2)[j]? = cells[2 * i + j]? := fun j hj => by
    rw [List.getElem?_take, if_pos hj, List.getElem?_drop, Nat.mul_comm]
  generalize (cells.drop (i * 2)).take 2 = w at hl1 g0 g1 e2
  obtain ⟨x, y, rfl⟩ : ∃ x y, w = [x, y] := by
    match w, hl1 with
    | [x, y], _ => exact ⟨x, y, rfl⟩
  simp only [List.drop_zero, List.drop_succ_cons, List.take_succ_cons, List.take_zero] at g0 g1
  obtain ⟨z1, hz1, _⟩ := harg_int Try.underlying3 g0
  cases hz1
  obtain ⟨lv, l, hl2, hls, hll⟩ := harg_words Try.underlying23 Try.underlying42 co42 g1
  cases hl2
  exact ⟨z1, _, l, (e2 0 (by omega)).symm, (e2 1 (by omega)).symm, hls, hll⟩

theorem AtA.lt {H : HHeap} {g gw gh size : Nat} {T : Things} (h : AtA H g gw gh size T) (ok : H.Ok) : g < H.next ∧ gw < H.next ∧ gh < H.next := ⟨ok _ _ h.a, ok _ _ h.w, ok _ _ h.h⟩
/-- What comes of making a thing: the things then, and what is told. -/
def allocT (size : Nat) (T : Things) (k : Int) (l : List Nat) : Things := if (1 ≤ k ∧ k ≤ 9) ∧ l.length ≤ 255 ∧ usedOf T + l.length + 1 ≤ size then T ++ [⟨k.toNat, l⟩] else T
def allocV (size : Nat) (T : Things) (k : Int) (l : List Nat) : Value := if (1 ≤ k ∧ k ≤ 9) ∧ l.length ≤ 255 then (if usedOf T + l.length + 1 ≤ size then .tuple #[U (wordAt (usedOf T)), I 0] else .tuple #[U 0, I 20]) else .tuple #[U 0, I 1]
theorem arena_AllocV (H : HHeap) (g gw gh size : Nat) (T : Things) (hA : AtA H g gw gh size T) (k : Int) (l : List Nat) (n : Nat) (hn : n = l.length) (hl : ∀ x ∈ l, x < 18446744073709551616) (a : Option Addr) (c : Nat) (hsrc : ∀ H' : HHeap, (∀ b, b ≠ g → b ≠ gw → b ≠ gh → H'.get b = H.get b) → hsource H' 1 (.slice a n c) = some (l.map U, n)) (R : Value → HHeap → Prop)
    (hR : ∀ H', AtA H' g gw gh size (allocT size T k l) → (∀ b, b ≠ g → b ≠ gw → b ≠ gh → H'.get b = H.get b) → H'.next = H.next → R (allocV size T k l) H') : HCalls Try.prog 25 [ptr g 0, I k, .slice a n c] H R := by
  have n1 := hA.ne1
  have n2 := hA.ne2
  have n3 := hA.ne3
  unfold allocT allocV at hR
  refine arena_Alloc _ _ _ _ _ _ hA k _ l n hn hl a c rfl hsrc R ?_ ?_ ?_
  · intro h1 h2 h3
    have := hR (putT H g gw gh size (T ++ [⟨k.toNat, l⟩]))
    rw [if_pos ⟨h1, by omega, by omega⟩, if_pos ⟨h1, by omega⟩, if_pos (by omega)] at this
    refine this ⟨by unfold putT; simp (disch := first | omega | (simp only [nx_push, nx_set, nx_kill]; done) | (simp only [nx_push, nx_set, nx_kill]; omega)) only [get_push_ne, get_push_eq, get_set_ne, get_set_eq, get_kill_ne, nx_push, nx_set, nx_kill], by unfold putT; simp (disch := first | omega | (simp only [nx_push, nx_set, nx_kill]; done) | (simp only [nx_push, nx_set, nx_kill]; omega)) only [get_push_ne, get_push_eq, get_set_ne, get_set_eq, get_kill_ne, nx_push, nx_set, nx_kill], by unfold putT; simp (disch := first | omega | (simp only [nx_push, nx_set, nx_kill]; done) | (simp only [nx_push, nx_set, nx_kill]; omega)) only [get_push_ne, get_push_eq, get_set_ne, get_set_eq, get_kill_ne, nx_push, nx_set, nx_kill], ?_, hA.big, hA.pos, ?_, n1, n2, n3⟩ ?_ ?_
    · rw [usedOf_append]; simp [usedOf, Thing.room]; omega
    · intro u hu
      rcases List.mem_append.1 hu with hu | hu
      · exact hA.ok u hu
      · rw [List.mem_singleton.1 hu]; exact ⟨by simp only; omega, by simp only; omega, by simp only; omega, hl⟩
    · intro b b1 b2 b3; unfold putT; simp (disch := first | omega | (simp only [nx_push, nx_set, nx_kill]; done) | (simp only [nx_push, nx_set, nx_kill]; omega)) only [get_push_ne, get_push_eq, get_set_ne, get_set_eq, get_kill_ne, nx_push, nx_set, nx_kill]
    · unfold putT; simp (disch := first | omega | (simp only [nx_push, nx_set, nx_kill]; done) | (simp only [nx_push, nx_set, nx_kill]; omega)) only [get_push_ne, get_push_eq, get_set_ne, get_set_eq, get_kill_ne, nx_push, nx_set, nx_kill]
  · intro h1 h2 h3
    have := hR H
    rw [if_neg (by omega), if_pos ⟨h1, by omega⟩, if_neg (by omega)] at this
    exact this hA (fun _ _ _ _ => rfl) rfl
  · intro h1
    have := hR H
    rw [if_neg (by omega), if_neg (by omega)] at this
    exact this hA (fun _ _ _ _ => rfl) rfl
theorem r02_AllocV (H : HHeap) (gr size : Nat) (T : Things) (tv : Value) (lvs : List Value) (hA : RefAt H gr size T tv lvs) (hsz : size ≤ 65536) (hu : usedOf T ≤ size) (k : Int) (l : List Nat) (n : Nat) (hn : n = l.length) (hl : ∀ x ∈ l, x < 18446744073709551616) (a : Option Addr) (c : Nat)
    (hsrc : ∀ H' : HHeap, (∀ b, b < H.next → b ∉ rblks gr tv lvs → H'.get b = H.get b) → hsource H' 1 (.slice a n c) = some (l.map U, n)) (R : Value → HHeap → Prop)
    (hR : ∀ H' tv' lvs', RefAt H' gr size (allocT size T k l) tv' lvs' → H.next ≤ H'.next → (∀ b, b < H.next → b ∉ rblks gr tv lvs → H'.get b = H.get b) →
      (∀ b ∈ rblks gr tv' lvs', b ∈ rblks gr tv lvs ∨ H.next ≤ b) → R (allocV size T k l) H') : HCalls Try.prog 28 [ptr gr 0, I k, .slice a n c] H R := by
  unfold allocT allocV at hR
  refine r02_Alloc _ _ _ _ _ _ hA hsz hu k _ l n hn hl a c rfl hsrc R ?_ ?_ ?_
  · intro H' tv' lv h1 h2 h3 h4 h5 h6 h7
    have := hR H' tv' (lvs ++ [lv])
    rw [if_pos ⟨h1, by omega, by omega⟩, if_pos ⟨h1, by omega⟩, if_pos (by omega)] at this
    exact this h4 h5 h6 h7
  · intro h1 h2 h3
    have := hR H tv lvs
    rw [if_neg (by omega), if_pos ⟨h1, by omega⟩, if_neg (by omega)] at this
    exact this hA (Nat.le_refl _) (fun _ _ _ => rfl) (fun b hb => .inl hb)
  · intro h1
    have := hR H tv lvs
    rw [if_neg (by omega), if_neg (by omega)] at this
    exact this hA (Nat.le_refl _) (fun _ _ _ => rfl) (fun b hb => .inl hb)

theorem law_build (H : HHeap) (v : Value) (roots : List Nat) (hv : HeapArg H v roots) (R : Value → HHeap → Prop)
    (hR : ∀ H' n g gw gh gr T tv lvs rv, 1 ≤ n → n ≤ 1025 → AtA H' g gw gh n T → RefAt H' gr n T tv lvs → RowS H' rv ((roots.take 20).map U) → (∀ b, b < H.next → H'.get b = H.get b) → H.next ≤ H'.next →
      (H.next ≤ g ∧ H.next ≤ gw ∧ H.next ≤ gh) → (∀ b ∈ rblks gr tv lvs, H.next ≤ b ∧ b ≠ g ∧ b ≠ gw ∧ b ≠ gh) → R (.tuple #[ptr g 0, ptr gr 0, rv]) H') : HCalls Try.prog 11 [v] H R := by
  refine HCalls.ok fun hok => ?_
  obtain ⟨⟨size, tv0, rv, k, cells, rfl, ⟨z1, z2⟩, hts, hrs, hel⟩, hrl⟩ := hv
  have hsz : ∃ n : Nat, 1 + (size / 1048576 % 2 * 1048576) / 1048576 + size % 1024 = (n : Int) ∧ 1 ≤ n ∧ n ≤ 1025 := ⟨(1 + (size / 1048576 % 2 * 1048576) / 1048576 + size % 1024).toNat, by omega, by omega, by omega⟩
  obtain ⟨n, hn, hn1, hn2⟩ := hsz
  refine HCalls.of_hw Try.func11 rfl _ Try.ntmps11 _ (by rw [Try.results11]) ?_
  rw [hframe0_eq _ _ (by simp)]
  simp only [List.zipIdx_cons, List.zipIdx_nil, List.map_cons, List.map_nil, Nat.reduceAdd]
  have hml : maxLen = 9223372036854775807 := by decide
  have hts' := hts
  obtain ⟨ts1, ts2, ta, tc, rfl, ts4, ts5⟩ := hts'
  have hrs' := hrs
  obtain ⟨rs1, rs2, ra, rc, rfl, rs4, rs5⟩ := hrs'
  simp (disch := first | omega | (show allOne _ = true; simp [allOne, Value.oneCell']) | (simp only [List.length_cons, List.length_nil, List.length_set, List.length_map, List.length_replicate, List.length_append, List.length_take, List.length_drop, Int.toNat_natCast, Int.toNat_of_nonneg, nx_push, nx_set, nx_kill]; done) | (simp only [List.length_cons, List.length_nil, List.length_set, List.length_map, List.length_replicate, List.length_append, List.length_take, List.length_drop, Int.toNat_natCast, Int.toNat_of_nonneg, nx_push, nx_set, nx_kill]; omega)) only [go_sem, reduceCtorEq, Nat.reduceAdd, Nat.reduceSub, Nat.reduceMul, Nat.reduceLT, Nat.reduceLeDiff, Nat.reduceEqDiff, Nat.reduceBEq, Nat.reduceBNe, Int.reduceBEq, Int.reduceEq, Int.reduceLT, Int.reduceLE, Int.reduceAdd, Int.reduceSub, ↓reduceIte, Int.reduceToNat, Nat.reduceShiftRight, Nat.reduceAnd, hbox_agg, ldc_cells, hn]
  refine arena_New n hn1 (by omega) _ _ ?_
  intro H1 g gw gh b1 b2 b3 b4 b5 b6 b7 hA1
  rw [nx_push] at b1 b2 b3 b7
  simp (disch := first | omega | (show allOne _ = true; simp [allOne, Value.oneCell']) | (simp only [List.length_cons, List.length_nil, List.length_set, List.length_map, List.length_replicate, List.length_append, List.length_take, List.length_drop, Int.toNat_natCast, Int.toNat_of_nonneg, nx_push, nx_set, nx_kill]; done) | (simp only [List.length_cons, List.length_nil, List.length_set, List.length_map, List.length_replicate, List.length_append, List.length_take, List.length_drop, Int.toNat_natCast, Int.toNat_of_nonneg, nx_push, nx_set, nx_kill]; omega)) only [go_sem, reduceCtorEq, Nat.reduceAdd, Nat.reduceSub, Nat.reduceMul, Nat.reduceLT, Nat.reduceLeDiff, Nat.reduceEqDiff, Nat.reduceBEq, Nat.reduceBNe, Int.reduceBEq, Int.reduceEq, Int.reduceLT, Int.reduceLE, Int.reduceAdd, Int.reduceSub, ↓reduceIte, Int.reduceToNat, Nat.reduceShiftRight, Nat.reduceAnd]
  refine r02_New n hn1 (by omega) _ _ ?_
  intro H2 hr2 hn3 hk2
  have hbx : H2.get H.next = some (.cells [I size, .slice ta k tc, .slice ra roots.length rc] true) := by
    rw [hk2 _ (by omega), b7 _ (by omega)]; simp (disch := first | omega | (simp only [nx_push, nx_set, nx_kill]; done) | (simp only [nx_push, nx_set, nx_kill]; omega)) only [get_push_ne, get_push_eq, get_set_ne, get_set_eq, get_kill_ne, nx_push, nx_set, nx_kill]
  simp (disch := first | omega | (show allOne _ = true; simp [allOne, Value.oneCell']) | (simp only [List.length_cons, List.length_nil, List.length_set, List.length_map, List.length_replicate, List.length_append, List.length_take, List.length_drop, Int.toNat_natCast, Int.toNat_of_nonneg, nx_push, nx_set, nx_kill]; done) | (simp only [List.length_cons, List.length_nil, List.length_set, List.length_map, List.length_replicate, List.length_append, List.length_take, List.length_drop, Int.toNat_natCast, Int.toNat_of_nonneg, nx_push, nx_set, nx_kill]; omega)) only [go_sem, reduceCtorEq, Nat.reduceAdd, Nat.reduceSub, Nat.reduceMul, Nat.reduceLT, Nat.reduceLeDiff, Nat.reduceEqDiff, Nat.reduceBEq, Nat.reduceBNe, Int.reduceBEq, Int.reduceEq, Int.reduceLT, Int.reduceLE, Int.reduceAdd, Int.reduceSub, ↓reduceIte, Int.reduceToNat, Nat.reduceShiftRight, Nat.reduceAnd, ldc_cells, hbx]
  have hbelow : ∀ b, b < H.next → H2.get b = H.get b := fun b hb => by rw [hk2 _ (by omega), b7 _ (by omega)]; simp (disch := first | omega | (simp only [nx_push, nx_set, nx_kill]; done) | (simp only [nx_push, nx_set, nx_kill]; omega)) only [get_push_ne, get_push_eq, get_set_ne, get_set_eq, get_kill_ne, nx_push, nx_set, nx_kill]
  have hA2 : AtA H2 g gw gh n [] := hA1.frame (by rintro b (rfl | rfl | rfl) <;> exact hk2 _ (by omega))
  have hsep2 : ∀ b ∈ rblks H1.next (.slice none 0 0) [], H.next + 1 ≤ b ∧ b ≠ g ∧ b ≠ gw ∧ b ≠ gh := fun b hb => by simp [rblks, sblk] at hb; omega
  refine Hwp.loop (fun m fr H' => ∃ i T tv lvs, m = k - i ∧ i ≤ k ∧ AtA H' g gw gh n T ∧ RefAt H' H1.next n T tv lvs ∧ (∀ b, b < H.next → H'.get b = H.get b) ∧ H'.get H.next = some (.cells [I size, .slice ta k tc, .slice ra roots.length rc] true) ∧
      (∀ b ∈ rblks H1.next tv lvs, H.next + 1 ≤ b ∧ b ≠ g ∧ b ≠ gw ∧ b ≠ gh) ∧
     FLe (hfr 73 [(34, I i), (33, I k), (32, .slice ta k tc), (8, ptr H1.next 0), (6, ptr g 0), (1, ptr H.next 0)]) fr) k ?_ ?_
  · exact ⟨0, [], .slice none 0 0, [], by omega, by omega, hA2, hr2, hbelow, hbx, hsep2, fle_of (by simp [flook])⟩
  · rintro m fr H3 ⟨i, T, tv, lvs, rfl, hi, hA, hr, hk, hb0, hsep, hle⟩
    refine Hwp.ok fun hok3 => Hwp.weaken hle (HW.sound _ _ _ _ ?_)
    obtain ⟨lg1, lg2, lg3⟩ := hA.lt hok3
    have lgr := hr.lt hok3
    have lgn := hok3 _ _ hb0
    by_cases hc : i < k
    · obtain ⟨kd, lv, l, e1, e2, hls, hll⟩ := hel i hc
      have hls' := hls
      obtain ⟨ls1, ls2, la, lc, rfl, ls4, ls5⟩ := hls'
      rcases ts5 with ⟨rfl, rfl⟩ | ⟨tb, rfl, ts6⟩
      · omega
      · have htb := ts6 (by omega)
        have htbl := hok _ _ htb
        have htg : H3.get tb = some (.cells cells false) := by rw [hk tb htbl]; exact htb
        have hcell : (cells.drop (i * 2)).take 2 = [I kd, .slice la l.length lc] := cells2 (by rw [Nat.mul_comm]; exact e1) (by rw [Nat.mul_comm]; exact e2)
        have hcl := hts.1
        have hst : ∀ v0 v1 : Value, splice [.int .i64 0, .slice none 0 0] 0 [v0, v1] = [v0, v1] := fun _ _ => rfl
        have hA3 : AtA (H3.push (.cells [I kd, .slice la l.length lc] true)) g gw gh n T := hA.frame (by rintro b (rfl | rfl | rfl) <;> simp (disch := first | omega | (simp only [nx_push, nx_set, nx_kill]; done) | (simp only [nx_push, nx_set, nx_kill]; omega)) only [get_push_ne, get_push_eq, get_set_ne, get_set_eq, get_kill_ne, nx_push, nx_set, nx_kill])
        simp (disch := first | omega | (show allOne _ = true; simp [allOne, Value.oneCell']) | (simp only [List.length_cons, List.length_nil, List.length_set, List.length_map, List.length_replicate, List.length_append, List.length_take, List.length_drop, Int.toNat_natCast, Int.toNat_of_nonneg, nx_push, nx_set, nx_kill]; done) | (simp only [List.length_cons, List.length_nil, List.length_set, List.length_map, List.length_replicate, List.length_append, List.length_take, List.length_drop, Int.toNat_natCast, Int.toNat_of_nonneg, nx_push, nx_set, nx_kill]; omega)) only [go_sem, reduceCtorEq, Nat.reduceAdd, Nat.reduceSub, Nat.reduceMul, Nat.reduceLT, Nat.reduceLeDiff, Nat.reduceEqDiff, Nat.reduceBEq, Nat.reduceBNe, Int.reduceBEq, Int.reduceEq, Int.reduceLT, Int.reduceLE, Int.reduceAdd, Int.reduceSub, ↓reduceIte, Int.reduceToNat, Nat.reduceShiftRight, Nat.reduceAnd, ixa_ok, htg, lda_cells, hcell, sta_cells, push_set, hst]
        have hxb : (H3.push (.cells [I kd, .slice la l.length lc] true)).get H3.next = some (.cells [I kd, .slice la l.length lc] true) := by simp (disch := first | omega | (simp only [nx_push, nx_set, nx_kill]; done) | (simp only [nx_push, nx_set, nx_kill]; omega)) only [get_push_ne, get_push_eq, get_set_ne, get_set_eq, get_kill_ne, nx_push, nx_set, nx_kill]
        have hok4 : (H3.push (.cells [I kd, .slice la l.length lc] true)).Ok := by
          intro b o hb
          rw [HHeap.get_push] at hb
          split at hb
          · subst_vars; simp
          · have := hok3 _ _ hb; simp; omega
        have hr4 : RefAt (H3.push (.cells [I kd, .slice la l.length lc] true)) H1.next n T tv lvs := hr.frame (by simp) fun b hb => by have := lgr b hb; simp (disch := first | omega | (simp only [nx_push, nx_set, nx_kill]; done) | (simp only [nx_push, nx_set, nx_kill]; omega)) only [get_push_ne, get_push_eq, get_set_ne, get_set_eq, get_kill_ne, nx_push, nx_set, nx_kill]
        have hcut : ∀ H' : HHeap, (∀ b, b < H.next → H'.get b = H.get b) → ∀ m, m ≤ l.length → hsource H' 1 (.slice la m lc) = some ((l.take m).map U, m) := fun H' hf m hm => by
          rw [slarg_source hls hm hok hf, Nat.mul_one, List.map_take]
        have hsl : ∀ m : Nat, m ≤ l.length → hslice Try.prog 23 (.slice la l.length lc) none (some (.int .i64 (m : Int))) none = some (.slice la m lc) := fun m hm => slarg_hi Try.underlying23 sz42 hls hm
        obtain ⟨m9, hm9, hm9l⟩ : ∃ m9 : Nat, m9 = min l.length 9 ∧ m9 ≤ l.length := ⟨_, rfl, Nat.min_le_left _ _⟩
        have hmin : hmin2 (.int .i64 (l.length : Int)) (.int .i64 9) = some (.int .i64 (m9 : Int)) := by unfold hmin2; simp only; split <;> (congr 2; omega)
        by_cases h60 : (i : Int) < 60
        · simp (disch := first | omega | (show allOne _ = true; simp [allOne, Value.oneCell']) | (simp only [List.length_cons, List.length_nil, List.length_set, List.length_map, List.length_replicate, List.length_append, List.length_take, List.length_drop, Int.toNat_natCast, Int.toNat_of_nonneg, nx_push, nx_set, nx_kill]; done) | (simp only [List.length_cons, List.length_nil, List.length_set, List.length_map, List.length_replicate, List.length_append, List.length_take, List.length_drop, Int.toNat_natCast, Int.toNat_of_nonneg, nx_push, nx_set, nx_kill]; omega)) only [go_sem, reduceCtorEq, Nat.reduceAdd, Nat.reduceSub, Nat.reduceMul, Nat.reduceLT, Nat.reduceLeDiff, Nat.reduceEqDiff, Nat.reduceBEq, Nat.reduceBNe, Int.reduceBEq, Int.reduceEq, Int.reduceLT, Int.reduceLE, Int.reduceAdd, Int.reduceSub, ↓reduceIte, Int.reduceToNat, Nat.reduceShiftRight, Nat.reduceAnd]
          refine Hwp.drawn mixed [0, 0, 2, 0, 8, 0, 32, 96, 224, 504, 1023] (.op 0 (.op 1 (.op 2 (.op 3 (.op 4 (.op 5 (.op 6 (.op 7 (.op 8 (.op 9 (.eff 10 .done .stop))))))))))) (by kernel_rfl) ?_
          simp (disch := first | omega | (show allOne _ = true; simp [allOne, Value.oneCell']) | (simp only [List.length_cons, List.length_nil, List.length_set, List.length_map, List.length_replicate, List.length_append, List.length_take, List.length_drop, Int.toNat_natCast, Int.toNat_of_nonneg, nx_push, nx_set, nx_kill]; done) | (simp only [List.length_cons, List.length_nil, List.length_set, List.length_map, List.length_replicate, List.length_append, List.length_take, List.length_drop, Int.toNat_natCast, Int.toNat_of_nonneg, nx_push, nx_set, nx_kill]; omega)) only [go_sem, reduceCtorEq, Nat.reduceAdd, Nat.reduceSub, Nat.reduceMul, Nat.reduceLT, Nat.reduceLeDiff, Nat.reduceEqDiff, Nat.reduceBEq, Nat.reduceBNe, Int.reduceBEq, Int.reduceEq, Int.reduceLT, Int.reduceLE, Int.reduceAdd, Int.reduceSub, ↓reduceIte, Int.reduceToNat, Nat.reduceShiftRight, Nat.reduceAnd, hxb, ldc_cells, hmin, hsl]
          have hl9 : (l.take m9).length = m9 := by simp; omega
          have hlt9 : ∀ x ∈ l.take m9, x < 18446744073709551616 := fun x hx => hll x (List.mem_of_mem_take hx)
          have hst9 : ∀ V, V = allocV n T kd (l.take m9) → ∃ x y, V = .tuple #[x, y] := fun V hV => by subst hV; unfold allocV; split <;> (try split) <;> exact ⟨_, _, rfl⟩
          refine arena_AllocV _ _ _ _ _ _ hA3 kd (l.take m9) m9 hl9.symm hlt9 la lc (fun H' hf => hcut H' (fun b hb => by
            rw [hf b (by omega) (by omega) (by omega), get_push_ne _ _ (by omega)]; exact hk b hb) m9 hm9l) _ ?_
          intro H5 hA5 hf5 hn5
          rw [nx_push] at hn5
          have hr5 : RefAt H5 H1.next n T tv lvs := hr4.frame (by simp (disch := first | omega | (simp only [nx_push, nx_set, nx_kill]; done) | (simp only [nx_push, nx_set, nx_kill]; omega)) only [get_push_ne, get_push_eq, get_set_ne, get_set_eq, get_kill_ne, nx_push, nx_set, nx_kill]; omega) fun b hb => by
            obtain ⟨s1, s2, s3, s4⟩ := hsep b hb
            exact hf5 b s2 s3 s4
          have hxb5 : H5.get H3.next = some (.cells [I kd, .slice la l.length lc] true) := by
            rw [hf5 _ (by omega) (by omega) (by omega)]; exact hxb
          have hk5 : ∀ b, b < H.next → H5.get b = H.get b := fun b hb => by rw [hf5 b (by omega) (by omega) (by omega), get_push_ne _ _ (by omega)]; exact hk b hb
          simp (disch := first | omega | (show allOne _ = true; simp [allOne, Value.oneCell']) | (simp only [List.length_cons, List.length_nil, List.length_set, List.length_map, List.length_replicate, List.length_append, List.length_take, List.length_drop, Int.toNat_natCast, Int.toNat_of_nonneg, nx_push, nx_set, nx_kill]; done) | (simp only [List.length_cons, List.length_nil, List.length_set, List.length_map, List.length_replicate, List.length_append, List.length_take, List.length_drop, Int.toNat_natCast, Int.toNat_of_nonneg, nx_push, nx_set, nx_kill]; omega)) only [go_sem, reduceCtorEq, Nat.reduceAdd, Nat.reduceSub, Nat.reduceMul, Nat.reduceLT, Nat.reduceLeDiff, Nat.reduceEqDiff, Nat.reduceBEq, Nat.reduceBNe, Int.reduceBEq, Int.reduceEq, Int.reduceLT, Int.reduceLE, Int.reduceAdd, Int.reduceSub, ↓reduceIte, Int.reduceToNat, Nat.reduceShiftRight, Nat.reduceAnd]
          refine Hwp.drawn mixed [0, 0, 2, 0, 8, 0, 32, 96, 224, 504, 1023] (.op 0 (.op 1 (.op 2 (.op 3 (.op 4 (.op 5 (.op 6 (.op 7 (.op 8 (.op 9 (.eff 10 .done .stop))))))))))) (by kernel_rfl) ?_
          simp (disch := first | omega | (show allOne _ = true; simp [allOne, Value.oneCell']) | (simp only [List.length_cons, List.length_nil, List.length_set, List.length_map, List.length_replicate, List.length_append, List.length_take, List.length_drop, Int.toNat_natCast, Int.toNat_of_nonneg, nx_push, nx_set, nx_kill]; done) | (simp only [List.length_cons, List.length_nil, List.length_set, List.length_map, List.length_replicate, List.length_append, List.length_take, List.length_drop, Int.toNat_natCast, Int.toNat_of_nonneg, nx_push, nx_set, nx_kill]; omega)) only [go_sem, reduceCtorEq, Nat.reduceAdd, Nat.reduceSub, Nat.reduceMul, Nat.reduceLT, Nat.reduceLeDiff, Nat.reduceEqDiff, Nat.reduceBEq, Nat.reduceBNe, Int.reduceBEq, Int.reduceEq, Int.reduceLT, Int.reduceLE, Int.reduceAdd, Int.reduceSub, ↓reduceIte, Int.reduceToNat, Nat.reduceShiftRight, Nat.reduceAnd, hxb5, ldc_cells, hmin, hsl]
          refine r02_AllocV _ _ _ _ _ _ hr5 (by omega) hA.room kd (l.take m9) m9 hl9.symm hlt9 la lc (fun H' hf => hcut H' (fun b hb => by
            rw [hf b (by omega) (fun hm => by have := hsep b hm; omega)]; exact hk5 b hb) m9 hm9l) _ ?_
          intro H6 tv6 lvs6 hr6 hn6 hf6 hb6
          have hnot : ∀ b, (∀ x ∈ rblks H1.next tv lvs, b ≠ x) → b ∉ rblks H1.next tv lvs := fun b h hm => h b hm rfl
          have hA6 : AtA H6 g gw gh n (allocT n T kd (l.take m9)) := hA5.frame (by rintro b (rfl | rfl | rfl) <;> exact hf6 _ (by omega) (hnot _ fun x hx => by have := hsep x hx; omega))
          simp (disch := first | omega | (show allOne _ = true; simp [allOne, Value.oneCell']) | (simp only [List.length_cons, List.length_nil, List.length_set, List.length_map, List.length_replicate, List.length_append, List.length_take, List.length_drop, Int.toNat_natCast, Int.toNat_of_nonneg, nx_push, nx_set, nx_kill]; done) | (simp only [List.length_cons, List.length_nil, List.length_set, List.length_map, List.length_replicate, List.length_append, List.length_take, List.length_drop, Int.toNat_natCast, Int.toNat_of_nonneg, nx_push, nx_set, nx_kill]; omega)) only [go_sem, reduceCtorEq, Nat.reduceAdd, Nat.reduceSub, Nat.reduceMul, Nat.reduceLT, Nat.reduceLeDiff, Nat.reduceEqDiff, Nat.reduceBEq, Nat.reduceBNe, Int.reduceBEq, Int.reduceEq, Int.reduceLT, Int.reduceLE, Int.reduceAdd, Int.reduceSub, ↓reduceIte, Int.reduceToNat, Nat.reduceShiftRight, Nat.reduceAnd]
          refine ⟨_, ?_, i + 1, _, tv6, lvs6, rfl, by omega, hA6, hr6, ?_, ?_, ?_, fle_of (by simp [flook])⟩
          · omega
          · intro b hb
            rw [hf6 b (by omega) (hnot _ fun x hx => by have := hsep x hx; omega)]; exact hk5 b hb
          · rw [hf6 _ (by omega) (hnot _ fun x hx => by have := hsep x hx; omega), hf5 _ (by omega) (by omega) (by omega), get_push_ne _ _ (by omega)]; exact hb0
          · intro b hb
            rcases hb6 b hb with h | h
            · exact hsep b h
            · omega
        · simp (disch := first | omega | (show allOne _ = true; simp [allOne, Value.oneCell']) | (simp only [List.length_cons, List.length_nil, List.length_set, List.length_map, List.length_replicate, List.length_append, List.length_take, List.length_drop, Int.toNat_natCast, Int.toNat_of_nonneg, nx_push, nx_set, nx_kill]; done) | (simp only [List.length_cons, List.length_nil, List.length_set, List.length_map, List.length_replicate, List.length_append, List.length_take, List.length_drop, Int.toNat_natCast, Int.toNat_of_nonneg, nx_push, nx_set, nx_kill]; omega)) only [go_sem, reduceCtorEq, Nat.reduceAdd, Nat.reduceSub, Nat.reduceMul, Nat.reduceLT, Nat.reduceLeDiff, Nat.reduceEqDiff, Nat.reduceBEq, Nat.reduceBNe, Int.reduceBEq, Int.reduceEq, Int.reduceLT, Int.reduceLE, Int.reduceAdd, Int.reduceSub, ↓reduceIte, Int.reduceToNat, Nat.reduceShiftRight, Nat.reduceAnd]
          refine ⟨_, ?_, i + 1, T, tv, lvs, rfl, by omega, hA3, hr4, ?_, ?_, hsep, fle_of (by simp [flook])⟩
          · omega
          · intro b hb; first | exact hk b hb | (rw [get_push_ne _ _ (by omega)]; exact hk b hb)
          · first | exact hb0 | (rw [get_push_ne _ _ (by omega)]; exact hb0)
    · simp (disch := first | omega | (show allOne _ = true; simp [allOne, Value.oneCell']) | (simp only [List.length_cons, List.length_nil, List.length_set, List.length_map, List.length_replicate, List.length_append, List.length_take, List.length_drop, Int.toNat_natCast, Int.toNat_of_nonneg, nx_push, nx_set, nx_kill]; done) | (simp only [List.length_cons, List.length_nil, List.length_set, List.length_map, List.length_replicate, List.length_append, List.length_take, List.length_drop, Int.toNat_natCast, Int.toNat_of_nonneg, nx_push, nx_set, nx_kill]; omega)) only [go_sem, reduceCtorEq, Nat.reduceAdd, Nat.reduceSub, Nat.reduceMul, Nat.reduceLT, Nat.reduceLeDiff, Nat.reduceEqDiff, Nat.reduceBEq, Nat.reduceBNe, Int.reduceBEq, Int.reduceEq, Int.reduceLT, Int.reduceLE, Int.reduceAdd, Int.reduceSub, ↓reduceIte, Int.reduceToNat, Nat.reduceShiftRight, Nat.reduceAnd]
      refine Hwp.drawn mixed [0, 0, 0, 4, 0, 16, 48, 112, 252, 1, 515, 2047] (.op 0 (.op 1 (.op 2 (.op 3 (.op 4 (.op 5 (.op 6 (.op 7 (.op 8 (.op 9 (.op 10 (.op 11 .done)))))))))))) (by kernel_rfl) ?_
      obtain ⟨m9, hm9, hm9l⟩ : ∃ m9 : Nat, m9 = min roots.length 20 ∧ m9 ≤ roots.length := ⟨_, rfl, Nat.min_le_left _ _⟩
      have hmin : hmin2 (.int .i64 (roots.length : Int)) (.int .i64 20) = some (.int .i64 (m9 : Int)) := by unfold hmin2; simp only; split <;> (congr 2; omega)
      have hsl : hslice Try.prog 23 (.slice ra roots.length rc) none (some (.int .i64 (m9 : Int))) none = some (.slice ra m9 rc) := slarg_hi Try.underlying23 sz42 hrs hm9l
      simp (disch := first | omega | (show allOne _ = true; simp [allOne, Value.oneCell']) | (simp only [List.length_cons, List.length_nil, List.length_set, List.length_map, List.length_replicate, List.length_append, List.length_take, List.length_drop, Int.toNat_natCast, Int.toNat_of_nonneg, nx_push, nx_set, nx_kill]; done) | (simp only [List.length_cons, List.length_nil, List.length_set, List.length_map, List.length_replicate, List.length_append, List.length_take, List.length_drop, Int.toNat_natCast, Int.toNat_of_nonneg, nx_push, nx_set, nx_kill]; omega)) only [go_sem, reduceCtorEq, Nat.reduceAdd, Nat.reduceSub, Nat.reduceMul, Nat.reduceLT, Nat.reduceLeDiff, Nat.reduceEqDiff, Nat.reduceBEq, Nat.reduceBNe, Int.reduceBEq, Int.reduceEq, Int.reduceLT, Int.reduceLE, Int.reduceAdd, Int.reduceSub, ↓reduceIte, Int.reduceToNat, Nat.reduceShiftRight, Nat.reduceAnd, hb0, ldc_cells, hmin, hsl]
      refine hR H3 n g gw gh H1.next T tv lvs _ hn1 hn2 hA hr ?_ hk (by omega) ⟨by omega, by omega, by omega⟩ (fun b hb => by have := hsep b hb; omega)
      have hl9 : m9 = ((roots.take 20).map U).length := by simp; omega
      refine ⟨ra, rc, by rw [← hl9], by rw [← hl9]; omega, ?_⟩
      rcases rs5 with ⟨rfl, rfl⟩ | ⟨b, rfl, rs6⟩
      · exact .inl ⟨rfl, rfl⟩
      · refine .inr ⟨b, 0, none, rfl, .inl rfl, ?_⟩
        by_cases h0 : roots.length = 0
        · left
          have : roots = [] := by simpa using h0
          subst this; simp
        · right
          have hg := rs6 h0
          have hbl := hok _ _ hg
          refine ⟨_, false, by rw [hk b hbl]; exact hg, fun i v hv => ?_⟩
          rw [List.getElem?_map, Option.map_eq_some_iff] at hv
          obtain ⟨x, hx, rfl⟩ := hv
          rw [List.getElem?_take] at hx
          split at hx
          · rw [Nat.zero_add, List.getElem?_map, hx]; rfl
          · cases hx
end Go.HL
