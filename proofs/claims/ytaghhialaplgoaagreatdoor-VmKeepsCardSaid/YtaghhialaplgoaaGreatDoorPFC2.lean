/-
  Walks: arenas (making).
-/
import Derived.Test.YtaghhialaplgoaaGreatDoorPFC1
set_option linter.unusedVariables false
set_option linter.unusedSimpArgs false
namespace Go.HL
open Go.RowKit Go.Proofs
set_option maxHeartbeats 4000000
set_option maxRecDepth 100000
set_option linter.unusedSimpArgs false
set_option linter.unusedVariables false
theorem arena_New (n : Nat) (h1 : 1 ≤ n) (h2 : n ≤ 65536) (H : HHeap) (R : Value → HHeap → Prop)
    (hR : ∀ H' g gw gh, H.next ≤ g → H.next ≤ gw → H.next ≤ gh → g < H'.next → gw < H'.next → gh < H'.next → (∀ b, b < H.next → H'.get b = H.get b) → AtA H' g gw gh n [] → R (.tuple #[ptr g 0, I 0]) H') : HCalls Tryz.prog 22 [I n] H R := by
  refine HCalls.of_hw Tryz.func22 rfl _ Tryz.ntmps22 _ (by rw [Tryz.results22]) ?_
  rw [hframe0_eq _ _ (by simp)]
  simp only [List.zipIdx_cons, List.zipIdx_nil, List.map_cons, List.map_nil, Nat.reduceAdd]
  simp (disch := first | omega | (show allOne _ = true; simp [allOne, Value.oneCell', S]) | (simp only [qz]; first | done | omega)) only [go_sem]
  refine Hwp.drawn mixed [0, 1, 0, 4, 15, 31, 63, 127] (.op 0 (.op 2 (.eff 1 (.eff 3 (.op 4 (.eff 5 (.op 6 (.op 7 .done)) .stop)) .stop) (.eff 3 (.eff 1 (.op 4 (.eff 5 (.op 6 (.op 7 .done)) .stop)) .stop) .stop)))) (by kernel_rfl) ?_
  simp (disch := first | omega | (show allOne _ = true; simp [allOne, Value.oneCell', S]) | (simp only [qz]; first | done | omega)) only [go_sem, mks_ok, hbox_agg]
  constructor
  · refine hR _ (H.next + 1 + 1) H.next (H.next + 1) (by omega) (by omega) (by omega) ?_ ?_ ?_ ?_ ?_
    · simp (disch := first | omega | (simp only [nx_push, nx_set, nx_kill]; done) | (simp only [nx_push, nx_set, nx_kill]; omega)) only [get_push_ne, get_push_eq, get_set_ne, get_set_eq, get_kill_ne, nx_push, nx_set, nx_kill]; omega
    · simp (disch := first | omega | (simp only [nx_push, nx_set, nx_kill]; done) | (simp only [nx_push, nx_set, nx_kill]; omega)) only [get_push_ne, get_push_eq, get_set_ne, get_set_eq, get_kill_ne, nx_push, nx_set, nx_kill]; omega
    · simp (disch := first | omega | (simp only [nx_push, nx_set, nx_kill]; done) | (simp only [nx_push, nx_set, nx_kill]; omega)) only [get_push_ne, get_push_eq, get_set_ne, get_set_eq, get_kill_ne, nx_push, nx_set, nx_kill]; omega
    · intro b hb; simp (disch := first | omega | (simp only [nx_push, nx_set, nx_kill]; done) | (simp only [nx_push, nx_set, nx_kill]; omega)) only [get_push_ne, get_push_eq, get_set_ne, get_set_eq, get_kill_ne, nx_push, nx_set, nx_kill]
    · exact ⟨by simp (disch := first | omega | (simp only [nx_push, nx_set, nx_kill]; done) | (simp only [nx_push, nx_set, nx_kill]; omega)) only [get_push_ne, get_push_eq, get_set_ne, get_set_eq, get_kill_ne, nx_push, nx_set, nx_kill]; rfl, by simp (disch := first | omega | (simp only [nx_push, nx_set, nx_kill]; done) | (simp only [nx_push, nx_set, nx_kill]; omega)) only [get_push_ne, get_push_eq, get_set_ne, get_set_eq, get_kill_ne, nx_push, nx_set, nx_kill]; rfl, by simp (disch := first | omega | (simp only [nx_push, nx_set, nx_kill]; done) | (simp only [nx_push, nx_set, nx_kill]; omega)) only [get_push_ne, get_push_eq, get_set_ne, get_set_eq, get_kill_ne, nx_push, nx_set, nx_kill]; rfl, by simp [usedOf], h2, h1, by simp [TOk], by omega, by omega, by omega⟩
  · refine hR _ (H.next + 1 + 1) (H.next + 1) H.next (by omega) (by omega) (by omega) ?_ ?_ ?_ ?_ ?_
    · simp (disch := first | omega | (simp only [nx_push, nx_set, nx_kill]; done) | (simp only [nx_push, nx_set, nx_kill]; omega)) only [get_push_ne, get_push_eq, get_set_ne, get_set_eq, get_kill_ne, nx_push, nx_set, nx_kill]; omega
    · simp (disch := first | omega | (simp only [nx_push, nx_set, nx_kill]; done) | (simp only [nx_push, nx_set, nx_kill]; omega)) only [get_push_ne, get_push_eq, get_set_ne, get_set_eq, get_kill_ne, nx_push, nx_set, nx_kill]; omega
    · simp (disch := first | omega | (simp only [nx_push, nx_set, nx_kill]; done) | (simp only [nx_push, nx_set, nx_kill]; omega)) only [get_push_ne, get_push_eq, get_set_ne, get_set_eq, get_kill_ne, nx_push, nx_set, nx_kill]; omega
    · intro b hb; simp (disch := first | omega | (simp only [nx_push, nx_set, nx_kill]; done) | (simp only [nx_push, nx_set, nx_kill]; omega)) only [get_push_ne, get_push_eq, get_set_ne, get_set_eq, get_kill_ne, nx_push, nx_set, nx_kill]
    · exact ⟨by simp (disch := first | omega | (simp only [nx_push, nx_set, nx_kill]; done) | (simp only [nx_push, nx_set, nx_kill]; omega)) only [get_push_ne, get_push_eq, get_set_ne, get_set_eq, get_kill_ne, nx_push, nx_set, nx_kill]; rfl, by simp (disch := first | omega | (simp only [nx_push, nx_set, nx_kill]; done) | (simp only [nx_push, nx_set, nx_kill]; omega)) only [get_push_ne, get_push_eq, get_set_ne, get_set_eq, get_kill_ne, nx_push, nx_set, nx_kill]; rfl, by simp (disch := first | omega | (simp only [nx_push, nx_set, nx_kill]; done) | (simp only [nx_push, nx_set, nx_kill]; omega)) only [get_push_ne, get_push_eq, get_set_ne, get_set_eq, get_kill_ne, nx_push, nx_set, nx_kill]; rfl, by simp [usedOf], h2, h1, by simp [TOk], by omega, by omega, by omega⟩
def putT (H : HHeap) (g gw gh size : Nat) (T : Things) : HHeap := ((H.set gw (.cells (wcells size T) true)).set gh (.cells (hcells size T) true)).set g (.cells (acells gw gh size T) true)
theorem arena_Alloc (H : HHeap) (g gw gh size : Nat) (T : Things) (hA : AtA H g gw gh size T) (k : Int) (s : Value) (l : List Nat) (n : Nat) (hn : n = l.length) (hl : ∀ x ∈ l, x < 18446744073709551616) (a : Option Addr) (c : Nat) (hs : s = .slice a n c) (hsrc : ∀ H' : HHeap, (∀ b, b ≠ g → b ≠ gw → b ≠ gh → H'.get b = H.get b) → hsource H' 1 s = some (l.map U, n)) (R : Value → HHeap → Prop) 
    (h1 : (1 ≤ k ∧ k ≤ 9) → n ≤ 255 → usedOf T + n + 1 ≤ size → R (.tuple #[U (wordAt (usedOf T)), I 0]) (putT H g gw gh size (T ++ [⟨k.toNat, l⟩])))
    (h2 : (1 ≤ k ∧ k ≤ 9) → n ≤ 255 → size < usedOf T + n + 1 → R (.tuple #[U 0, I 20]) H)
    (h3 : ¬ ((1 ≤ k ∧ k ≤ 9) ∧ n ≤ 255) → R (.tuple #[U 0, I 1]) H) : HCalls Tryz.prog 49 [ptr g 0, I k, s] H R := by
  subst hs
  refine HCalls.of_hw Tryz.func49 rfl _ Tryz.ntmps49 _ (by rw [Tryz.results49]) ?_
  rw [hframe0_eq _ _ (by simp)]
  simp only [List.zipIdx_cons, List.zipIdx_nil, List.map_cons, List.map_nil, Nat.reduceAdd]
  by_cases hk1 : 1 ≤ k
  · by_cases hk2 : k ≤ 9
    · by_cases hn2 : n ≤ 255
      · have hroom := hA.room
        have hbig := hA.big
        simp (disch := first | omega | (show allOne _ = true; simp [allOne, Value.oneCell', S]) | (simp only [qz]; first | done | omega)) only [go_sem]
        refine arena_Size _ _ _ _ _ _ hA _ ?_
        simp (disch := first | omega | (show allOne _ = true; simp [allOne, Value.oneCell', S]) | (simp only [qz]; first | done | omega)) only [go_sem]
        refine arena_Used _ _ _ _ _ _ hA _ ?_
        by_cases hr : usedOf T + n + 1 ≤ size
        · simp (disch := first | omega | (show allOne _ = true; simp [allOne, Value.oneCell', S]) | (simp only [qz]; first | done | omega)) only [go_sem, hA.a, ldc_cells, acells]
          refine Hwp.drawn mixed [0, 1, 3, 7, 0, 0, 32, 96, 224, 0, 0, 1024, 3072, 0, 15360, 31744, 65023, 130559, 262143, 524287] (.op 0 (.op 1 (.op 2 (.op 3 (.op 4 (.op 5 (.op 6 (.op 7 (.op 8 (.op 9 (.op 10 (.op 11 (.op 12 (.op 13 (.op 14 (.op 15 (.op 16 (.eff 17 (.op 18 (.eff 19 .done .stop)) .stop)))))))))))))))))) (by kernel_rfl) ?_
          have hwl := wcells_length hA.room
          have hhl := hcells_length hA.room
          have n1 := hA.ne1
          have n2 := hA.ne2
          have n3 := hA.ne3
          simp (disch := first | omega | (show allOne _ = true; simp [allOne, Value.oneCell', S]) | (simp only [qz]; first | done | omega)) only [go_sem, hA.a, hA.w, hA.h, ldc_cells, acells, ixa_ok, stc_cells]
          refine Hwp.drawn mixed [0, 1, 3, 7, 0, 16, 48, 112, 0, 256, 1008, 0, 4080, 8176, 16383, 32767, 65535, 131071] (.op 0 (.op 1 (.op 2 (.op 3 (.op 4 (.op 5 (.op 6 (.op 7 (.op 8 (.op 9 (.op 10 (.op 11 (.eff 12 (.op 13 (.op 14 (.op 15 (.op 16 (.eff 17 .done .stop))))) .stop))))))))))))) (by kernel_rfl) ?_
          have s1 : ∀ cs cs', hsource ((H.set gw cs).set gh cs') 1 (.slice a n c) = some (l.map U, n) := fun cs cs' => hsrc _ fun b b1 b2 b3 => by simp (disch := first | omega | (simp only [nx_push, nx_set, nx_kill]; done) | (simp only [nx_push, nx_set, nx_kill]; omega)) only [get_push_ne, get_push_eq, get_set_ne, get_set_eq, get_kill_ne, nx_push, nx_set, nx_kill]
          have s2 : ∀ cs cs', hsource ((H.set gh cs).set gw cs') 1 (.slice a n c) = some (l.map U, n) := fun cs cs' => hsrc _ fun b b1 b2 b3 => by simp (disch := first | omega | (simp only [nx_push, nx_set, nx_kill]; done) | (simp only [nx_push, nx_set, nx_kill]; omega)) only [get_push_ne, get_push_eq, get_set_ne, get_set_eq, get_kill_ne, nx_push, nx_set, nx_kill]
          have hroom2 : usedOf T + (Thing.mk k.toNat l).room ≤ size := by unfold Thing.room; simp only; omega
          have ew := wcells_push hroom2
          have eh := hcells_push hroom2
          have ek : (((Thing.mk k.toNat l).l.length * 256 + (Thing.mk k.toNat l).kind : Nat) : Int) = (n : Int) * 256 + k := by simp only; omega
          rw [ek] at ew
          have eu : usedOf (T ++ [⟨k.toNat, l⟩]) = usedOf T + n + 1 := by rw [usedOf_append]; simp [usedOf, Thing.room]; omega
          have fin : ∀ H', H'.next = H.next → (∀ b, b ≠ g → b ≠ gw → b ≠ gh → H'.get b = H.get b) → H'.get g = some (.cells (acells gw gh size (T ++ [⟨k.toNat, l⟩])) true) → H'.get gw = some (.cells (wcells size (T ++ [⟨k.toNat, l⟩])) true) → H'.get gh = some (.cells (hcells size (T ++ [⟨k.toNat, l⟩])) true) → H' = putT H g gw gh size (T ++ [⟨k.toNat, l⟩]) := by
            intro H' f1 f2 f3 f4 f5
            refine HHeap.ext' f1 fun b => ?_
            unfold putT
            by_cases b1 : b = g
            · subst b1; rw [f3]; simp (disch := first | omega | (simp only [nx_push, nx_set, nx_kill]; done) | (simp only [nx_push, nx_set, nx_kill]; omega)) only [get_push_ne, get_push_eq, get_set_ne, get_set_eq, get_kill_ne, nx_push, nx_set, nx_kill]
            · by_cases b2 : b = gh
              · subst b2; rw [f5]; simp (disch := first | omega | (simp only [nx_push, nx_set, nx_kill]; done) | (simp only [nx_push, nx_set, nx_kill]; omega)) only [get_push_ne, get_push_eq, get_set_ne, get_set_eq, get_kill_ne, nx_push, nx_set, nx_kill]
              · by_cases b3 : b = gw
                · subst b3; rw [f4]; simp (disch := first | omega | (simp only [nx_push, nx_set, nx_kill]; done) | (simp only [nx_push, nx_set, nx_kill]; omega)) only [get_push_ne, get_push_eq, get_set_ne, get_set_eq, get_kill_ne, nx_push, nx_set, nx_kill]
                · rw [f2 b b1 b3 b2]; simp (disch := first | omega | (simp only [nx_push, nx_set, nx_kill]; done) | (simp only [nx_push, nx_set, nx_kill]; omega)) only [get_push_ne, get_push_eq, get_set_ne, get_set_eq, get_kill_ne, nx_push, nx_set, nx_kill]
          by_cases h0 : n = 0
          · subst h0
            have hl0 : l = [] := by cases l with | nil => rfl | cons x l => simp at hn
            subst hl0
            simp (disch := first | omega | (show allOne _ = true; simp [allOne, Value.oneCell', S]) | (simp only [qz]; first | done | omega)) only [go_sem, hA.a, hA.w, hA.h, ldc_cells, acells, ixa_ok, stc_cells, slx_lo, s1, s2, hcp_zero]
            refine word_Of (usedOf T) (by omega) _ _ ?_
            simp (disch := first | omega | (show allOne _ = true; simp [allOne, Value.oneCell', S]) | (simp only [qz]; first | done | omega)) only [go_sem]
            refine Eq.mp (congrArg (R _) (Eq.symm (fin _ ?_ ?_ ?_ ?_ ?_))) (h1 ⟨hk1, hk2⟩ hn2 hr)
            · simp (disch := first | omega | (simp only [nx_push, nx_set, nx_kill]; done) | (simp only [nx_push, nx_set, nx_kill]; omega)) only [get_push_ne, get_push_eq, get_set_ne, get_set_eq, get_kill_ne, nx_push, nx_set, nx_kill]
            · intro b b1 b2 b3; simp (disch := first | omega | (simp only [nx_push, nx_set, nx_kill]; done) | (simp only [nx_push, nx_set, nx_kill]; omega)) only [get_push_ne, get_push_eq, get_set_ne, get_set_eq, get_kill_ne, nx_push, nx_set, nx_kill]
            · simp (disch := first | omega | (simp only [nx_push, nx_set, nx_kill]; done) | (simp only [nx_push, nx_set, nx_kill]; omega)) only [get_push_ne, get_push_eq, get_set_ne, get_set_eq, get_kill_ne, nx_push, nx_set, nx_kill]; rw [acells, eu]; rfl
            · simp (disch := first | omega | (simp only [nx_push, nx_set, nx_kill]; done) | (simp only [nx_push, nx_set, nx_kill]; omega)) only [get_push_ne, get_push_eq, get_set_ne, get_set_eq, get_kill_ne, nx_push, nx_set, nx_kill]; rw [← ew]; rfl
            · simp (disch := first | omega | (simp only [nx_push, nx_set, nx_kill]; done) | (simp only [nx_push, nx_set, nx_kill]; omega)) only [get_push_ne, get_push_eq, get_set_ne, get_set_eq, get_kill_ne, nx_push, nx_set, nx_kill]; rw [← eh]
          · simp (disch := first | omega | (show allOne _ = true; simp [allOne, Value.oneCell', S]) | (simp only [qz]; first | done | omega)) only [go_sem, hA.a, hA.w, hA.h, ldc_cells, acells, ixa_ok, stc_cells, slx_lo, s1, s2, hcp_some, hcpo_ok]
            rw [if_neg (by omega)]
            simp (disch := first | omega | (show allOne _ = true; simp [allOne, Value.oneCell', S]) | (simp only [qz]; first | done | omega)) only [go_sem, hA.a, hA.w, hA.h, ldc_cells, acells, ixa_ok, stc_cells, slx_lo, s1, s2, hcp_some, hcpo_ok]
            refine word_Of (usedOf T) (by omega) _ _ ?_
            simp (disch := first | omega | (show allOne _ = true; simp [allOne, Value.oneCell', S]) | (simp only [qz]; first | done | omega)) only [go_sem]
            refine Eq.mp (congrArg (R _) (Eq.symm (fin _ ?_ ?_ ?_ ?_ ?_))) (h1 ⟨hk1, hk2⟩ hn2 hr)
            · simp (disch := first | omega | (simp only [nx_push, nx_set, nx_kill]; done) | (simp only [nx_push, nx_set, nx_kill]; omega)) only [get_push_ne, get_push_eq, get_set_ne, get_set_eq, get_kill_ne, nx_push, nx_set, nx_kill]
            · intro b b1 b2 b3; simp (disch := first | omega | (simp only [nx_push, nx_set, nx_kill]; done) | (simp only [nx_push, nx_set, nx_kill]; omega)) only [get_push_ne, get_push_eq, get_set_ne, get_set_eq, get_kill_ne, nx_push, nx_set, nx_kill]
            · simp (disch := first | omega | (simp only [nx_push, nx_set, nx_kill]; done) | (simp only [nx_push, nx_set, nx_kill]; omega)) only [get_push_ne, get_push_eq, get_set_ne, get_set_eq, get_kill_ne, nx_push, nx_set, nx_kill]; rw [acells, eu, show ((usedOf T : Int) + (1 + (n : Int))) = ((usedOf T + n + 1 : Nat) : Int) by omega]
            · simp (disch := first | omega | (simp only [nx_push, nx_set, nx_kill]; done) | (simp only [nx_push, nx_set, nx_kill]; omega)) only [get_push_ne, get_push_eq, get_set_ne, get_set_eq, get_kill_ne, nx_push, nx_set, nx_kill]; rw [← ew, List.take_of_length_le (by simp; omega)]
            · simp (disch := first | omega | (simp only [nx_push, nx_set, nx_kill]; done) | (simp only [nx_push, nx_set, nx_kill]; omega)) only [get_push_ne, get_push_eq, get_set_ne, get_set_eq, get_kill_ne, nx_push, nx_set, nx_kill]; rw [← eh]
        · simp (disch := first | omega | (show allOne _ = true; simp [allOne, Value.oneCell', S]) | (simp only [qz]; first | done | omega)) only [go_sem, hA.a, ldc_cells, acells]
          exact h2 ⟨hk1, hk2⟩ hn2 (by omega)
      · simp (disch := first | omega | (show allOne _ = true; simp [allOne, Value.oneCell', S]) | (simp only [qz]; first | done | omega)) only [go_sem]
        exact h3 (by omega)
    · simp (disch := first | omega | (show allOne _ = true; simp [allOne, Value.oneCell', S]) | (simp only [qz]; first | done | omega)) only [go_sem]
      exact h3 (by omega)
  · simp (disch := first | omega | (show allOne _ = true; simp [allOne, Value.oneCell', S]) | (simp only [qz]; first | done | omega)) only [go_sem]
    exact h3 (by omega)
end Go.HL
