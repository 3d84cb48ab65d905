/-
  Joined: M17, M18, M19.
-/
import Derived.Test.YtaghhialaplgoaaGreatDoorPFM16
set_option linter.unusedVariables false
set_option linter.unusedSimpArgs false
/-
  Walks: room for so many words.
-/
namespace Go.HL
open Go.RowKit Go.Proofs
set_option maxHeartbeats 4000000
set_option maxRecDepth 100000
set_option linter.unusedSimpArgs false
set_option linter.unusedVariables false
section
variable {Z : Zs} {H : HHeap} {p size : Nat} {vb : Value} {g gw gh : Nat} {vn vk va : Value} {M : MS} {B : List Bk}
theorem vm_room (hM : MIn Z H p size vb g gw gh vn vk va M) (hZ : ∀ b, Z b → b < H.next) (n : Nat) (hn : n < 1000000) (mv : Value) (pm : List (Nat × Nat)) (ws : List Nat) (hm : Rw rPt Z H mv pm) (hpm : pm.length ≤ 1000) (dm : ∀ b ∈ sblk mv, b ≠ p ∧ b ≠ g ∧ b ≠ gw ∧ b ≠ gh ∧ b ∉ sblk vn ∧ b ∉ sblk vk ∧ b ∉ sblk va)
    (hw : PtW H pm ws) (hws : ∀ w ∈ ws, w < 18446744073709551616) (hmb : ∀ x ∈ pm, ¬ Z x.1 ∧ x.1 ∉ sblk mv ∧ x.1 ≠ p ∧ x.1 ≠ g ∧ x.1 ≠ gw ∧ x.1 ≠ gh ∧ x.1 ∉ sblk vn ∧ x.1 ∉ sblk vk ∧ x.1 ∉ sblk va) (hmn : pm.Nodup) (R : Value → HHeap → Prop)
    (hR : ∀ H' g' gw' gh', MIn Z H' p size vb g' gw' gh' vn vk va (M.room size n ws).2.1 → Kp Z H H' → PtW H' pm (M.room size n ws).2.2 → (∀ x ∈ pm, ∀ n, CellsOf H x.1 n → CellsOf H' x.1 n) → (∀ x ∈ pm, x.1 ≠ g' ∧ x.1 ≠ gw' ∧ x.1 ≠ gh') → R (.bool (M.room size n ws).1) H') :
    HCalls Tryz.prog 25 [ptr p 0, I (n : Nat), mv] H R := by
  have hroom := hM.A.room
  have hbig := hM.A.big
  obtain ⟨am, hmv⟩ := hm.len
  subst hmv
  refine HCalls.of_hw Tryz.func25 rfl _ Tryz.ntmps25 _ (by rw [Tryz.results25]) ?_
  rw [hframe0_eq _ _ (by simp)]
  simp only [List.zipIdx_cons, List.zipIdx_nil, List.map_cons, List.map_nil, Nat.reduceAdd]
  simp (disch := first | omega | (show allOne _ = true; simp [allOne, Value.oneCell', S]) | (simp only [qz]; first | done | omega)) only [go_sem]
  refine Hwp.drawn mixed [0, 1, 3, 7, 15, 0, 32, 96, 224, 511, 1023, 0, 4095] (.op 0 (.op 1 (.op 2 (.op 3 (.op 5 (.op 6 (.op 7 (.op 8 (.op 11 (.eff 4 (.eff 9 (.op 10 (.op 12 .done)) .stop) .stop)))))))))) (by kernel_rfl) ?_
  simp (disch := first | omega | (show allOne _ = true; simp [allOne, Value.oneCell', S]) | (simp only [qz]; first | done | omega)) only [go_sem, hM.m, ldc_cells, mcells]
  refine arena_Size _ _ _ _ _ _ hM.A _ ?_
  simp (disch := first | omega | (show allOne _ = true; simp [allOne, Value.oneCell', S]) | (simp only [qz]; first | done | omega)) only [go_sem, hM.m, ldc_cells, mcells]
  refine arena_Used _ _ _ _ _ _ hM.A _ ?_
  by_cases h1 : n ≤ size - usedOf M.T
  · have e : M.room size n ws = (true, M, ws) := by unfold MS.room; rw [if_pos h1]
    rw [e] at hR
    have := hR H g gw gh hM (Kp.refl Z H) hw (fun _ _ _ h => h) (fun x hx => ⟨(hmb x hx).2.2.2.1, (hmb x hx).2.2.2.2.1, (hmb x hx).2.2.2.2.2.1⟩)
    simp (disch := first | omega | (show allOne _ = true; simp [allOne, Value.oneCell', S]) | (simp only [qz]; first | done | omega)) only [go_sem]
    exact this
  · have e : M.room size n ws = (decide (n ≤ size - usedOf (M.collect ws).T), M.collect ws, M.moved ws) := by unfold MS.room; rw [if_neg h1]
    rw [e] at hR
    simp (disch := first | omega | (show allOne _ = true; simp [allOne, Value.oneCell', S]) | (simp only [qz]; first | done | omega)) only [go_sem]
    refine vm_collect hM hZ _ pm ws hm hpm dm hw hws hmb hmn _ ?_
    intro H2 g' gw' gh' q1 q2 q3 q4 q5
    have hroom2 := q1.A.room
    simp (disch := first | omega | (show allOne _ = true; simp [allOne, Value.oneCell', S]) | (simp only [qz]; first | done | omega)) only [go_sem]
    refine Hwp.drawn mixed [0, 1, 3, 7, 15, 0, 32, 96, 224, 511, 1023, 0, 4095, 8191] (.op 0 (.op 1 (.op 2 (.op 3 (.op 5 (.op 6 (.op 7 (.op 8 (.op 11 (.eff 4 (.eff 9 (.op 10 (.op 12 (.op 13 .done))) .stop) .stop)))))))))) (by kernel_rfl) ?_
    simp (disch := first | omega | (show allOne _ = true; simp [allOne, Value.oneCell', S]) | (simp only [qz]; first | done | omega)) only [go_sem, q1.m, ldc_cells, mcells]
    refine arena_Size _ _ _ _ _ _ q1.A _ ?_
    simp (disch := first | omega | (show allOne _ = true; simp [allOne, Value.oneCell', S]) | (simp only [qz]; first | done | omega)) only [go_sem, q1.m, ldc_cells, mcells]
    refine arena_Used _ _ _ _ _ _ q1.A _ ?_
    have := hR H2 g' gw' gh' q1 q2 q3 q4 q5
    simp (disch := first | omega | (show allOne _ = true; simp [allOne, Value.oneCell', S]) | (simp only [qz]; first | done | omega)) only [go_sem]
    rw [show decide ((n : Int) ≤ (size : Int) - (usedOf (M.collect ws).T : Int)) = decide (n ≤ size - usedOf (M.collect ws).T) by apply decide_eq_decide.2; omega]
    exact this
end
end Go.HL
/-
  Walks: what is done to words of the stack.
-/
namespace Go.HL
open Go.RowKit Go.Proofs
set_option maxHeartbeats 4000000
set_option maxRecDepth 100000
set_option linter.unusedSimpArgs false
set_option linter.unusedVariables false
theorem AtA.add {H H' : HHeap} {g gw gh size : Nat} {T : Things} (hA : AtA H g gw gh size T) (k : Nat) (hk : 1 ≤ k ∧ k ≤ 9) (l : List Nat) (hl : ∀ x ∈ l, x < 18446744073709551616) (hn : l.length ≤ 255) (hu : usedOf T + l.length + 1 ≤ size) (K : HHeap) : AtA (putT K g gw gh size (T ++ [⟨k, l⟩])) g gw gh size (T ++ [⟨k, l⟩]) := by
  have n1 := hA.ne1
  have n2 := hA.ne2
  have n3 := hA.ne3
  refine ⟨by unfold putT; simp (disch := first | omega | (simp only [nx_push, nx_set, nx_kill]; done) | (simp only [nx_push, nx_set, nx_kill]; omega)) only [get_push_ne, get_push_eq, get_set_ne, get_set_eq, get_kill_ne, nx_push, nx_set, nx_kill], by unfold putT; simp (disch := first | omega | (simp only [nx_push, nx_set, nx_kill]; done) | (simp only [nx_push, nx_set, nx_kill]; omega)) only [get_push_ne, get_push_eq, get_set_ne, get_set_eq, get_kill_ne, nx_push, nx_set, nx_kill], by unfold putT; simp (disch := first | omega | (simp only [nx_push, nx_set, nx_kill]; done) | (simp only [nx_push, nx_set, nx_kill]; omega)) only [get_push_ne, get_push_eq, get_set_ne, get_set_eq, get_kill_ne, nx_push, nx_set, nx_kill], by
      rw [usedOf_append]; simp [usedOf, Thing.room]; omega, hA.big, hA.pos, by
      intro t ht
      rcases List.mem_append.1 ht with ht | ht
      · exact hA.ok t ht
      · simp at ht; subst ht; exact ⟨by simp; omega, by simp; omega, by simp; omega, hl⟩, n1, n2, n3⟩
end Go.HL
/-
  Walks: something is done to words of the stack, or asked for.
-/
namespace Go.HL
open Go.RowKit Go.Proofs
set_option maxHeartbeats 4000000
set_option maxRecDepth 100000
set_option linter.unusedSimpArgs false
set_option linter.unusedVariables false
section
variable {Z : Zs} {H : HHeap} {p size : Nat} {vb : Value} {g gw gh : Nat} {vn vk va : Value} {M : MS} {B : List Bk}
end
end Go.HL
