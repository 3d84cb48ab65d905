/-
  Walks: a product's halves.
-/
import Derived.Test.YtdccndcdmfhmiaaGreatDoorPFW2
set_option linter.unusedVariables false
set_option linter.unusedSimpArgs false
namespace Go.HL
open Go.RowKit Go.Proofs
set_option maxHeartbeats 4000000
set_option maxRecDepth 100000
set_option linter.unusedSimpArgs false
set_option linter.unusedVariables false
theorem HCalls.of_hwp {P : Program} {f : FuncId} {fn : Func} {c : Code} {args : List Value} {H : HHeap} {R : Value → HHeap → Prop} (hfn : P.funcs[f]? = some fn) (hc : fn.body = some c) (n : Nat) (hn : fn.ntmps = n)
    (rs : List ResultVar) (hrs : fn.results.toList = rs) (h : Hwp P c (HEnd P rs R) (hframe0 args n) H) : HCalls P f args H R := by
  subst hn; subst hrs
  refine HCalls.of_body hfn hc (Hwp.mono ?_ h)
  intro e fr H h
  cases e <;> simp only [HEnd, HRes] at h <;> first
    | exact h.elim
    | (split at h
       · exact ⟨trivial, _, by assumption, h⟩
       · exact h.elim)
theorem bits_Mul64 (x y : Nat) (hx : x < 2199023255552) (hy : y < 2199023255552) (H : HHeap) (R : Value → HHeap → Prop) (hR : R (.tuple #[U (x * y / 18446744073709551616), U (x * y % 18446744073709551616)]) H) : HCalls Tryz.prog 182 [U x, U y] H R := by
  obtain ⟨x1, hx1⟩ : ∃ n, n = x / 4294967296 := ⟨_, rfl⟩
  obtain ⟨x0, hx0⟩ : ∃ n, n = x % 4294967296 := ⟨_, rfl⟩
  obtain ⟨y1, hy1⟩ : ∃ n, n = y / 4294967296 := ⟨_, rfl⟩
  obtain ⟨y0, hy0⟩ : ∃ n, n = y % 4294967296 := ⟨_, rfl⟩
  have ex : x = x1 * 4294967296 + x0 := by omega
  have ey : y = y1 * 4294967296 + y0 := by omega
  have b11 := Nat.mul_le_mul (show x1 ≤ 511 by omega) (show y1 ≤ 511 by omega)
  have b10 := Nat.mul_le_mul (show x1 ≤ 511 by omega) (show y0 ≤ 4294967295 by omega)
  have b01 := Nat.mul_le_mul (show x0 ≤ 4294967295 by omega) (show y1 ≤ 511 by omega)
  have b00 := Nat.mul_le_mul (show x0 ≤ 4294967295 by omega) (show y0 ≤ 4294967295 by omega)
  have e1 : (x : Int) / 4294967296 = (x1 : Nat) := by omega
  have e2 : (x : Int) % 4294967296 = (x0 : Nat) := by omega
  have e3 : (y : Int) / 4294967296 = (y1 : Nat) := by omega
  have e4 : (y : Int) % 4294967296 = (y0 : Nat) := by omega
  have key := mul_hi x1 x0 y1 y0 4294967296
  rw [← ex, ← ey] at key
  obtain ⟨p11, h11⟩ : ∃ n, n = x1 * y1 := ⟨_, rfl⟩
  obtain ⟨p10, h10⟩ : ∃ n, n = x1 * y0 := ⟨_, rfl⟩
  obtain ⟨p01, h01⟩ : ∃ n, n = x0 * y1 := ⟨_, rfl⟩
  obtain ⟨p00, h00⟩ : ∃ n, n = x0 * y0 := ⟨_, rfl⟩
  obtain ⟨p, hp⟩ : ∃ n, n = x * y := ⟨_, rfl⟩
  rw [← h11, ← h10, ← h01, ← h00, ← hp] at key
  rw [← h11] at b11
  rw [← h10] at b10
  rw [← h01] at b01
  rw [← h00] at b00
  rw [← hp] at hR
  have m11 : (x1 : Int) * (y1 : Int) = (p11 : Nat) := by rw [h11, Int.natCast_mul]
  have m10 : (x1 : Int) * (y0 : Int) = (p10 : Nat) := by rw [h10, Int.natCast_mul]
  have m01 : (x0 : Int) * (y1 : Int) = (p01 : Nat) := by rw [h01, Int.natCast_mul]
  have m00 : (x0 : Int) * (y0 : Int) = (p00 : Nat) := by rw [h00, Int.natCast_mul]
  have mxy : (x : Int) * (y : Int) = (p : Nat) := by rw [hp, Int.natCast_mul]
  clear h11 h10 h01 h00 hp ex ey hx1 hx0 hy1 hy0
  refine HCalls.of_hwp Tryz.func182 rfl _ Tryz.ntmps182 _ (by rw [Tryz.results182]) ?_
  rw [hframe0_eq _ _ (by simp)]
  simp only [List.zipIdx_cons, List.zipIdx_nil, List.map_cons, List.map_nil, Nat.reduceAdd]
  refine Hwp.seq (HW.sound _ _ _ _ ?_)
  simp (disch := first | omega | (show allOne _ = true; simp [allOne, Value.oneCell', S]) | (simp only [qz]; first | done | omega)) only [go_sem, e1, e2, e3, e4, m11, m10, m01, m00, mxy]
  refine Hwp.seq (HW.sound _ _ _ _ ?_)
  simp (disch := first | omega | (show allOne _ = true; simp [allOne, Value.oneCell', S]) | (simp only [qz]; first | done | omega)) only [go_sem, e1, e2, e3, e4, m11, m10, m01, m00, mxy]
  refine Hwp.seq (HW.sound _ _ _ _ ?_)
  simp (disch := first | omega | (show allOne _ = true; simp [allOne, Value.oneCell', S]) | (simp only [qz]; first | done | omega)) only [go_sem, e1, e2, e3, e4, m11, m10, m01, m00, mxy]
  refine Hwp.seq (HW.sound _ _ _ _ ?_)
  simp (disch := first | omega | (show allOne _ = true; simp [allOne, Value.oneCell', S]) | (simp only [qz]; first | done | omega)) only [go_sem, e1, e2, e3, e4, m11, m10, m01, m00, mxy]
  refine Hwp.seq (HW.sound _ _ _ _ ?_)
  simp (disch := first | omega | (show allOne _ = true; simp [allOne, Value.oneCell', S]) | (simp only [qz]; first | done | omega)) only [go_sem, e1, e2, e3, e4, m11, m10, m01, m00, mxy]
  refine Hwp.seq (HW.sound _ _ _ _ ?_)
  simp (disch := first | omega | (show allOne _ = true; simp [allOne, Value.oneCell', S]) | (simp only [qz]; first | done | omega)) only [go_sem, e1, e2, e3, e4, m11, m10, m01, m00, mxy]
  refine Hwp.seq (HW.sound _ _ _ _ ?_)
  simp (disch := first | omega | (show allOne _ = true; simp [allOne, Value.oneCell', S]) | (simp only [qz]; first | done | omega)) only [go_sem, e1, e2, e3, e4, m11, m10, m01, m00, mxy]
  refine Hwp.seq (HW.sound _ _ _ _ ?_)
  simp (disch := first | omega | (show allOne _ = true; simp [allOne, Value.oneCell', S]) | (simp only [qz]; first | done | omega)) only [go_sem, e1, e2, e3, e4, m11, m10, m01, m00, mxy]
  refine Hwp.seq (HW.sound _ _ _ _ ?_)
  simp (disch := first | omega | (show allOne _ = true; simp [allOne, Value.oneCell', S]) | (simp only [qz]; first | done | omega)) only [go_sem, e1, e2, e3, e4, m11, m10, m01, m00, mxy]
  refine Hwp.seq (HW.sound _ _ _ _ ?_)
  simp (disch := first | omega | (show allOne _ = true; simp [allOne, Value.oneCell', S]) | (simp only [qz]; first | done | omega)) only [go_sem, e1, e2, e3, e4, m11, m10, m01, m00, mxy]
  refine Hwp.seq (HW.sound _ _ _ _ ?_)
  simp (disch := first | omega | (show allOne _ = true; simp [allOne, Value.oneCell', S]) | (simp only [qz]; first | done | omega)) only [go_sem, e1, e2, e3, e4, m11, m10, m01, m00, mxy]
  refine HW.sound _ _ _ _ ?_
  simp (disch := first | omega | (show allOne _ = true; simp [allOne, Value.oneCell', S]) | (simp only [qz]; first | done | omega)) only [go_sem, e1, e2, e3, e4, m11, m10, m01, m00, mxy]
  rw [IntKind.wrap_u64]
  have a1 : (p11 : Int) + ((p10 : Int) + (p00 : Int) / 4294967296) / 4294967296 + (((p10 : Int) + (p00 : Int) / 4294967296) % 4294967296 + (p01 : Int)) / 4294967296 = ((p / 18446744073709551616 : Nat) : Int) := by omega
  rw [a1, show (p : Int) % 18446744073709551616 = ((p % 18446744073709551616 : Nat) : Int) by omega]
  exact hR
theorem word_times (a b : Int) (ha : -1099511627776 < a) (ha' : a < 1099511627776) (hb : -1099511627776 < b) (hb' : b < 1099511627776) (H : HHeap) (R : Value → HHeap → Prop) (hR : R (intV (a * b)) H) : HCalls Tryz.prog 200 [I a, I b] H R := by
  have sa : (∃ A : Nat, a = A) ∨ (∃ A : Nat, 0 < A ∧ a = -(A : Int)) := by
    rcases Int.lt_or_le a 0 with h | h
    · exact .inr ⟨a.natAbs, by omega, by omega⟩
    · exact .inl ⟨a.natAbs, by omega⟩
  have sb : (∃ B : Nat, b = B) ∨ (∃ B : Nat, 0 < B ∧ b = -(B : Int)) := by
    rcases Int.lt_or_le b 0 with h | h
    · exact .inr ⟨b.natAbs, by omega, by omega⟩
    · exact .inl ⟨b.natAbs, by omega⟩
  rcases sa with ⟨A, rfl⟩ | ⟨A, hA, rfl⟩
  · rcases sb with ⟨B, rfl⟩ | ⟨B, hB, rfl⟩
    · have e1 : (0 : Int) - -(A : Int) = (A : Nat) := by omega
      have e2 : (0 : Int) - -(B : Int) = (B : Nat) := by omega
      obtain ⟨p, hp⟩ : ∃ p, p = A * B := ⟨_, rfl⟩
      have em : (A : Int) * (B : Int) = (p : Int) := by rw [hp, Int.natCast_mul]
      rw [em] at hR
      refine HCalls.of_hw Tryz.func200 rfl _ Tryz.ntmps200 _ (by rw [Tryz.results200]) ?_
      rw [hframe0_eq _ _ (by simp)]
      simp only [List.zipIdx_cons, List.zipIdx_nil, List.map_cons, List.map_nil, Nat.reduceAdd]
      simp (disch := first | omega | (show allOne _ = true; simp [allOne, Value.oneCell', S]) | (simp only [qz]; first | done | omega)) only [go_sem, e1, e2]
      refine bits_Mul64 A B (by omega) (by omega) _ _ ?_
      rw [← hp]
      by_cases h1 : 18446744073709551616 ≤ p
      · unfold intV at hR
        rw [if_neg (by omega)] at hR
        have h2 : 0 < p / 18446744073709551616 := by omega
        generalize p / 18446744073709551616 = q at *
        simp (disch := first | omega | (show allOne _ = true; simp [allOne, Value.oneCell', S]) | (simp only [qz]; first | done | omega)) only [go_sem]
        exact hR
      · rw [show p / 18446744073709551616 = 0 by omega, show p % 18446744073709551616 = p by omega]
        by_cases h2 : 1099511627776 ≤ p
        · unfold intV at hR
          rw [if_neg (by omega)] at hR
          simp (disch := first | omega | (show allOne _ = true; simp [allOne, Value.oneCell', S]) | (simp only [qz]; first | done | omega)) only [go_sem]
          exact hR
        · have d1 := show decide ((A : Int) < 0) = false from decide_eq_false (by omega)
          have d2 := show decide ((B : Int) < 0) = false from decide_eq_false (by omega)
          simp (disch := first | omega | (show allOne _ = true; simp [allOne, Value.oneCell', S]) | (simp only [qz]; first | done | omega)) only [go_sem, d1, d2, show (!(false == false)) = false from rfl]
          refine word_Int _ _ _ ?_
          unfold intV at hR ⊢
          rw [if_pos (by omega)] at hR ⊢
          simp (disch := first | omega | (show allOne _ = true; simp [allOne, Value.oneCell', S]) | (simp only [qz]; first | done | omega)) only [go_sem]
          exact hR
    · have e1 : (0 : Int) - -(A : Int) = (A : Nat) := by omega
      have e2 : (0 : Int) - -(B : Int) = (B : Nat) := by omega
      obtain ⟨p, hp⟩ : ∃ p, p = A * B := ⟨_, rfl⟩
      have em : (A : Int) * -(B : Int) = -(p : Int) := by rw [hp, Int.natCast_mul, Int.mul_neg]
      rw [em] at hR
      refine HCalls.of_hw Tryz.func200 rfl _ Tryz.ntmps200 _ (by rw [Tryz.results200]) ?_
      rw [hframe0_eq _ _ (by simp)]
      simp only [List.zipIdx_cons, List.zipIdx_nil, List.map_cons, List.map_nil, Nat.reduceAdd]
      simp (disch := first | omega | (show allOne _ = true; simp [allOne, Value.oneCell', S]) | (simp only [qz]; first | done | omega)) only [go_sem, e1, e2]
      refine bits_Mul64 A B (by omega) (by omega) _ _ ?_
      rw [← hp]
      by_cases h1 : 18446744073709551616 ≤ p
      · unfold intV at hR
        rw [if_neg (by omega)] at hR
        have h2 : 0 < p / 18446744073709551616 := by omega
        generalize p / 18446744073709551616 = q at *
        simp (disch := first | omega | (show allOne _ = true; simp [allOne, Value.oneCell', S]) | (simp only [qz]; first | done | omega)) only [go_sem]
        exact hR
      · rw [show p / 18446744073709551616 = 0 by omega, show p % 18446744073709551616 = p by omega]
        by_cases h2 : 1099511627776 ≤ p
        · unfold intV at hR
          rw [if_neg (by omega)] at hR
          simp (disch := first | omega | (show allOne _ = true; simp [allOne, Value.oneCell', S]) | (simp only [qz]; first | done | omega)) only [go_sem]
          exact hR
        · have d1 := show decide ((A : Int) < 0) = false from decide_eq_false (by omega)
          have d2 := show decide (-(B : Int) < 0) = true from decide_eq_true (by omega)
          simp (disch := first | omega | (show allOne _ = true; simp [allOne, Value.oneCell', S]) | (simp only [qz]; first | done | omega)) only [go_sem, d1, d2, show (!(false == true)) = true from rfl]
          refine word_Int _ _ _ ?_
          rw [show (0 : Int) - (p : Int) = -(p : Int) by omega]
          unfold intV at hR ⊢
          rw [if_pos (by omega)] at hR ⊢
          simp (disch := first | omega | (show allOne _ = true; simp [allOne, Value.oneCell', S]) | (simp only [qz]; first | done | omega)) only [go_sem]
          exact hR
  · rcases sb with ⟨B, rfl⟩ | ⟨B, hB, rfl⟩
    · have e1 : (0 : Int) - -(A : Int) = (A : Nat) := by omega
      have e2 : (0 : Int) - -(B : Int) = (B : Nat) := by omega
      obtain ⟨p, hp⟩ : ∃ p, p = A * B := ⟨_, rfl⟩
      have em : -(A : Int) * (B : Int) = -(p : Int) := by rw [hp, Int.natCast_mul, Int.neg_mul]
      rw [em] at hR
      refine HCalls.of_hw Tryz.func200 rfl _ Tryz.ntmps200 _ (by rw [Tryz.results200]) ?_
      rw [hframe0_eq _ _ (by simp)]
      simp only [List.zipIdx_cons, List.zipIdx_nil, List.map_cons, List.map_nil, Nat.reduceAdd]
      simp (disch := first | omega | (show allOne _ = true; simp [allOne, Value.oneCell', S]) | (simp only [qz]; first | done | omega)) only [go_sem, e1, e2]
      refine bits_Mul64 A B (by omega) (by omega) _ _ ?_
      rw [← hp]
      by_cases h1 : 18446744073709551616 ≤ p
      · unfold intV at hR
        rw [if_neg (by omega)] at hR
        have h2 : 0 < p / 18446744073709551616 := by omega
        generalize p / 18446744073709551616 = q at *
        simp (disch := first | omega | (show allOne _ = true; simp [allOne, Value.oneCell', S]) | (simp only [qz]; first | done | omega)) only [go_sem]
        exact hR
      · rw [show p / 18446744073709551616 = 0 by omega, show p % 18446744073709551616 = p by omega]
        by_cases h2 : 1099511627776 ≤ p
        · unfold intV at hR
          rw [if_neg (by omega)] at hR
          simp (disch := first | omega | (show allOne _ = true; simp [allOne, Value.oneCell', S]) | (simp only [qz]; first | done | omega)) only [go_sem]
          exact hR
        · have d1 := show decide (-(A : Int) < 0) = true from decide_eq_true (by omega)
          have d2 := show decide ((B : Int) < 0) = false from decide_eq_false (by omega)
          simp (disch := first | omega | (show allOne _ = true; simp [allOne, Value.oneCell', S]) | (simp only [qz]; first | done | omega)) only [go_sem, d1, d2, show (!(true == false)) = true from rfl]
          refine word_Int _ _ _ ?_
          rw [show (0 : Int) - (p : Int) = -(p : Int) by omega]
          unfold intV at hR ⊢
          rw [if_pos (by omega)] at hR ⊢
          simp (disch := first | omega | (show allOne _ = true; simp [allOne, Value.oneCell', S]) | (simp only [qz]; first | done | omega)) only [go_sem]
          exact hR
    · have e1 : (0 : Int) - -(A : Int) = (A : Nat) := by omega
      have e2 : (0 : Int) - -(B : Int) = (B : Nat) := by omega
      obtain ⟨p, hp⟩ : ∃ p, p = A * B := ⟨_, rfl⟩
      have em : -(A : Int) * -(B : Int) = (p : Int) := by rw [hp, Int.natCast_mul, Int.neg_mul_neg]
      rw [em] at hR
      refine HCalls.of_hw Tryz.func200 rfl _ Tryz.ntmps200 _ (by rw [Tryz.results200]) ?_
      rw [hframe0_eq _ _ (by simp)]
      simp only [List.zipIdx_cons, List.zipIdx_nil, List.map_cons, List.map_nil, Nat.reduceAdd]
      simp (disch := first | omega | (show allOne _ = true; simp [allOne, Value.oneCell', S]) | (simp only [qz]; first | done | omega)) only [go_sem, e1, e2]
      refine bits_Mul64 A B (by omega) (by omega) _ _ ?_
      rw [← hp]
      by_cases h1 : 18446744073709551616 ≤ p
      · unfold intV at hR
        rw [if_neg (by omega)] at hR
        have h2 : 0 < p / 18446744073709551616 := by omega
        generalize p / 18446744073709551616 = q at *
        simp (disch := first | omega | (show allOne _ = true; simp [allOne, Value.oneCell', S]) | (simp only [qz]; first | done | omega)) only [go_sem]
        exact hR
      · rw [show p / 18446744073709551616 = 0 by omega, show p % 18446744073709551616 = p by omega]
        by_cases h2 : 1099511627776 ≤ p
        · unfold intV at hR
          rw [if_neg (by omega)] at hR
          simp (disch := first | omega | (show allOne _ = true; simp [allOne, Value.oneCell', S]) | (simp only [qz]; first | done | omega)) only [go_sem]
          exact hR
        · have d1 := show decide (-(A : Int) < 0) = true from decide_eq_true (by omega)
          have d2 := show decide (-(B : Int) < 0) = true from decide_eq_true (by omega)
          simp (disch := first | omega | (show allOne _ = true; simp [allOne, Value.oneCell', S]) | (simp only [qz]; first | done | omega)) only [go_sem, d1, d2, show (!(true == true)) = false from rfl]
          refine word_Int _ _ _ ?_
          unfold intV at hR ⊢
          rw [if_pos (by omega)] at hR ⊢
          simp (disch := first | omega | (show allOne _ = true; simp [allOne, Value.oneCell', S]) | (simp only [qz]; first | done | omega)) only [go_sem]
          exact hR
end Go.HL
