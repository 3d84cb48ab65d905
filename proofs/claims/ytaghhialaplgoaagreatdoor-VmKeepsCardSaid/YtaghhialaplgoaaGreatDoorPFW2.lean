/-
  Joined: W1, W2.
-/
import Derived.Test.YtaghhialaplgoaaGreatDoorPFC1
import Derived.Test.YtaghhialaplgoaaGreatDoorPFT
import Derived.Test.YtaghhialaplgoaaGreatDoorPFG6
import Derived.Test.YtaghhialaplgoaaGreatDoorPFN3
set_option linter.unusedVariables false
set_option linter.unusedSimpArgs false
/-
  Walks: numbers as words.
-/
namespace Go.HL
open Go.RowKit Go.Proofs
set_option maxHeartbeats 4000000
set_option maxRecDepth 100000
set_option linter.unusedSimpArgs false
set_option linter.unusedVariables false
/-- A number as a word, and the number that a word is. -/
def wInt (n : Int) : Nat := (n * 8 % 18446744073709551616).toNat
def sgn (w : Nat) : Int := if w < 9223372036854775808 then (w : Int) else (w : Int) - 18446744073709551616
def toIntF (w : Nat) : Option Int := if w % 8 = 0 ∧ -1099511627776 < sgn w / 8 ∧ sgn w / 8 < 1099511627776 then some (sgn w / 8) else none
theorem wInt_lt (n : Int) : wInt n < 18446744073709551616 := by unfold wInt; omega
theorem wrap_sgn {w : Nat} (h : w < 18446744073709551616) : IntKind.i64.wrap (w : Int) = sgn w := by rw [IntKind.wrap_i64]; unfold sgn; split <;> omega
theorem toInt_wInt {n : Int} (h : -1099511627776 < n) (h' : n < 1099511627776) : toIntF (wInt n) = some n := by
  have e : sgn (wInt n) = n * 8 := by unfold sgn wInt; split <;> omega
  unfold toIntF
  rw [e, if_pos ⟨by unfold wInt; omega, by omega, by omega⟩]; congr 1; omega
theorem shl_wInt (n : Int) : IntKind.u64.wrap (IntKind.u64.wrap n * 8) = (wInt n : Nat) := by rw [IntKind.wrap_u64, IntKind.wrap_u64]; unfold wInt; omega
theorem b_shr3i {P : Program} (t : TypeId) (k : IntKind) (x : Int) : hbin P .shr t (.int .i64 x) (.int k 3) = some (.int .i64 (x / 8)) := by
  unfold hbin; simp only; unfold hshift; rw [if_neg (by omega)]; simp only [IntKind.bits, Option.some.injEq, Value.int.injEq, true_and]
  rw [show (2 : Int) ^ min (3 : Int).toNat 64 = 8 from rfl, Int.fdiv_eq_ediv_of_nonneg _ (by omega)]
def intV (n : Int) : Value := if -1099511627776 < n ∧ n < 1099511627776 then .tuple #[U (wInt n), I 0] else .tuple #[U 0, I 10]
def toIntV (w : Nat) : Value := match toIntF w with | some n => .tuple #[I n, .bool true] | none => .tuple #[I 0, .bool false]
theorem word_ToInt (w : Nat) (hw : w < 18446744073709551616) (H : HHeap) (R : Value → HHeap → Prop) (hR : R (toIntV w) H) : HCalls Tryz.prog 83 [U w] H R := by
  refine HCalls.of_hw Tryz.func83 rfl _ Tryz.ntmps83 _ (by rw [Tryz.results83]) ?_
  rw [hframe0_eq _ _ (by simp)]
  simp only [List.zipIdx_cons, List.zipIdx_nil, List.map_cons, List.map_nil, Nat.reduceAdd]
  unfold toIntV toIntF at hR
  have e := wrap_sgn hw
  by_cases h0 : w % 8 = 0
  · by_cases h1 : sgn w / 8 ≤ -1099511627776
    · rw [if_neg (by omega)] at hR
      simp (disch := first | omega | (show allOne _ = true; simp [allOne, Value.oneCell', S]) | (simp only [qz]; first | done | omega)) only [go_sem, e, b_shr3i]; exact hR
    · by_cases h2 : 1099511627776 ≤ sgn w / 8
      · rw [if_neg (by omega)] at hR
        simp (disch := first | omega | (show allOne _ = true; simp [allOne, Value.oneCell', S]) | (simp only [qz]; first | done | omega)) only [go_sem, e, b_shr3i]; exact hR
      · rw [if_pos ⟨h0, by omega, by omega⟩] at hR
        simp (disch := first | omega | (show allOne _ = true; simp [allOne, Value.oneCell', S]) | (simp only [qz]; first | done | omega)) only [go_sem, e, b_shr3i]; exact hR
  · rw [if_neg (by omega)] at hR
    simp (disch := first | omega | (show allOne _ = true; simp [allOne, Value.oneCell', S]) | (simp only [qz]; first | done | omega)) only [go_sem, e, b_shr3i]; exact hR
def boolW (b : Bool) : Nat := if b then 18 else 10
end Go.HL
/-
  Walks: words of all kinds; what comes of numbers.
-/
namespace Go.HL
open Go.RowKit Go.Proofs
set_option maxHeartbeats 4000000
set_option maxRecDepth 100000
set_option linter.unusedSimpArgs false
set_option linter.unusedVariables false
def toF (k w : Nat) : Option Nat := if (k = 1 ∨ k = 3 ∨ k = 4) ∧ w % 8 = k ∧ w / 8 < 1099511627776 then some (w / 8) else none
def toKV (k w : Nat) : Value := match toF k w with | some n => .tuple #[I (n : Nat), .bool true] | none => .tuple #[I 0, .bool false]
theorem word_ToK (k : Nat) (hk : k < 8) (x : Nat) (hx : x < 18446744073709551616) (H : HHeap) (R : Value → HHeap → Prop) (hR : R (toKV k x) H) : HCalls Tryz.prog 73 [I (k : Nat), U x] H R := by
  refine HCalls.of_hw Tryz.func73 rfl _ Tryz.ntmps73 _ (by rw [Tryz.results73]) ?_
  rw [hframe0_eq _ _ (by simp)]
  simp only [List.zipIdx_cons, List.zipIdx_nil, List.map_cons, List.map_nil, Nat.reduceAdd]
  unfold toKV toF at hR
  by_cases hc : k = 1 ∨ k = 3 ∨ k = 4
  · by_cases h1 : x % 8 = k
    · by_cases h2 : x / 8 < 1099511627776
      · rw [if_pos ⟨hc, h1, h2⟩] at hR
        rcases hc with rfl | rfl | rfl <;> simp (disch := first | omega | (show allOne _ = true; simp [allOne, Value.oneCell', S]) | (simp only [qz]; first | done | omega)) only [go_sem] <;> exact hR
      · rw [if_neg (by omega)] at hR
        rcases hc with rfl | rfl | rfl <;> simp (disch := first | omega | (show allOne _ = true; simp [allOne, Value.oneCell', S]) | (simp only [qz]; first | done | omega)) only [go_sem] <;> exact hR
    · rw [if_neg (by omega)] at hR
      rcases hc with rfl | rfl | rfl <;> simp (disch := first | omega | (show allOne _ = true; simp [allOne, Value.oneCell', S]) | (simp only [qz]; first | done | omega)) only [go_sem] <;> exact hR
  · rw [if_neg (by omega)] at hR
    simp (disch := first | omega | (show allOne _ = true; simp [allOne, Value.oneCell', S]) | (simp only [qz]; first | done | omega)) only [go_sem]
    exact hR
end Go.HL
