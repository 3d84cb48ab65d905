/-
  Joined: N2, N3.
-/
import Derived.Test.YtaghhialaplgoaaGreatDoorPFE2
set_option linter.unusedVariables false
set_option linter.unusedSimpArgs false
/-
  More numbers: masks, and shifts.
-/
namespace Go.HL
open Go.RowKit
set_option linter.unusedSimpArgs false

theorem ofInt_any (x : Int) : (BitVec.ofInt 64 x).toNat = (x % 18446744073709551616).toNat := by rw [BitVec.toNat_ofInt]; rfl
theorem hint_and_i (x : Int) (c : Nat) (hc : c < 18446744073709551616) : hint .and .i64 x (c : Int) = some (.int .i64 (IntKind.i64.wrap (((x % 18446744073709551616).toNat &&& c : Nat) : Int))) := by
  show some (Value.int .i64 (IntKind.i64.wrap ((BitVec.ofInt 64 x &&& BitVec.ofInt 64 (c : Int)).toNat : Int))) = _
  rw [BitVec.toNat_and, ofInt_any, ofInt_nat c hc]
theorem hint_and1023 (x : Int) : hint .and .i64 x 1023 = some (.int .i64 (x % 1024)) := by
  rw [show (1023 : Int) = ((1023 : Nat) : Int) from rfl, hint_and_i x 1023 (by omega), show (1023 : Nat) = 2 ^ 10 - 1 from rfl, Nat.and_two_pow_sub_one_eq_mod, wrap_i _ (by omega) (by omega)]
  congr 2; omega
theorem hint_and63 (x : Int) : hint .and .i64 x 63 = some (.int .i64 (x % 64)) := by
  rw [show (63 : Int) = ((63 : Nat) : Int) from rfl, hint_and_i x 63 (by omega), show (63 : Nat) = 2 ^ 6 - 1 from rfl, Nat.and_two_pow_sub_one_eq_mod, wrap_i _ (by omega) (by omega)]
  congr 2; omega
theorem hint_and15 (x : Int) : hint .and .i64 x 15 = some (.int .i64 (x % 16)) := by
  rw [show (15 : Int) = ((15 : Nat) : Int) from rfl, hint_and_i x 15 (by omega), show (15 : Nat) = 2 ^ 4 - 1 from rfl, Nat.and_two_pow_sub_one_eq_mod, wrap_i _ (by omega) (by omega)]
  congr 2; omega
theorem hint_and3 (x : Int) : hint .and .i64 x 3 = some (.int .i64 (x % 4)) := by
  rw [show (3 : Int) = ((3 : Nat) : Int) from rfl, hint_and_i x 3 (by omega), show (3 : Nat) = 2 ^ 2 - 1 from rfl, Nat.and_two_pow_sub_one_eq_mod, wrap_i _ (by omega) (by omega)]
  congr 2; omega
theorem hint_and1 (x : Int) : hint .and .i64 x 1 = some (.int .i64 (x % 2)) := by
  rw [show (1 : Int) = ((1 : Nat) : Int) from rfl, hint_and_i x 1 (by omega), show (1 : Nat) = 2 ^ 1 - 1 from rfl, Nat.and_two_pow_sub_one_eq_mod, wrap_i _ (by omega) (by omega)]
  congr 2; omega
theorem and_bit (m j : Nat) : m &&& 2 ^ j = m / 2 ^ j % 2 * 2 ^ j := by
  apply Nat.eq_of_testBit_eq
  intro i
  rw [Nat.testBit_and, Nat.testBit_two_pow, Nat.mul_comm, Nat.testBit_two_pow_mul]
  by_cases h : j = i
  · subst h
    simp [Nat.testBit_eq_decide_div_mod_eq]
  · simp only [h, decide_false, Bool.and_false]
    by_cases h2 : j ≤ i
    · have : 1 ≤ i - j := by omega
      rw [Nat.testBit_eq_decide_div_mod_eq]
      have h3 : m / 2 ^ j % 2 / 2 ^ (i - j) = 0 := Nat.div_eq_of_lt (Nat.lt_of_lt_of_le (Nat.mod_lt _ (by omega)) (by
        calc 2 = 2 ^ 1 := rfl
          _ ≤ 2 ^ (i - j) := Nat.pow_le_pow_right (by omega) this))
      simp [h3]
    · simp [h2]
theorem hint_and20 (x : Int) : hint .and .i64 x 1048576 = some (.int .i64 (x / 1048576 % 2 * 1048576)) := by
  rw [show (1048576 : Int) = ((1048576 : Nat) : Int) from rfl, hint_and_i x 1048576 (by omega), show (1048576 : Nat) = 2 ^ 20 from rfl, and_bit]
  have h2 : (2 : Nat) ^ 20 = 1048576 := rfl
  simp only [h2]
  rw [wrap_i _ (by omega) (by omega)]
  congr 2; omega
theorem hshr20i (x : Int) : hshift .shr .i64 x 20 = some (.int .i64 (x / 1048576)) := by
  unfold hshift; rw [if_neg (by omega)]; simp only [IntKind.bits, Option.some.injEq, Value.int.injEq, true_and]
  rw [show (2 : Int) ^ min (20 : Int).toNat 64 = 1048576 from rfl, Int.fdiv_eq_ediv_of_nonneg _ (by omega)]
theorem hmin2_fst (k k' : IntKind) (x y : Int) (h : x ≤ y) : hmin2 (.int k x) (.int k' y) = some (.int k x) := by unfold hmin2; simp only; rw [if_neg (by omega)]
theorem hmin2_snd (k k' : IntKind) (x y : Int) (h : y ≤ x) : hmin2 (.int k x) (.int k' y) = some (.int k y) := by
  unfold hmin2; simp only
  by_cases e : y < x
  · rw [if_pos e]
  · rw [if_neg e]; congr 2; omega
theorem hmax2_fst (k k' : IntKind) (x y : Int) (h : y ≤ x) : hmax2 (.int k x) (.int k' y) = some (.int k x) := by unfold hmax2; simp only; rw [if_neg (by omega)]
theorem hmax2_snd (k k' : IntKind) (x y : Int) (h : x ≤ y) : hmax2 (.int k x) (.int k' y) = some (.int k y) := by
  unfold hmax2; simp only
  by_cases e : y > x
  · rw [if_pos e]
  · rw [if_neg e]; congr 2; omega
attribute [go_sem] hmin2_fst hmin2_snd hmax2_fst hmax2_snd hint_and1023 hint_and63 hint_and15 hint_and3 hint_and1 hint_and20 hshr20i
end Go.HL
/-
  More numbers: division of any sign, high and low halves.
-/
namespace Go.HL
open Go.RowKit
set_option linter.unusedSimpArgs false
theorem hint_and32 (x : Int) (h : 0 ≤ x) (h' : x < 18446744073709551616) : hint .and .u64 x 4294967295 = some (.int .u64 (x % 4294967296)) := by
  obtain ⟨n, rfl⟩ := Int.eq_ofNat_of_zero_le h
  show some (Value.int .u64 (IntKind.u64.wrap ((BitVec.ofInt 64 (n : Int) &&& BitVec.ofInt 64 4294967295).toNat : Int))) = _
  rw [BitVec.toNat_and, ofInt_nat n (by omega), show ((4294967295 : Int)) = ((4294967295 : Nat) : Int) from rfl, ofInt_nat 4294967295 (by omega)]
  rw [show (4294967295 : Nat) = 2 ^ 32 - 1 from rfl, Nat.and_two_pow_sub_one_eq_mod, wrap_u _ (by omega) (by omega)] <;> simp
theorem hshr32 (x : Int) : hshift .shr .u64 x 32 = some (.int .u64 (x / 4294967296)) := by
  unfold hshift; rw [if_neg (by omega)]; simp only [IntKind.bits, Option.some.injEq, Value.int.injEq, true_and]
  rw [show (2 : Int) ^ min (32 : Int).toNat 64 = 4294967296 from rfl, Int.fdiv_eq_ediv_of_nonneg _ (by omega)]
theorem hshr3i (x : Int) : hshift .shr .i64 x 3 = some (.int .i64 (x / 8)) := by
  unfold hshift; rw [if_neg (by omega)]; simp only [IntKind.bits, Option.some.injEq, Value.int.injEq, true_and]
  rw [show (2 : Int) ^ min (3 : Int).toNat 64 = 8 from rfl, Int.fdiv_eq_ediv_of_nonneg _ (by omega)]
theorem hint_tmod (k : IntKind) (x y : Int) (hy : y ≠ 0) : hint .rem k x y = some (.int k (x.tmod y)) := by unfold hint; simp only; rw [if_neg hy]
attribute [go_sem] hint_and32 hshr32 hshr3i
end Go.HL
