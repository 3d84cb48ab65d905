/-
  Numbers, as the walks meet them.
-/
import Derived.Test.YtakjligkeplohaaGreatDoorPFH15
import Derived.Laws.Bits64b
set_option linter.unusedVariables false
set_option linter.unusedSimpArgs false
namespace Go.HL
open Go.RowKit

variable {P : Program}

theorem hint_add (k : IntKind) (x y : Int) : hint .add k x y = some (.int k (k.wrap (x + y))) := by unfold hint; rfl
theorem hint_sub (k : IntKind) (x y : Int) : hint .sub k x y = some (.int k (k.wrap (x - y))) := by unfold hint; rfl
theorem hint_mul (k : IntKind) (x y : Int) : hint .mul k x y = some (.int k (k.wrap (x * y))) := by unfold hint; rfl
theorem hint_eql (k : IntKind) (x y : Int) : hint .eql k x y = some (.bool (decide (x = y))) := by
  unfold hint; simp only [Option.some.injEq, Value.bool.injEq]
  by_cases h : x = y <;> simp [h]
theorem hint_neq (k : IntKind) (x y : Int) : hint .neq k x y = some (.bool (decide (x ≠ y))) := by
  unfold hint; simp only [Option.some.injEq, Value.bool.injEq]
  by_cases h : x = y <;> simp [h]
theorem hint_lss (k : IntKind) (x y : Int) : hint .lss k x y = some (.bool (decide (x < y))) := by unfold hint; rfl
theorem hint_leq (k : IntKind) (x y : Int) : hint .leq k x y = some (.bool (decide (x ≤ y))) := by unfold hint; rfl
theorem hint_gtr (k : IntKind) (x y : Int) : hint .gtr k x y = some (.bool (decide (y < x))) := by unfold hint; rfl
theorem hint_geq (k : IntKind) (x y : Int) : hint .geq k x y = some (.bool (decide (y ≤ x))) := by unfold hint; rfl
theorem hint_quo (k : IntKind) (x y : Int) (h : 0 ≤ x) (hy : 0 < y) : hint .quo k x y = some (.int k (k.wrap (x / y))) := by
  unfold hint; simp only; rw [if_neg (by omega), Int.tdiv_eq_ediv_of_nonneg h]
theorem hint_rem (k : IntKind) (x y : Int) (h : 0 ≤ x) (hy : 0 < y) : hint .rem k x y = some (.int k (x % y)) := by
  unfold hint; simp only; rw [if_neg (by omega), Int.tmod_eq_emod_of_nonneg h]

theorem wrap_i (x : Int) (h : -9223372036854775808 ≤ x) (h' : x < 9223372036854775808) : IntKind.i64.wrap x = x := by rw [IntKind.wrap_i64]; omega
theorem wrap_u (x : Int) (h : 0 ≤ x) (h' : x < 18446744073709551616) : IntKind.u64.wrap x = x := by rw [IntKind.wrap_u64]; omega

theorem ofInt_nat (x : Nat) (h : x < 18446744073709551616) : (BitVec.ofInt 64 (x : Int)).toNat = x := by
  rw [BitVec.ofInt_natCast, BitVec.toNat_ofNat]; exact Nat.mod_eq_of_lt (by omega)

theorem hint_and7 (x : Int) (h : 0 ≤ x) (h' : x < 18446744073709551616) : hint .and .u64 x 7 = some (.int .u64 (x % 8)) := by
  obtain ⟨n, rfl⟩ := Int.eq_ofNat_of_zero_le h
  show some (Value.int .u64 (IntKind.u64.wrap ((BitVec.ofInt 64 (n : Int) &&& BitVec.ofInt 64 7).toNat : Int))) = _
  rw [BitVec.toNat_and, ofInt_nat n (by omega), show ((7 : Int)) = ((7 : Nat) : Int) from rfl, ofInt_nat 7 (by omega)]
  rw [show (7 : Nat) = 2 ^ 3 - 1 from rfl, Nat.and_two_pow_sub_one_eq_mod, wrap_u _ (by omega) (by omega)] <;> simp
theorem hint_and255 (x : Int) (h : 0 ≤ x) (h' : x < 18446744073709551616) : hint .and .u64 x 255 = some (.int .u64 (x % 256)) := by
  obtain ⟨n, rfl⟩ := Int.eq_ofNat_of_zero_le h
  show some (Value.int .u64 (IntKind.u64.wrap ((BitVec.ofInt 64 (n : Int) &&& BitVec.ofInt 64 255).toNat : Int))) = _
  rw [BitVec.toNat_and, ofInt_nat n (by omega), show ((255 : Int)) = ((255 : Nat) : Int) from rfl, ofInt_nat 255 (by omega)]
  rw [show (255 : Nat) = 2 ^ 8 - 1 from rfl, Nat.and_two_pow_sub_one_eq_mod, wrap_u _ (by omega) (by omega)] <;> simp

theorem or_low (x y k : Nat) (h : x % 2 ^ k = 0) (hy : y < 2 ^ k) : x ||| y = x + y := by
  obtain ⟨m, rfl⟩ := Nat.dvd_of_mod_eq_zero h
  rw [Nat.mul_comm, ← Nat.shiftLeft_eq, Nat.shiftLeft_add_eq_or_of_lt hy]

theorem hint_or3 (x y : Int) (h : 0 ≤ x) (h' : x < 18446744073709551616) (h8 : x % 8 = 0) (hy : 0 ≤ y) (hy' : y < 8) : hint .or .u64 x y = some (.int .u64 (x + y)) := by
  obtain ⟨n, rfl⟩ := Int.eq_ofNat_of_zero_le h
  obtain ⟨m, rfl⟩ := Int.eq_ofNat_of_zero_le hy
  show some (Value.int .u64 (IntKind.u64.wrap ((BitVec.ofInt 64 (n : Int) ||| BitVec.ofInt 64 (m : Int)).toNat : Int))) = _
  rw [BitVec.toNat_or, ofInt_nat n (by omega), ofInt_nat m (by omega), or_low n m 3 (by omega) (by omega), wrap_u _ (by omega) (by omega)] <;> simp
theorem hint_or8 (x y : Int) (h : 0 ≤ x) (h' : x < 4611686018427387904) (h8 : x % 256 = 0) (hy : 0 ≤ y) (hy' : y < 256) : hint .or .i64 x y = some (.int .i64 (x + y)) := by
  obtain ⟨n, rfl⟩ := Int.eq_ofNat_of_zero_le h
  obtain ⟨m, rfl⟩ := Int.eq_ofNat_of_zero_le hy
  show some (Value.int .i64 (IntKind.i64.wrap ((BitVec.ofInt 64 (n : Int) ||| BitVec.ofInt 64 (m : Int)).toNat : Int))) = _
  rw [BitVec.toNat_or, ofInt_nat n (by omega), ofInt_nat m (by omega), or_low n m 8 (by omega) (by omega), wrap_i _ (by omega) (by omega)] <;> simp

theorem hshift_shl (k : IntKind) (x y : Int) (hy : 0 ≤ y) (hy' : y < 64) (hk : k.bits = 64) : hshift .shl k x y = some (.int k (k.wrap (x * 2 ^ y.toNat))) := by
  unfold hshift; rw [if_neg (by omega), hk, Nat.min_eq_left (by omega)]
theorem hshl3 (x : Int) : hshift .shl .u64 x 3 = some (.int .u64 (IntKind.u64.wrap (x * 8))) := hshift_shl _ _ _ (by omega) (by omega) rfl
theorem hshl3i (x : Int) : hshift .shl .i64 x 3 = some (.int .i64 (IntKind.i64.wrap (x * 8))) := hshift_shl _ _ _ (by omega) (by omega) rfl
theorem hshl8i (x : Int) : hshift .shl .i64 x 8 = some (.int .i64 (IntKind.i64.wrap (x * 256))) := hshift_shl _ _ _ (by omega) (by omega) rfl
theorem hshr3 (x : Int) : hshift .shr .u64 x 3 = some (.int .u64 (x / 8)) := by
  unfold hshift; rw [if_neg (by omega)]; simp only [IntKind.bits, Option.some.injEq, Value.int.injEq, true_and]
  rw [show (2 : Int) ^ min (3 : Int).toNat 64 = 8 from rfl, Int.fdiv_eq_ediv_of_nonneg _ (by omega)]
theorem hshr8 (x : Int) : hshift .shr .u64 x 8 = some (.int .u64 (x / 256)) := by
  unfold hshift; rw [if_neg (by omega)]; simp only [IntKind.bits, Option.some.injEq, Value.int.injEq, true_and]
  rw [show (2 : Int) ^ min (8 : Int).toNat 64 = 256 from rfl, Int.fdiv_eq_ediv_of_nonneg _ (by omega)]

theorem HIf_pos {p : Prop} [Decidable p] (h : p) (X Y : HFrame → HHeap → Prop) (fr : HFrame) (H : HHeap) : HIf (decide p) X Y fr H = X fr H := by simp [h, HIf]
theorem HIf_neg {p : Prop} [Decidable p] (h : ¬ p) (X Y : HFrame → HHeap → Prop) (fr : HFrame) (H : HHeap) : HIf (decide p) X Y fr H = Y fr H := by simp [h, HIf]
theorem HIf_not_pos {p : Prop} [Decidable p] (h : p) (X Y : HFrame → HHeap → Prop) (fr : HFrame) (H : HHeap) : HIf (!decide p) X Y fr H = Y fr H := by simp [h, HIf]
theorem HIf_not_neg {p : Prop} [Decidable p] (h : ¬ p) (X Y : HFrame → HHeap → Prop) (fr : HFrame) (H : HHeap) : HIf (!decide p) X Y fr H = X fr H := by simp [h, HIf]
theorem HWant_pos {p : Prop} [Decidable p] (h : p) (no : Value → HHeap → Prop) (yes : HHeap → Prop) (H : HHeap) : HWant (some (decide p)) no yes H = yes H := by simp [h, HWant]
theorem HWant_neg {p : Prop} [Decidable p] (h : ¬ p) (no : Value → HHeap → Prop) (yes : HHeap → Prop) (H : HHeap) : HWant (some (decide p)) no yes H = no undef H := by simp [h, HWant]
theorem HWant_not_pos {p : Prop} [Decidable p] (h : p) (no : Value → HHeap → Prop) (yes : HHeap → Prop) (H : HHeap) : HWant (some (!decide p)) no yes H = no undef H := by simp [h, HWant]
theorem HWant_not_neg {p : Prop} [Decidable p] (h : ¬ p) (no : Value → HHeap → Prop) (yes : HHeap → Prop) (H : HHeap) : HWant (some (!decide p)) no yes H = yes H := by simp [h, HWant]
theorem hpick_pos {p : Prop} [Decidable p] (h : p) (x y : Option Value) (H : HHeap) : hpick (some (.bool (decide p))) x y H = x.map fun v => (v, H) := by rw [show decide p = true by simp [h], hpick_true]
theorem hpick_neg {p : Prop} [Decidable p] (h : ¬ p) (x y : Option Value) (H : HHeap) : hpick (some (.bool (decide p))) x y H = y.map fun v => (v, H) := by rw [show decide p = false by simp [h], hpick_false]
theorem dec_pos {p : Prop} [Decidable p] (h : p) : decide p = true := by simp [h]
theorem dec_neg {p : Prop} [Decidable p] (h : ¬ p) : decide p = false := by simp [h]
theorem ite_yes {α : Type} {p : Prop} [Decidable p] (h : p) (a b : α) : (if p then a else b) = a := if_pos h
theorem ite_no {α : Type} {p : Prop} [Decidable p] (h : ¬ p) (a b : α) : (if p then a else b) = b := if_neg h

/-- A word, and a number. -/
abbrev U (n : Nat) : Value := .int .u64 (n : Int)
abbrev I (n : Int) : Value := .int .i64 n
end Go.HL
