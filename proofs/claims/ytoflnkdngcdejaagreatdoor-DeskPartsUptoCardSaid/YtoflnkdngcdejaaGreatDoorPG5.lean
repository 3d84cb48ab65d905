/-
  Text: strings as rows of bytes.
-/
import Derived.Test.YtoflnkdngcdejaaGreatDoorPG4
set_option linter.unusedVariables false
set_option linter.unusedSimpArgs false
namespace Go.HL
open Go.RowKit
set_option linter.unusedSimpArgs false
set_option linter.unusedVariables false

theorem bytes_loop (bs : ByteArray) : ∀ (k i : Nat) (r : List UInt8), bs.size - i = k → ByteArray.toList.loop bs i r = r.reverse ++ bs.data.toList.drop i := by
  intro k
  induction k with
  | zero =>
    intro i r h
    rw [ByteArray.toList.loop, if_neg (by omega), List.drop_eq_nil_of_le (by rw [Array.length_toList, ByteArray.size_data]; omega), List.append_nil]
  | succ k ih =>
    intro i r h
    have hi : i < bs.size := by omega
    rw [ByteArray.toList.loop, if_pos hi, ih (i + 1) _ (by omega), List.reverse_cons, List.append_assoc]
    congr 1
    have hi' : i < bs.data.toList.length := by rw [Array.length_toList, ByteArray.size_data]; exact hi
    rw [List.drop_eq_getElem_cons hi']
    simp only [List.singleton_append, List.cons.injEq, and_true]
    cases bs with
    | mk data =>
      show data[i]! = _
      have : i < data.size := hi
      rw [getElem!_pos data i this]; simp
theorem bytes_list (bs : ByteArray) : bs.toList = bs.data.toList := by
  unfold ByteArray.toList; rw [bytes_loop bs _ 0 [] rfl]; simp

variable {P : Program}
theorem s_size (l : List UInt8) : (ByteArray.mk l.toArray).size = l.length := by rw [← ByteArray.size_data]; simp
theorem s_len {t : TypeId} (hu : P.underlying t = some .string) (H : HHeap) (l : List UInt8) : hlen P H t (S l) = some (.int .i64 (l.length : Nat)) := by
  unfold S; rw [x_lenStr hu, s_size]
def six (l : List UInt8) (i : Int) : Option Value := if 0 ≤ i then (l[i.toNat]?).map fun b => .int .u8 b.toNat else none
theorem six_ok (l : List UInt8) (n : Nat) (b : UInt8) (h : l[n]? = some b) : six l (n : Int) = some (.int .u8 b.toNat) := by
  unfold six; rw [if_pos (by omega), Int.toNat_natCast, h]; rfl
theorem s_index {t : TypeId} (hu : P.underlying t = some .string) (l : List UInt8) (k : IntKind) (i : Int) : hindex P t (S l) (.int k i) = six l i := by
  unfold hindex S six; simp only [hu]; simp
def ssl (l : List UInt8) (lo hi : Option Value) : Option Value := (hbound l.length l.length hi).bind fun h => (hbound h 0 lo).bind fun a => some (S ((l.take h).drop a))
theorem s_extract (l : List UInt8) (a h : Nat) : (ByteArray.mk l.toArray).extract a h = ⟨((l.take h).drop a).toArray⟩ := by
  apply ByteArray.ext
  rw [ByteArray.data_extract]
  simp [List.extract_toArray, List.extract_eq_take_drop, List.drop_take]
theorem s_slice {t : TypeId} (hu : P.underlying t = some .string) (l : List UInt8) (lo hi : Option Value) : hslice P t (S l) lo hi none = ssl l lo hi := by
  unfold hslice S ssl; simp only [hu, s_size, s_extract]; rfl
theorem ssl_lh (l : List UInt8) (a h : Nat) (k k' : IntKind) (h1 : a ≤ h) (h2 : h ≤ l.length) : ssl l (some (.int k (a : Int))) (some (.int k' (h : Int))) = some (S ((l.take h).drop a)) := by
  unfold ssl; rw [hbound_int _ _ _ _ (by omega) (by omega), Option.bind_some, hbound_int _ _ _ _ (by omega) (by omega), Option.bind_some]; simp
theorem ssl_lo (l : List UInt8) (a : Nat) (k : IntKind) (h1 : a ≤ l.length) : ssl l (some (.int k (a : Int))) none = some (S (l.drop a)) := by
  unfold ssl; rw [hbound_none, Option.bind_some, hbound_int _ _ _ _ (by omega) (by omega), Option.bind_some]; simp
theorem ssl_hi (l : List UInt8) (h : Nat) (k : IntKind) (h1 : h ≤ l.length) : ssl l none (some (.int k (h : Int))) = some (S (l.take h)) := by
  unfold ssl; rw [hbound_int _ _ _ _ (by omega) (by omega), Option.bind_some, hbound_none, Option.bind_some]; simp
theorem s_of (s : ByteArray) : Value.string s = S s.data.toList := by unfold S; rw [Array.toArray_toList]
theorem s_lit (l : List UInt8) : Value.string (ByteArray.mk (List.toArray l)) = S l := rfl
theorem s_eql (t : TypeId) (a b : List UInt8) : hbin P .eql t (S a) (S b) = some (.bool (a == b)) := by
  unfold hbin S hstr; simp only [bytes_list, List.toList_toArray]
theorem s_neq (t : TypeId) (a b : List UInt8) : hbin P .neq t (S a) (S b) = some (.bool (!(a == b))) := by
  unfold hbin S hstr; simp only [bytes_list, List.toList_toArray]
def sadd (a b : List UInt8) : Option Value := if a.length + b.length ≤ 1099511627776 then some (S (a ++ b)) else none
theorem sadd_ok (a b : List UInt8) (h : a.length + b.length ≤ 1099511627776) : sadd a b = some (S (a ++ b)) := by unfold sadd; rw [if_pos h]
theorem s_add (t : TypeId) (a b : List UInt8) : hbin P .add t (S a) (S b) = sadd a b := by
  unfold hbin S hstr sadd; simp only [s_size]
  split
  · congr 2
  · rfl
theorem s_one (l : List UInt8) : one (S l) = true := by unfold S one; rfl
theorem hev_S (fr : HFrame) (l : List UInt8) : hev fr (.const (S l)) = some (S l) := by unfold S; rw [hev_string]
attribute [go_sem] s_lit s_eql s_neq s_add hev_S
end Go.HL
