/-
  Walking equations: a text ranged over; bytes turned into a text.
-/
import Derived.Test.YtoflnkdngcdejaaGreatDoorPG6
set_option linter.unusedVariables false
set_option linter.unusedSimpArgs false
namespace Go.HL
open Go.RowKit
set_option linter.unusedSimpArgs false
set_option linter.unusedVariables false
variable {P : Program}
theorem hrange_S {t : TypeId} (ht : rngStr P t = true) (H : HHeap) (l : List UInt8) : hrange P H t (S l) = some (.pointer (some ⟨H.next, 0, none⟩), H.push (.iter ⟨l.toArray⟩ 0)) := by
  unfold hrange S; simp only [ht, if_true]
def hnx (H : HHeap) (b : Nat) (o : Option HObj) : Option (Value × HHeap) :=
  match o with
  | some (.iter s pos) => if pos < s.size then some (.tuple #[.bool true, .int .i64 pos, .int .i32 (Utf8.decode s pos).1], H.set b (.iter s (pos + (Utf8.decode s pos).2))) else some (.tuple #[.bool false], H.kill b)
  | _ => none
theorem hnext_ptr (H : HHeap) (b : Nat) : hnext H (.pointer (some ⟨b, 0, none⟩)) = hnx H b (H.get b) := by unfold hnext hnx; rfl
theorem hnx_end (H : HHeap) (b : Nat) (s : ByteArray) (pos : Nat) (h : s.size ≤ pos) : hnx H b (some (.iter s pos)) = some (.tuple #[.bool false], H.kill b) := by
  unfold hnx; simp only; rw [if_neg (by omega)]
theorem hnx_more (H : HHeap) (b : Nat) (s : ByteArray) (pos : Nat) (h : pos < s.size) : hnx H b (some (.iter s pos)) = some (.tuple #[.bool true, .int .i64 pos, .int .i32 (Utf8.decode s pos).1], H.set b (.iter s (pos + (Utf8.decode s pos).2))) := by
  unfold hnx; simp only; rw [if_pos h]
/-- What a rune's first byte tells. -/
theorem decode_ge (s : ByteArray) (pos : Nat) (h : 128 ≤ (s.get! pos).toNat) : 128 ≤ (Utf8.decode s pos).1 := by
  unfold Utf8.decode
  simp only [Nat.add_zero]
  rw [if_neg (by omega)]
  split
  · split
    · assumption
    · decide
  · split
    · split
      · rename_i hc; simp only [Bool.and_eq_true, decide_eq_true_eq] at hc; show 128 ≤ _; omega
      · decide
    · split
      · split
        · rename_i hc; simp only [Bool.and_eq_true, decide_eq_true_eq] at hc; show 128 ≤ _; omega
        · decide
      · decide
theorem decode_byte (l : List UInt8) (pos : Nat) (b : UInt8) (hb : l[pos]? = some b) : (b.toNat < 128 ∧ Utf8.decode ⟨l.toArray⟩ pos = (b.toNat, 1)) ∨ (128 ≤ b.toNat ∧ 128 ≤ (Utf8.decode ⟨l.toArray⟩ pos).1) := by
  have hlt : pos < l.length := (List.getElem?_eq_some_iff.1 hb).1
  have hsz : pos < (⟨l.toArray⟩ : ByteArray).size := by rw [s_size]; exact hlt
  have hg : (⟨l.toArray⟩ : ByteArray)[pos]'hsz = b := by
    show l.toArray[pos]'(by simpa using hlt) = b
    have := (List.getElem?_eq_some_iff.1 hb).2
    simpa using this
  rcases Nat.lt_or_ge b.toNat 128 with h | h
  · left
    refine ⟨h, ?_⟩
    rw [decode_ascii _ pos hsz (by rw [hg]; exact h), hg]
  · right
    refine ⟨h, decode_ge _ pos ?_⟩
    have : (⟨l.toArray⟩ : ByteArray).get! pos = b := by
      show l.toArray[pos]! = b
      rw [getElem!_pos l.toArray pos (by simpa using hlt)]
      simpa using (List.getElem?_eq_some_iff.1 hb).2
    rw [this]; exact h
theorem hbb_S (z : Nat) (hz : z < 256) (rw' : Bool) : hbb (some (.cells [.int .u8 (z : Int)] rw')) 0 1 = some (S [UInt8.ofNat z]) := hbb_one z hz rw'
theorem x_boxAgg (H : HHeap) (cs : List Value) (h : allOne cs = true) : hbox H (.agg cs.toArray) = some (.pointer (some ⟨H.next, 0, none⟩), H.push (.cells cs true)) := by
  unfold hbox
  simp only [Value.cells, List.toList_toArray, h, if_true]
attribute [go_sem] x_boxAgg
attribute [go_sem] hop_range hop_next hcallee_range hcallee_next Option.bind_some hrange_S hnext_ptr hnx_end hnx_more
end Go.HL
