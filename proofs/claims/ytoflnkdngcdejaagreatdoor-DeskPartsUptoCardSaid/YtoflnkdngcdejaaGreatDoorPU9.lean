/-
  strings.Split at a space, at the high level.
-/
import Derived.Test.YtoflnkdngcdejaaGreatDoorPU8
import Derived.Test.YtoflnkdngcdejaaGreatDoorPG5
import Derived.Shelf.Strings.Split
set_option linter.unusedVariables false
set_option linter.unusedSimpArgs false
namespace Go.HL
open Go.RowKit Go.Proofs
set_option linter.unusedSimpArgs false
set_option linter.unusedVariables false
set_option maxRecDepth 100000
theorem strings_Split (s : ByteArray) (hs : s.size < 4294967281) (H : HHeap) :
    HCalls Tryz.prog 15 [.string s, .string ⟨#[32]⟩, .int .i64 0, .int .i64 (-1)] H fun v' H' =>
      v' = .slice (some ⟨H.next, 0, none⟩) (cutW s.data.toList).length (cutW s.data.toList).length ∧ H' = H.push (.cells ((cutW s.data.toList).map S) true) := by
  have hcut := split_cut s.data.toList
  have hse : (⟨s.data.toList.toArray⟩ : ByteArray) = s := by cases s; simp
  rw [hse] at hcut
  have hl : (Lib.splitB ⟨#[32]⟩ 0 (Lib.countB s ⟨#[32]⟩) s).length = Lib.countB s ⟨#[32]⟩ + 1 := Lib.splitB_all _ (by decide) 0 _ s rfl
  have hlc : (cutW s.data.toList).length = Lib.countB s ⟨#[32]⟩ + 1 := by rw [← hcut, List.length_map, hl]
  have hcells : (cutW s.data.toList).map S = (Lib.splitB ⟨#[32]⟩ 0 (Lib.countB s ⟨#[32]⟩) s).map Value.string := by
    rw [← hcut, List.map_map]
    apply List.map_congr_left
    intro x _
    show S x.data.toList = _
    rw [← s_of]
  have := HCalls.of_calls_row (P := Tryz.prog) (f := 15) (args := [.string s, .string ⟨#[32]⟩, .int .i64 0, .int .i64 (-1)]) (vs := (cutW s.data.toList).map S) (e := Tryz.lays221_ren.t 9) (by rfl) (by rw [List.all_eq_true]; intro v hv; obtain ⟨z, _, rfl⟩ := List.mem_map.1 hv; rfl) (fun w ht => by
    obtain ⟨hg, m, hm⟩ := ht.num 0 (by simp [hints])
    refine (Any.strings_genSplit Tryz.lays221 (by kernel_rfl) s ⟨#[32]⟩ 0 (-1) (Lib.countB s ⟨#[32]⟩ + 1) m w hs hm (by decide) (by decide) (by decide) (by decide) ?_).mono ?_
    · have := Lib.countB_le ⟨#[32]⟩ (by decide) s.size s (Nat.le_refl _)
      rw [if_pos (by decide)]; omega
    · rintro e w' ⟨rfl, rfl⟩
      rw [Nat.add_sub_cancel, hl]
      refine ⟨by rw [List.length_map, hlc], ?_⟩
      congr 2
      rw [hcells, ← hl]
      exact Lib.cellsOf_full _) H
  simpa only [List.length_map] using this

end Go.HL
