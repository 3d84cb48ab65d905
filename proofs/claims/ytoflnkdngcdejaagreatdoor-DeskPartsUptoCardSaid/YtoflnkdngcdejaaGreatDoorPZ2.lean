/-
  The law DeskParts over every heap in which its arguments lie; what the library keeps in its variables.
-/
import Derived.Test.YtoflnkdngcdejaaGreatDoorPQ6
import Derived.Test.YtoflnkdngcdejaaGreatDoorPOB2
import Derived.Test.YtoflnkdngcdejaaGreatDoorPOB3
import Derived.Test.YtoflnkdngcdejaaGreatDoorRows
import Derived.Test.YtoflnkdngcdejaaGreatDoorCards
import Derived.Test.YtoflnkdngcdejaaGreatDoorTie
import Derived.WalkKit
import Derived.ProofKit
import Derived.OpenShut
import Derived.LaidOnce
import Derived.SevenTiedAt
import Derived.Lib.LaidTab
import Derived.Shelf.Vars
import Derived.Stop.LaidErr
import Derived.JoinedCond
set_option linter.unusedVariables false
set_option linter.unusedSimpArgs false
namespace Go.Proofs.YtoflnkdngcdejaaGreatDoor
open Go.HL Go.RowKit Go.Proofs Go.ChangeShapes Go.WideShapes Go.ChangeAt
set_option maxHeartbeats 4000000
set_option maxRecDepth 1000000
set_option linter.unusedVariables false

theorem d_own : ownKnob Tryz.prog.godebug = none := by kernel_rfl
theorem d_laidOut : laidOutB Tryz.prog = true := by kernel_rfl
theorem d_tabs (W : World) (h : laidMetH Tryz.prog Rows.deskPartsUptoRow.laid W) (hs : W.ShapedOpen Tryz.prog) : TabsOk W.heap.size W := by
  constructor
  · intro t ht
    rw [show htabs = [(3, (Lib.pow10Tab.map fun z => Value.int .u64 z).toArray)] from rfl, List.mem_singleton] at ht
    subst ht
    rw [MakeChecks.laidMetH_plain _ _ _ (by kernel_rfl)] at h
    have h2 : laidMet Tryz.prog (("internal/strconv.uint64pow10", Lib.tabData .u64 Lib.pow10Tab) :: _) W := h.tail.tail
    have h3 := Lib.tabIs_of_head (P := Tryz.prog) (g := 3) (t := 254) (e := 68) (n := 20) (by kernel_rfl) (by kernel_rfl) (by kernel_rfl) (by kernel_rfl) (by kernel_rfl) (by kernel_rfl) h2
    unfold Lib.TabIs World.var? at h3
    rw [show Tryz.prog.globalNamed "internal/strconv.uint64pow10" = some 3 by kernel_rfl] at h3
    simp only [Option.bind_some] at h3
    split at h3
    · rename_i cs e fz hh
      cases h3
      exact ⟨(Array.getElem?_eq_some_iff.1 hh).1, e, fz, hh⟩
    · cases h3
  · intro g hg
    rw [show hints = [0] from rfl, List.mem_singleton] at hg
    subst hg
    obtain ⟨m, hm⟩ := cell_of_shapedOpen_int (P := Tryz.prog) (g := 0) (t := 3) (zero := #[.int .i64 0]) (k := .i64) hs (of_decide_eq_true (by kernel_rfl)) (by kernel_rfl) rfl (by kernel_rfl) (by kernel_rfl) (by kernel_rfl)
    refine ⟨?_, m, hm⟩
    unfold World.cell? at hm
    split at hm
    · rename_i hh
      exact (Array.getElem?_eq_some_iff.1 hh).1
    · cases hm

theorem text_S (s : ByteArray) : Value.string s = S s.data.toList := by
  unfold S; congr 1

theorem ev_of {H : HHeap} {m : Nat} {cs : List Value} (h : HArg Tryz.prog 1048576 H m 31 cs) : ∃ e : Ev, cs = e.cs ∧ e.ok := by
  obtain ⟨hl, m', hf⟩ := harg_struct Tryz.underlying31 h
  rw [show Tryz.prog.cellsOf 31 = 4 by kernel_rfl] at hl
  have c3 : Tryz.prog.cellsOf 3 = 1 := by kernel_rfl
  have c9 : Tryz.prog.cellsOf 9 = 1 := by kernel_rfl
  simp only [List.mem_cons, List.not_mem_nil, or_false, forall_eq_or_imp, forall_eq, c3, c9] at hf
  obtain ⟨f0, f1, f2, f3⟩ := hf
  match cs, hl with
  | [v0, v1, v2, v3], _ =>
    obtain ⟨k, e0, w0⟩ := harg_int (k := .i64) (by kernel_rfl) f0
    obtain ⟨a, e1, w1⟩ := harg_int (k := .i64) (by kernel_rfl) f1
    obtain ⟨b, e2, w2⟩ := harg_int (k := .i64) (by kernel_rfl) f2
    obtain ⟨s, e3, w3⟩ := harg_string (by kernel_rfl) f3
    simp at e0 e1 e2 e3
    subst e0 e1 e2 e3
    exact ⟨⟨k, a, b, s.data.toList⟩, by rw [Ev.cs, ← text_S], bounds_i64 w1, bounds_i64 w2, by simp; omega⟩

theorem evs_of {H : HHeap} {m : Nat} : ∀ (n : Nat) (cells : List Value), cells.length = n * 4 → (∀ i, i < n → HArg Tryz.prog 1048576 H m 31 ((cells.drop (i * 4)).take 4)) → ∃ l : List Ev, l.length = n ∧ (∀ e ∈ l, e.ok) ∧ ∀ i e, l[i]? = some e → (cells.drop (i * 4)).take 4 = e.cs := by
  intro n
  induction n with
  | zero => intro cells _ _; exact ⟨[], rfl, by simp, by simp⟩
  | succ n ih =>
    intro cells hl h
    obtain ⟨e, he, hok⟩ := ev_of (h 0 (by omega))
    obtain ⟨l, l1, l2, l3⟩ := ih (cells.drop 4) (by simp; omega) (fun i hi => by
      have := h (i + 1) (by omega)
      rw [List.drop_drop]
      rwa [show 4 + i * 4 = (i + 1) * 4 by omega])
    refine ⟨e :: l, by simp [l1], fun x hx => ?_, fun i x hx => ?_⟩
    · rcases List.mem_cons.1 hx with rfl | hx
      · exact hok
      · exact l2 x hx
    · cases i with
      | zero => cases hx; exact he
      | succ i =>
        have := l3 i x (by simpa using hx)
        rw [List.drop_drop] at this
        rwa [show (i + 1) * 4 = 4 + i * 4 by omega]

theorem d_law (H : HHeap) (hargs : List Value) (h : HArgs Tryz.prog 1048576 H [9, 22] hargs) : HCalls Tryz.prog 3 hargs H fun v _ => v = .bool true := by
  match hargs, h with
  | [v0, v1], ⟨h0, h1, _⟩ =>
    obtain ⟨n0, hs0, a0, b0⟩ := h0
    obtain ⟨n1, hs1, a1, b1⟩ := h1
    rw [Tryz.underlying9] at b0
    rw [Tryz.underlying22] at b1
    simp only at b0 b1
    obtain ⟨s, rfl, hs⟩ := harg_string Tryz.underlying9 a0
    obtain ⟨v, len, cells, m, rfl, hsl, hel⟩ := harg_slice Tryz.underlying22 a1
    cases b0
    cases b1
    rw [show Tryz.prog.cellsOf 31 = 4 by kernel_rfl] at hsl hel
    obtain ⟨k1, k2, a, cap, rfl, k3, k4⟩ := hsl
    obtain ⟨l, l1, l2, l3⟩ := evs_of len cells k1 hel
    subst l1
    rw [text_S]
    rcases k4 with ⟨rfl, rfl⟩ | ⟨b, rfl, k5⟩
    · obtain rfl : l = [] := List.eq_nil_of_length_eq_zero (by omega)
      exact parts_nil _ (by simp; omega) H
    · refine HCalls.ok fun hok => parts_some _ l l2 (by simp; omega) b 0 cap k3 H ⟨_, _, rfl, fun i e he => ?_⟩
      have hi := (List.getElem?_eq_some_iff.1 he).1
      have hg := k5 (by omega)
      exact ⟨b, 0, cells, false, rfl, hok _ _ hg, hg, by omega, by rw [Nat.zero_add]; exact l3 i e he⟩

end Go.Proofs.YtoflnkdngcdejaaGreatDoor
