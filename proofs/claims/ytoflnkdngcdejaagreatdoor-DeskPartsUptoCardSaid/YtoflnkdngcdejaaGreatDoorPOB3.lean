/-
  Arguments, opened: rows of numbers, of bools, of structs.
-/
import Derived.Test.YtoflnkdngcdejaaGreatDoorPOB1
import Derived.Test.YtoflnkdngcdejaaGreatDoorPE2
import Derived.OpenShut
set_option linter.unusedVariables false
set_option linter.unusedSimpArgs false
namespace Go.HL
open Go.RowKit
set_option linter.unusedVariables false
set_option linter.unusedSimpArgs false

/-- A row that came as an argument. -/
def SlArg (H : HHeap) (v : Value) (e n : Nat) (cells : List Value) : Prop :=
  cells.length = n * e ∧ n ≤ maxLen ∧ ∃ a cap, v = .slice a n cap ∧ n ≤ cap ∧ ((a = none ∧ cap = 0) ∨ ∃ b, a = some ⟨b, 0, none⟩ ∧ (n ≠ 0 → H.get b = some (.cells cells false)))

theorem SlArg.frame {H H' : HHeap} {v : Value} {e n : Nat} {cells : List Value} (h : SlArg H v e n cells) (ok : H.Ok) (f : ∀ b, b < H.next → H'.get b = H.get b) : SlArg H' v e n cells := by
  obtain ⟨h1, h2, a, cap, h3, h4, h5⟩ := h
  refine ⟨h1, h2, a, cap, h3, h4, ?_⟩
  rcases h5 with h5 | ⟨b, h5, h6⟩
  · exact .inl h5
  · exact .inr ⟨b, h5, fun hn => by rw [f b (ok _ _ (h6 hn))]; exact h6 hn⟩

section
variable {P : Program} {L : Nat} {H : HHeap} {n : Nat} {t : TypeId} {hs : List Value}

theorem harg_slice {e : TypeId} (ht : P.underlying t = some (.slice e)) (h : HArg P L H n t hs) :
    ∃ v len cells m, hs = [v] ∧ SlArg H v (P.cellsOf e) len cells ∧ ∀ i, i < len → HArg P L H m e ((cells.drop (i * P.cellsOf e)).take (P.cellsOf e)) := by
  cases n with
  | zero => exact h.elim
  | succ n =>
    unfold HArg at h; rw [ht] at h
    obtain ⟨a, len, cap, cells, rfl, h2, h3, h4, h5, h6⟩ := h
    exact ⟨_, len, cells, n, rfl, ⟨h4, by omega, a, cap, rfl, h2, h5⟩, h6⟩
theorem harg_struct {fs : Array Field} (ht : P.underlying t = some (.struct fs)) (h : HArg P L H n t hs) :
    hs.length = P.cellsOf t ∧ ∃ m, ∀ f ∈ fs.toList, HArg P L H m f.type ((hs.drop f.offset).take (P.cellsOf f.type)) := by
  cases n with
  | zero => exact h.elim
  | succ n =>
    unfold HArg at h; rw [ht] at h
    exact ⟨h.1, n, h.2⟩
theorem harg_int {k : IntKind} (ht : P.underlying t = some (.int k)) (h : HArg P L H n t hs) : ∃ z, hs = [.int k z] ∧ (Lit.int k z).wf = true := by
  cases n with
  | zero => exact h.elim
  | succ n => unfold HArg at h; rw [ht] at h; exact h
theorem harg_bool (ht : P.underlying t = some .bool) (h : HArg P L H n t hs) : ∃ b, hs = [.bool b] := by
  cases n with
  | zero => exact h.elim
  | succ n => unfold HArg at h; rw [ht] at h; exact h
theorem harg_string (ht : P.underlying t = some .string) (h : HArg P L H n t hs) : ∃ s, hs = [.string s] ∧ s.size ≤ L := by
  cases n with
  | zero => exact h.elim
  | succ n => unfold HArg at h; rw [ht] at h; exact h

theorem one_cell {cells : List Value} {i : Nat} {v : Value} (h : (cells.drop (i * 1)).take 1 = [v]) : cells[i]? = some v := by
  have : ((cells.drop (i * 1)).take 1)[0]? = some v := by rw [h]; rfl
  rw [List.getElem?_take, if_pos (by omega), List.getElem?_drop] at this
  simpa using this

/-- A row of words. -/
theorem harg_words {e : TypeId} (ht : P.underlying t = some (.slice e)) (he : P.underlying e = some (.int .u64)) (hc : P.cellsOf e = 1) (h : HArg P L H n t hs) :
    ∃ (v : Value) (l : List Nat), hs = [v] ∧ SlArg H v 1 l.length (l.map U) ∧ ∀ x ∈ l, x < 18446744073709551616 := by
  obtain ⟨v, len, cells, m, rfl, hs, hel⟩ := harg_slice ht h
  rw [hc] at hs hel
  have hl := hs.1
  have each : ∀ (i : Nat) (v : Value), cells[i]? = some v → ∃ x : Nat, v = U x ∧ x < 18446744073709551616 := by
    intro i v hv
    have hi : i < len := by have := (List.getElem?_eq_some_iff.1 hv).1; omega
    obtain ⟨z, h1, h2⟩ := harg_int he (hel i hi)
    have h3 := one_cell h1
    rw [hv] at h3; cases h3
    have := bounds_u64 h2
    exact ⟨z.toNat, by rw [U, Int.toNat_of_nonneg this.1], by omega⟩
  have hcells : ∃ l : List Nat, cells = l.map U ∧ ∀ x ∈ l, x < 18446744073709551616 := by
    clear hel hs hl
    induction cells with
    | nil => exact ⟨[], rfl, by simp⟩
    | cons v cells ih =>
      obtain ⟨x, h1, h2⟩ := each 0 v rfl
      obtain ⟨l, h3, h4⟩ := ih (fun i v hv => each (i + 1) v (by simpa using hv))
      exact ⟨x :: l, by rw [List.map_cons, h1, h3], fun y hy => by rcases List.mem_cons.1 hy with rfl | hy; exact h2; exact h4 y hy⟩
  obtain ⟨l, rfl, hlt⟩ := hcells
  have : len = l.length := by simpa using hl.symm
  subst this
  exact ⟨v, l, rfl, hs, hlt⟩
end

/-- Its first so many. -/
theorem slarg_hi {P : Program} {t u : TypeId} {e n m : Nat} {k : IntKind} {a : Option Addr} {cap : Nat} {cells : List Value} {H : HHeap} (ht : P.underlying t = some (.slice u)) (hz : hsize P u = some e) (h : SlArg H (.slice a n cap) e n cells) (hm : m ≤ n) :
    hslice P t (.slice a n cap) none (some (.int k (m : Int))) none = some (.slice a m cap) := by
  obtain ⟨_, _, a', cap', h3, h4, h5⟩ := h
  cases h3
  rcases h5 with ⟨rfl, rfl⟩ | ⟨b, rfl, _⟩
  · have : n = 0 := by omega
    subst this
    have : m = 0 := by omega
    subst this
    rw [x_sliceN ht hz]; unfold sln; simp [hbound]
  · rw [x_slice ht hz, slx_hi _ _ _ _ _ _ _ (by omega) (by omega)]
    simp
theorem slarg_source {e n m cap : Nat} {a : Option Addr} {cells : List Value} {H H' : HHeap} (h : SlArg H (.slice a n cap) e n cells) (hm : m ≤ n) (ok : H.Ok) (f : ∀ b, b < H.next → H'.get b = H.get b) :
    hsource H' e (.slice a m cap) = some (cells.take (m * e), m) := by
  obtain ⟨h1, _, a', cap', h3, h4, h5⟩ := h
  cases h3
  rcases h5 with ⟨rfl, rfl⟩ | ⟨b, rfl, h6⟩
  · have : n = 0 := by omega
    subst this
    have : m = 0 := by omega
    subst this
    rw [hsource_nil]; simp
  · rw [hsource_slice]
    rcases Nat.eq_zero_or_pos m with rfl | hp
    · rw [hsrc_zero]; simp
    · have hg := h6 (by omega)
      have hle : m * e ≤ n * e := Nat.mul_le_mul_right _ hm
      rw [f b (ok _ _ hg), hg, hsrc_cells _ _ _ _ _ hp (by omega), List.drop_zero]
end Go.HL
