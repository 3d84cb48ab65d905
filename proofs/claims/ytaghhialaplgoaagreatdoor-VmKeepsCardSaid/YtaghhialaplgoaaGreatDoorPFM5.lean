/-
  Joined: M2, M3, M4, M5.
-/
import Derived.Test.YtaghhialaplgoaaGreatDoorPFM1
import Derived.Test.YtaghhialaplgoaaGreatDoorPFT
import Derived.Test.YtaghhialaplgoaaGreatDoorPFW2
import Derived.Test.YtaghhialaplgoaaGreatDoorPFC5
set_option linter.unusedVariables false
set_option linter.unusedSimpArgs false
/-
  A machine in a heap.
-/
namespace Go.HL
open Go.RowKit Go.Proofs
set_option linter.unusedSimpArgs false
set_option linter.unusedVariables false

/-- Its cells. -/
def mcells (vb : Value) (g : Nat) (vn vk va : Value) (M : MS) : List Value :=
  [vb, ptr g 0, vn, vk, I (M.st : Nat), I (M.bl : Nat), I (M.pc : Nat), U M.v, U M.e, U M.s, U M.f, I (M.er : Nat), I (M.op : Nat), va]
def rIns : Rp In := ⟨4, fun _ _ cs i => cs = [.int .u8 (i.op : Nat), I (i.a : Nat), I (i.b : Nat), U i.w] ∧ i.op < 256 ∧ i.a < 1000000 ∧ i.b < 1000000 ∧ i.w < 18446744073709551616,
  by rintro _ _ _ _ ⟨rfl, _⟩; rfl, by rintro _ _ _ _ _ _ h _; exact h⟩
def rBk : Rp Bk := ⟨2, fun Z H cs b => ∃ v, cs = [I (b.many : Nat), v] ∧ Sl rIns Z H v b.l ∧ b.l.length < 1000000 ∧ b.many < 1000000,
  by rintro _ _ _ _ ⟨v, rfl, _⟩; rfl, by rintro _ _ _ _ _ _ ⟨v, rfl, h, h'⟩ k; exact ⟨v, rfl, h.ext k, h'⟩⟩
def rSlot : Rp (Nat × Bool) := ⟨2, fun _ _ cs x => cs = [U x.1, .bool x.2] ∧ x.1 < 18446744073709551616, by rintro _ _ _ _ ⟨rfl, _⟩; rfl, by rintro _ _ _ _ _ _ h _; exact h⟩
def scells (l : List (Nat × Bool)) : List Value := l.flatMap fun x => [U x.1, .bool x.2]
/-- The names' slots: a row that was made at once. -/
def NmAt (H : HHeap) (v : Value) (l : List (Nat × Bool)) : Prop := ∃ b, v = .slice (some ⟨b, 0, none⟩) l.length l.length ∧ H.get b = some (.cells (scells l) true)
/-- Its words are words. -/
structure MOk (M : MS) : Prop where
  v : M.v < 18446744073709551616
  e : M.e < 18446744073709551616
  s : M.s < 18446744073709551616
  f : M.f < 18446744073709551616
  nm : ∀ x ∈ M.nm, x.1 < 18446744073709551616
  ask : ∀ x ∈ M.ask, x < 18446744073709551616
  bl : M.bl < 1000000
  pc : M.pc < 1000000
  nml : M.nm.length ≤ 4096
  kpl : M.kp.length ≤ 16384
  askl : M.ask.length ≤ 1000000
/-- Where it is. -/
structure MIn (Z : Zs) (H : HHeap) (p size : Nat) (vb : Value) (g gw gh : Nat) (vn vk va : Value) (M : MS) : Prop where
  m : H.get p = some (.cells (mcells vb g vn vk va M) true)
  A : AtA H g gw gh size M.T
  nm : NmAt H vn M.nm
  kp : Gr rSlot Z H vk M.kp
  ask : Gr rW Z H va M.ask
  ok : MOk M
  zp : ¬ Z p ∧ ¬ Z g ∧ ¬ Z gw ∧ ¬ Z gh ∧ ∀ b ∈ sblk vn, ¬ Z b
  pg : p ≠ g ∧ p ≠ gw ∧ p ≠ gh
  dn : ∀ b ∈ sblk vn, b ≠ p ∧ b ≠ g ∧ b ≠ gw ∧ b ≠ gh
  dk : ∀ b ∈ sblk vk, b ≠ p ∧ b ≠ g ∧ b ≠ gw ∧ b ≠ gh ∧ b ∉ sblk vn
  da : ∀ b ∈ sblk va, b ≠ p ∧ b ≠ g ∧ b ≠ gw ∧ b ≠ gh ∧ b ∉ sblk vn ∧ b ∉ sblk vk
theorem MIn.lt {Z : Zs} {H : HHeap} {p size : Nat} {vb : Value} {g gw gh : Nat} {vn vk va : Value} {M : MS} (h : MIn Z H p size vb g gw gh vn vk va M) (ok : H.Ok) : p < H.next ∧ g < H.next ∧ gw < H.next ∧ gh < H.next ∧ (∀ b ∈ sblk vn, b < H.next) ∧ (∀ b ∈ sblk vk, b < H.next) ∧ (∀ b ∈ sblk va, b < H.next) := by
  refine ⟨ok _ _ h.m, ok _ _ h.A.a, ok _ _ h.A.w, ok _ _ h.A.h, fun b hb => ?_, h.kp.lt ok, h.ask.lt ok⟩
  obtain ⟨b', rfl, hg⟩ := h.nm
  simp [sblk] at hb; subst hb
  exact ok _ _ hg
/-- What is not its own may change. -/
theorem MIn.frame {Z Z' : Zs} {H H' : HHeap} {p size : Nat} {vb : Value} {g gw gh : Nat} {vn vk va : Value} {M : MS} (h : MIn Z H p size vb g gw gh vn vk va M) (k : Keep Z H Z' H')
    (f : ∀ b, (b = p ∨ b = g ∨ b = gw ∨ b = gh ∨ b ∈ sblk vn ∨ b ∈ sblk vk ∨ b ∈ sblk va) → H'.get b = H.get b ∧ ¬ Z' b) : MIn Z' H' p size vb g gw gh vn vk va M where
  m := by rw [(f p (by simp)).1]; exact h.m
  A := h.A.frame fun b hb => (f b (by rcases hb with h | h | h <;> simp [h])).1
  nm := by
    obtain ⟨b, e, hg⟩ := h.nm
    exact ⟨b, e, by rw [(f b (by simp [e, sblk])).1]; exact hg⟩
  kp := h.kp.ext k fun b hb => f b (by simp [hb])
  ask := h.ask.ext k fun b hb => f b (by simp [hb])
  ok := h.ok
  zp := ⟨(f p (by simp)).2, (f g (by simp)).2, (f gw (by simp)).2, (f gh (by simp)).2, fun b hb => (f b (by simp [hb])).2⟩
  pg := h.pg
  dn := h.dn
  dk := h.dk
  da := h.da
/-- Something was made beside it. -/
theorem MIn.old {Z Z' : Zs} {H H' : HHeap} {p size : Nat} {vb : Value} {g gw gh : Nat} {vn vk va : Value} {M : MS} (h : MIn Z H p size vb g gw gh vn vk va M) (ok : H.Ok) (hO : Old H H') (hZ : ∀ b, Z b → b < H.next) (h1 : ∀ b, Z b → Z' b) (h2 : ∀ b, Z' b → Z b ∨ H.next ≤ b) : MIn Z' H' p size vb g gw gh vn vk va M := by
  have l := h.lt ok
  refine h.frame (fun b hb => ⟨h1 b hb, hO.2 b (hZ b hb)⟩) fun b hb => ?_
  have hl : b < H.next ∧ ¬ Z b := by
    rcases hb with rfl | rfl | rfl | rfl | hb | hb | hb
    · exact ⟨l.1, h.zp.1⟩
    · exact ⟨l.2.1, h.zp.2.1⟩
    · exact ⟨l.2.2.1, h.zp.2.2.1⟩
    · exact ⟨l.2.2.2.1, h.zp.2.2.2.1⟩
    · exact ⟨l.2.2.2.2.1 b hb, h.zp.2.2.2.2 b hb⟩
    · exact ⟨l.2.2.2.2.2.1 b hb, (h.kp.blk b hb).1⟩
    · exact ⟨l.2.2.2.2.2.2 b hb, (h.ask.blk b hb).1⟩
  exact ⟨hO.2 b hl.1, fun hz => (h2 b hz).elim hl.2 fun h => by omega⟩
/-- Its own cells are set. -/
theorem MIn.put {Z : Zs} {H : HHeap} {p size : Nat} {vb : Value} {g gw gh : Nat} {vn vk va : Value} {M M' : MS} (h : MIn Z H p size vb g gw gh vn vk va M) (hT : M'.T = M.T) (hn : M'.nm = M.nm) (hk : M'.kp = M.kp) (ha : M'.ask = M.ask) (ok : MOk M') : MIn Z (H.set p (.cells (mcells vb g vn vk va M') true)) p size vb g gw gh vn vk va M' where
  m := by rw [get_set_same]
  A := by rw [hT]; exact h.A.frame fun b hb => get_set_ne _ _ _ (by rcases hb with rfl | rfl | rfl; exact h.pg.1.symm; exact h.pg.2.1.symm; exact h.pg.2.2.symm)
  nm := by
    rw [hn]
    obtain ⟨b, e, hg⟩ := h.nm
    exact ⟨b, e, by rw [get_set_ne _ _ _ (h.dn b (by simp [e, sblk])).1]; exact hg⟩
  kp := by rw [hk]; exact h.kp.ext (fun b hb => ⟨hb, get_set_ne _ _ _ (by rintro rfl; exact h.zp.1 hb)⟩) fun b hb => ⟨get_set_ne _ _ _ (h.dk b hb).1, (h.kp.blk b hb).1⟩
  ask := by rw [ha]; exact h.ask.ext (fun b hb => ⟨hb, get_set_ne _ _ _ (by rintro rfl; exact h.zp.1 hb)⟩) fun b hb => ⟨get_set_ne _ _ _ (h.da b hb).1, (h.ask.blk b hb).1⟩
  ok := ok
  zp := h.zp
  pg := h.pg
  dn := h.dn
  dk := h.dk
  da := h.da
/-- What stays, stays. -/
structure Kp (Z : Zs) (H H' : HHeap) : Prop where
  next : H.next ≤ H'.next
  keep : ∀ b, Z b → H'.get b = H.get b
theorem Kp.refl (Z : Zs) (H : HHeap) : Kp Z H H := ⟨Nat.le_refl _, fun _ _ => rfl⟩
theorem Kp.trans {Z : Zs} {H H' H'' : HHeap} (a : Kp Z H H') (b : Kp Z H' H'') : Kp Z H H'' := ⟨Nat.le_trans a.next b.next, fun x hx => by rw [b.keep x hx, a.keep x hx]⟩
theorem Kp.ext {Z : Zs} {H H' : HHeap} (h : Kp Z H H') : Keep Z H Z H' := fun b hb => ⟨hb, h.keep b hb⟩
theorem Kp.set {Z : Zs} {H : HHeap} {p : Nat} {o : HObj} (h : ¬ Z p) : Kp Z H (H.set p o) := ⟨by rw [HHeap.set_next]; omega, fun b hb => get_set_ne _ _ _ (by rintro rfl; exact h hb)⟩
end Go.HL
/-
  Walks: the machine's small functions.
-/
namespace Go.HL
open Go.RowKit Go.Proofs
set_option maxHeartbeats 4000000
set_option maxRecDepth 100000
set_option linter.unusedSimpArgs false
set_option linter.unusedVariables false
theorem getD_none {l : List Nat} {i : Nat} (h : l.length ≤ i) : l.getD i 0 = 0 := by rw [List.getD_eq_getElem?_getD, List.getElem?_eq_none h]; rfl
theorem getV_gt (T : Things) (w i : Nat) : ∃ e : Nat, getV T w (i : Nat) = .tuple #[U (gt T w i), I (e : Nat)] := by
  unfold getV gt wordsN
  cases findT T w with
  | none => exact ⟨2, by simp⟩
  | some t =>
    simp only
    by_cases h : (0 : Int) ≤ (i : Nat) ∧ ((i : Nat) : Int) < t.l.length
    · rw [if_pos h]; exact ⟨0, by simp⟩
    · rw [if_neg h]; exact ⟨1, by rw [getD_none (by omega)]; rfl⟩
theorem gt_lt {T : Things} (h : TOk T) (w i : Nat) : gt T w i < 18446744073709551616 := by
  unfold gt wordsN
  cases hf : findT T w with
  | none => simp
  | some t =>
    simp only
    by_cases hi : i < t.l.length
    · have ht : t ∈ T := by unfold findT at hf; split at hf; exact (atP_words T _ t hf).2.2.2; cases hf
      rw [List.getD_eq_getElem?_getD, List.getElem?_eq_getElem hi]
      exact (h t ht).words _ (List.getElem_mem hi)
    · rw [getD_none (by omega)]; omega
section
variable {Z : Zs} {H : HHeap} {p size : Nat} {vb : Value} {g gw gh : Nat} {vn vk va : Value} {M : MS}
end
end Go.HL
/-
  Walks: functions and frames of a machine; a value is told.
-/
namespace Go.HL
open Go.RowKit Go.Proofs
set_option maxHeartbeats 4000000
set_option maxRecDepth 100000
set_option linter.unusedSimpArgs false
set_option linter.unusedVariables false
section
variable {Z : Zs} {H : HHeap} {p size : Nat} {vb : Value} {g gw gh : Nat} {vn vk va : Value} {M : MS} {B : List Bk}
end
end Go.HL
/-
  Walks: places of frames; a value is told; things are made.
-/
namespace Go.HL
open Go.RowKit Go.Proofs
set_option maxHeartbeats 4000000
set_option maxRecDepth 100000
set_option linter.unusedSimpArgs false
set_option linter.unusedVariables false
section
variable {Z : Zs} {H : HHeap} {p size : Nat} {vb : Value} {g gw gh : Nat} {vn vk va : Value} {M : MS} {B : List Bk}
end
end Go.HL
