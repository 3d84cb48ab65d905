/-
  What is older stays; a row grows by one, as a step of a walk.
-/
import Derived.Test.YtoflnkdngcdejaaGreatDoorPG5
set_option linter.unusedVariables false
set_option linter.unusedSimpArgs false
namespace Go.HL
open Go.RowKit
set_option linter.unusedSimpArgs false
set_option linter.unusedVariables false
def Old (H H' : HHeap) : Prop := H.next ≤ H'.next ∧ ∀ b, b < H.next → H'.get b = H.get b
theorem Old.refl (H : HHeap) : Old H H := ⟨Nat.le_refl _, fun _ _ => rfl⟩
theorem Old.trans {H H' H'' : HHeap} (h : Old H H') (k : Old H' H'') : Old H H'' := ⟨Nat.le_trans h.1 k.1, fun b hb => by rw [k.2 b (Nat.lt_of_lt_of_le hb h.1), h.2 b hb]⟩
theorem Old.push (H : HHeap) (o : HObj) : Old H (H.push o) := ⟨by rw [nx_push]; omega, fun b hb => get_push_ne _ _ (by omega)⟩
theorem Old.push_set (H : HHeap) (o o' : HObj) : Old H ((H.push o).set H.next o') := by rw [Go.HL.push_set]; exact Old.push H o'
theorem Old.keep {Z : Zs} {H H' : HHeap} (h : Old H H') (hZ : ∀ b, Z b → b < H.next) : Keep Z H Z H' := fun b hb => ⟨hb, h.2 b (hZ b hb)⟩
variable {α : Type} {R : Rp α} {Z : Zs}
theorem Gr.old {H H' : HHeap} {v : Value} {l : List α} (h : Gr R Z H v l) (hO : Old H H') (hZ : ∀ b, Z b → b < H.next) (hb : ∀ b ∈ sblk v, b < H.next) : Gr R Z H' v l :=
  h.ext (hO.keep hZ) fun b hm => ⟨hO.2 b (hb b hm), (h.blk b hm).1⟩
theorem Sl.old {H H' : HHeap} {v : Value} {l : List α} (h : Sl R Z H v l) (hO : Old H H') (hZ : ∀ b, Z b → b < H.next) : Sl R Z H' v l := h.ext (hO.keep hZ)
/-- A row grows by one thing. -/
theorem HGo_add {H0 K : HHeap} {v : Value} {l : List α} {x : α} {xs : List Value} {n by' : Nat} (h : Gr R Z H0 v l) (e : R.n = n) (hn : 0 < n) (hO : Old H0 K) (hZ : ∀ b, Z b → b < H0.next) (hb : ∀ b ∈ sblk v, b < H0.next)
    (hx : R.r Z K xs x) (h1 : (l.length + 1) * by' ≤ 1099511627776) (h2 : l.length + 1 ≤ 1099511627776) {next : Value → HHeap → Prop}
    (hnext : ∀ v' H', Gr R Z H' v' (l ++ [x]) → (∀ b ∈ sblk v', H0.next ≤ b ∧ b < H'.next) → H0.next ≤ H'.next → (∀ b, b < H0.next → b ∉ sblk v → H'.get b = H0.get b) → next v' H') : HGo (apd K n by' v (xs, 1)) next := by
  subst e
  have hK := h.old hO hZ hb
  have hxl : xs.length = 1 * R.n := by rw [Nat.one_mul]; exact R.len hx
  obtain ⟨H', q1, q2, q3, q4⟩ := hK.add hn (fun b hb => by have := hZ b hb; have := hO.1; omega) (ys := [x]) (by simp) (xs := xs) (by simpa using hxl) (fun i y hy => by
    match i, hy with
    | 0, hy =>
      simp at hy; subst hy
      have : flatW xs 0 R.n 0 = xs := by unfold flatW; simp; rw [List.take_of_length_le (by omega)]
      rw [this]; exact hx
    | i + 1, hy => simp at hy) (by simpa using h1) (by simpa using h2)
  simp only [List.length_cons, List.length_nil, Nat.zero_add] at q1
  rw [q1, HGo_some]
  have := hO.1
  refine hnext _ _ q2 (fun b hb => ?_) (by omega) fun b hb hs => ?_
  · simp [sblk] at hb; omega
  · rw [q4 b (by omega) hs, hO.2 b hb]
/-- The same, with the thing in a fresh row of one. -/
theorem HGo_add1 {H0 K : HHeap} {v : Value} {l : List α} {x : α} {xs : List Value} {n by' b : Nat} (h : Gr R Z H0 v l) (e : R.n = n) (hn : 0 < n) (hg : K.get b = some (.cells xs true)) (hO : Old H0 K) (hZ : ∀ b, Z b → b < H0.next) (hb : ∀ b ∈ sblk v, b < H0.next)
    (hx : R.r Z K xs x) (h1 : (l.length + 1) * by' ≤ 1099511627776) (h2 : l.length + 1 ≤ 1099511627776) {next : Value → HHeap → Prop}
    (hnext : ∀ v' H', Gr R Z H' v' (l ++ [x]) → (∀ b ∈ sblk v', H0.next ≤ b ∧ b < H'.next) → H0.next ≤ H'.next → (∀ b, b < H0.next → b ∉ sblk v → H'.get b = H0.get b) → next v' H') :
    HGo (hb1 (apd K n by' v) (hsource K n (.slice (some ⟨b, 0, none⟩) 1 1))) next := by
  have hl : xs.length = n := by rw [← e]; exact R.len hx
  rw [hsource_slice, hg, hsrc_cells _ _ _ _ _ (by omega) (by omega)]
  rw [show (xs.drop 0).take (1 * n) = xs by rw [List.drop_zero, List.take_of_length_le (by omega)]]
  unfold hb1
  exact HGo_add h e hn hO hZ hb hx h1 h2 hnext
theorem splice_full (cs vs : List Value) (h : cs.length = vs.length) : splice cs 0 vs = vs := by
  have := splice_mid vs cs [] h []
  simpa using this
attribute [go_sem] splice_full
theorem lda_full (cs : List Value) (rw : Bool) (n : Nat) (h : cs.length = n) : lda (some (.cells cs rw)) 0 n = some (.agg cs.toArray) := by
  rw [lda_cells _ _ _ _ (by omega), List.drop_zero, List.take_of_length_le (by omega)]
end Go.HL
