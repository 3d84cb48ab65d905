/-
  Joined: C8.
-/
import Derived.Test.YtkflilieljojfaaL30
/-
  Walks: rows that grow and shrink.
-/
namespace Go.HL
open Go.RowKit Go.Proofs
set_option maxHeartbeats 4000000
set_option maxRecDepth 100000
set_option linter.unusedSimpArgs false
set_option linter.unusedVariables false

theorem sumR_eq (T : Things) {a b : List Nat} (ha : a.Nodup) (hb : b.Nodup) (h : ∀ i, i ∈ a ↔ i ∈ b) : sumR T a = sumR T b := by
  have hp : a.Perm b := (List.perm_ext_iff_of_nodup ha hb).2 h
  unfold sumR; exact (hp.map (roomI T)).sum_nat

/-- A row of words to which more come, and of which some go, at its end. -/
def TodoAt (H : HHeap) (v : Value) (l : List Nat) : Prop :=
  (l = [] ∧ v = .slice none 0 0) ∨ (∃ b, l = [] ∧ v = .slice (some ⟨b, 0, none⟩) 0 0 ∧ b < H.next ∧ H.get b = some (.cells [] true)) ∨
    (∃ b cap cs, v = .slice (some ⟨b, 0, some 2⟩) l.length cap ∧ b < H.next ∧ H.get b = some (.cells cs true) ∧ cs.length = cap ∧ l.length ≤ cap ∧ 0 < cap ∧ cs.take l.length = l.map U)
theorem TodoAt.frame {H H' : HHeap} {v : Value} {l : List Nat} (h : TodoAt H v l) (hn : H.next ≤ H'.next) (f : ∀ b ∈ vblk v, H'.get b = H.get b) : TodoAt H' v l := by
  rcases h with h | ⟨b, h1, rfl, h3, h4⟩ | ⟨b, cap, cs, rfl, h2, h3, h4, h5, h6, h7⟩
  · exact .inl h
  · exact .inr (.inl ⟨b, h1, rfl, by omega, by rw [f b (by simp [vblk])]; exact h4⟩)
  · exact .inr (.inr ⟨b, cap, cs, rfl, by omega, by rw [f b (by simp [vblk])]; exact h3, h4, h5, h6, h7⟩)
theorem TodoAt.lt {H : HHeap} {v : Value} {l : List Nat} (h : TodoAt H v l) : ∀ b ∈ vblk v, b < H.next := by
  rcases h with ⟨_, rfl⟩ | ⟨b, h1, rfl, h3, h4⟩ | ⟨b, cap, cs, rfl, h2, h3, h4, h5, h6, h7⟩
  · simp [vblk]
  · intro c hc; simp [vblk] at hc; omega
  · intro c hc; simp [vblk] at hc; omega
theorem append_row (H : HHeap) (v : Value) (l ws : List Nat) (hv : TodoAt H v l) (hl : l.length + ws.length ≤ 1073741824) :
    ∃ v' H', apd H 1 8 v (ws.map U, ws.length) = some (v', H') ∧ TodoAt H' v' (l ++ ws) ∧ H.next ≤ H'.next ∧ (∀ b, b < H.next → b ∉ vblk v → H'.get b = H.get b) ∧ (∀ b ∈ vblk v', b ∈ vblk v ∨ H.next ≤ b) := by
  by_cases h0 : ws.length = 0
  · rw [List.length_eq_zero_iff] at h0; subst h0
    refine ⟨v, H, ?_, by simpa using hv, Nat.le_refl _, fun _ _ _ => rfl, fun _ h => .inl h⟩
    rcases hv with ⟨rfl, rfl⟩ | ⟨b, h1, rfl, h3, h4⟩ | ⟨b, cap, cs, rfl, h2, h3, h4, h5, h6, h7⟩ <;> exact apd_zero _ _ _ _ _ _
  · have fresh : ∀ (L : List Value), L = (l ++ ws).map U → ∀ H0 : HHeap, H0.next = H.next → TodoAt (H0.push (.cells L true)) (.slice (some ⟨H.next, 0, some 2⟩) (l.length + ws.length) (l.length + ws.length)) (l ++ ws) := by
      intro L hL H0 hn
      refine .inr (.inr ⟨H.next, l.length + ws.length, L, by simp, by simp (disch := first | omega | (simp only [nx_push, nx_set, nx_kill]; done) | (simp only [nx_push, nx_set, nx_kill]; omega)) only [get_push_ne, get_push_eq, get_set_ne, get_set_eq, get_kill_ne, nx_push, nx_set, nx_kill]; omega, by simp (disch := first | omega | (simp only [nx_push, nx_set, nx_kill]; done) | (simp only [nx_push, nx_set, nx_kill]; omega)) only [get_push_ne, get_push_eq, get_set_ne, get_set_eq, get_kill_ne, nx_push, nx_set, nx_kill], by simp [hL], by simp, by omega, ?_⟩)
      rw [hL, List.take_of_length_le (by simp)]
    rcases hv with ⟨rfl, rfl⟩ | ⟨b, rfl, rfl, h3, h4⟩ | ⟨b, cap, cs, rfl, h2, h3, h4, h5, h6, h7⟩
    · refine ⟨.slice (some ⟨H.next, 0, some 2⟩) ws.length ws.length, H.push (.cells (ws.map U) true), ?_, ?_, by simp (disch := first | omega | (simp only [nx_push, nx_set, nx_kill]; done) | (simp only [nx_push, nx_set, nx_kill]; omega)) only [get_push_ne, get_push_eq, get_set_ne, get_set_eq, get_kill_ne, nx_push, nx_set, nx_kill]; omega, fun b hb _ => by simp (disch := first | omega | (simp only [nx_push, nx_set, nx_kill]; done) | (simp only [nx_push, nx_set, nx_kill]; omega)) only [get_push_ne, get_push_eq, get_set_ne, get_set_eq, get_kill_ne, nx_push, nx_set, nx_kill], fun b hb => by simp [vblk] at hb; right; omega⟩
      · rw [apd_nil _ _ _ _ (by omega) (by simp at hl; omega) (by simp at hl; omega)]
      · have := fresh (ws.map U) (by simp) H rfl; simpa using this
    · refine ⟨.slice (some ⟨H.next, 0, some 2⟩) ws.length ws.length, H.push (.cells (ws.map U) true), ?_, ?_, by simp (disch := first | omega | (simp only [nx_push, nx_set, nx_kill]; done) | (simp only [nx_push, nx_set, nx_kill]; omega)) only [get_push_ne, get_push_eq, get_set_ne, get_set_eq, get_kill_ne, nx_push, nx_set, nx_kill]; omega, fun c hb _ => by simp (disch := first | omega | (simp only [nx_push, nx_set, nx_kill]; done) | (simp only [nx_push, nx_set, nx_kill]; omega)) only [get_push_ne, get_push_eq, get_set_ne, get_set_eq, get_kill_ne, nx_push, nx_set, nx_kill], fun c hb => by simp [vblk] at hb; right; omega⟩
      · rw [apd_some _ _ _ _ _ _ _ _ _ (by omega) (by simp at hl; omega) (by simp at hl; omega), h4]
        unfold apo; simp only
        rw [if_neg (by omega), if_pos (by simp)]
        simp
      · have := fresh (ws.map U) (by simp) H rfl; simpa using this
    · by_cases hc : l.length + ws.length ≤ cap
      · refine ⟨.slice (some ⟨b, 0, some 2⟩) (l.length + ws.length) cap, H.set b (.cells (splice cs l.length (ws.map U)) true), ?_, ?_, by simp (disch := first | omega | (simp only [nx_push, nx_set, nx_kill]; done) | (simp only [nx_push, nx_set, nx_kill]; omega)) only [get_push_ne, get_push_eq, get_set_ne, get_set_eq, get_kill_ne, nx_push, nx_set, nx_kill]; omega, fun c hb hn => ?_, fun c hb => .inl (by simpa [vblk] using hb)⟩
        · rw [apd_some _ _ _ _ _ _ _ _ _ (by omega) (by omega) (by omega), h3]
          unfold apo; simp only
          rw [if_pos hc, if_pos ⟨trivial, by omega, by simp⟩]
          simp
        · refine .inr (.inr ⟨b, cap, splice cs l.length (ws.map U), by simp, by simp (disch := first | omega | (simp only [nx_push, nx_set, nx_kill]; done) | (simp only [nx_push, nx_set, nx_kill]; omega)) only [get_push_ne, get_push_eq, get_set_ne, get_set_eq, get_kill_ne, nx_push, nx_set, nx_kill]; omega, by simp (disch := first | omega | (simp only [nx_push, nx_set, nx_kill]; done) | (simp only [nx_push, nx_set, nx_kill]; omega)) only [get_push_ne, get_push_eq, get_set_ne, get_set_eq, get_kill_ne, nx_push, nx_set, nx_kill], by rw [splice_length]; exact h4, by simpa using hc, h6, ?_⟩)
          have e : cs = cs.take l.length ++ (cs.drop l.length).take ws.length ++ (cs.drop l.length).drop ws.length := by
            rw [List.append_assoc, List.take_append_drop, List.take_append_drop]
          have hp : (cs.take l.length).length = l.length := by simp; omega
          have := splice_mid (ws.map U) ((cs.drop l.length).take ws.length) ((cs.drop l.length).drop ws.length) (by simp; omega) (cs.take l.length)
          rw [← e, hp] at this
          rw [this, h7, ← List.map_append, List.take_append_of_le_length (by simp), List.take_of_length_le (by simp)]
        · have : c ≠ b := fun e => hn (by simp [vblk, e])
          simp (disch := first | omega | (simp only [nx_push, nx_set, nx_kill]; done) | (simp only [nx_push, nx_set, nx_kill]; omega)) only [get_push_ne, get_push_eq, get_set_ne, get_set_eq, get_kill_ne, nx_push, nx_set, nx_kill]
      · refine ⟨.slice (some ⟨H.next, 0, some 2⟩) (l.length + ws.length) (l.length + ws.length), (H.kill b).push (.cells (l.map U ++ ws.map U) true), ?_, ?_, by simp (disch := first | omega | (simp only [nx_push, nx_set, nx_kill]; done) | (simp only [nx_push, nx_set, nx_kill]; omega)) only [get_push_ne, get_push_eq, get_set_ne, get_set_eq, get_kill_ne, nx_push, nx_set, nx_kill]; omega, fun c hb hn => ?_, fun c hb => by simp [vblk] at hb; right; omega⟩
        · rw [apd_some _ _ _ _ _ _ _ _ _ (by omega) (by omega) (by omega), h3]
          unfold apo; simp only
          rw [if_neg hc, if_pos (show 0 + l.length * 1 ≤ cs.length ∨ l.length = 0 by omega), if_pos (by simp)]
          simp [h7]
        · exact fresh _ (by simp) _ (by simp (disch := first | omega | (simp only [nx_push, nx_set, nx_kill]; done) | (simp only [nx_push, nx_set, nx_kill]; omega)) only [get_push_ne, get_push_eq, get_set_ne, get_set_eq, get_kill_ne, nx_push, nx_set, nx_kill])
        · have : c ≠ b := fun e => hn (by simp [vblk, e])
          simp (disch := first | omega | (simp only [nx_push, nx_set, nx_kill]; done) | (simp only [nx_push, nx_set, nx_kill]; omega)) only [get_push_ne, get_push_eq, get_set_ne, get_set_eq, get_kill_ne, nx_push, nx_set, nx_kill]
end Go.HL
