/-
  Joined: G3.
-/
import Derived.Test.YtkflilieljojfaaL39
/-
  Rows from whose head one takes, and at whose end one adds.
-/
namespace Go.HL
set_option linter.unusedSimpArgs false
set_option linter.unusedVariables false

def QAt (H : HHeap) (v : Value) (l : List Nat) : Prop :=
  ∃ b o k cs, v = .slice (some ⟨b, o, k⟩) l.length l.length ∧ ((l = [] ∧ (k = none ∨ k = some 3)) ∨ k = some 2) ∧ H.get b = some (.cells cs true) ∧ o + l.length ≤ cs.length ∧ (cs.drop o).take l.length = l.map U

theorem QAt.frame {H H' : HHeap} {v : Value} {l : List Nat} (h : QAt H v l) (f : ∀ b ∈ sblk v, H'.get b = H.get b) : QAt H' v l := by
  obtain ⟨b, o, k, cs, rfl, h2, h3, h4, h5⟩ := h
  exact ⟨b, o, k, cs, rfl, h2, by rw [f b (by simp [sblk])]; exact h3, h4, h5⟩
theorem QAt.lt {H : HHeap} {v : Value} {l : List Nat} (h : QAt H v l) (ok : H.Ok) : ∀ b ∈ sblk v, b < H.next := by
  obtain ⟨b, o, k, cs, rfl, h2, h3, h4, h5⟩ := h
  intro x hx; simp [sblk] at hx; subst hx; exact ok _ _ h3
theorem QAt.rowS {H : HHeap} {v : Value} {l : List Nat} (h : QAt H v l) : RowS H v (l.map U) := by
  obtain ⟨b, o, k, cs, rfl, h2, h3, h4, h5⟩ := h
  refine ⟨_, l.length, by simp, by simp, .inr ⟨b, o, k, rfl, ?_, .inr ⟨cs, true, h3, fun i v hv => ?_⟩⟩⟩
  · rcases h2 with ⟨_, rfl | rfl⟩ | rfl
    · exact .inl rfl
    · exact .inr ⟨3, rfl, rfl⟩
    · exact .inr ⟨2, rfl, rfl⟩
  · have hi : i < l.length := by have := (List.getElem?_eq_some_iff.1 hv).1; simpa using this
    rw [← h5, List.getElem?_take, if_pos hi, List.getElem?_drop] at hv
    exact hv
theorem QAt.fresh {H : HHeap} {b : Nat} {l : List Nat} (h : H.get b = some (.cells (l.map U) true)) : QAt H (.slice (some ⟨b, 0, some 2⟩) l.length l.length) l :=
  ⟨b, 0, some 2, l.map U, rfl, .inr rfl, h, by simp, by rw [List.drop_zero, List.take_of_length_le (by simp)]⟩
theorem QAt.append {H : HHeap} {v : Value} {l : List Nat} (h : QAt H v l) {xs : List Nat} (hx : xs ≠ []) (hl : l.length + xs.length ≤ 1000000) :
    ∃ H', apd H 1 8 v (xs.map U, xs.length) = some (.slice (some ⟨H.next, 0, some 2⟩) (l.length + xs.length) (l.length + xs.length), H') ∧ QAt H' (.slice (some ⟨H.next, 0, some 2⟩) (l.length + xs.length) (l.length + xs.length)) (l ++ xs) ∧
      H'.next = H.next + 1 ∧ (∀ c, c ≠ H.next → c ∉ sblk v → H'.get c = H.get c) := by
  obtain ⟨b, o, k, cs, rfl, h2, h3, h4, h5⟩ := h
  have hxl : 0 < xs.length := by cases xs with | nil => exact absurd rfl hx | cons x l => simp
  have key : ∀ H' : HHeap, H'.get H.next = some (.cells (l.map U ++ xs.map U) true) → QAt H' (.slice (some ⟨H.next, 0, some 2⟩) (l.length + xs.length) (l.length + xs.length)) (l ++ xs) := fun H' hg =>
    ⟨H.next, 0, some 2, l.map U ++ xs.map U, by simp, .inr rfl, hg, by simp, by rw [List.drop_zero, List.take_of_length_le (by simp)]; simp⟩
  rw [apd_some _ _ _ _ _ _ _ _ _ hxl (by omega) (by omega), h3]
  unfold apo
  simp only
  rw [if_neg (by omega), if_pos (.inl (by omega))]
  simp only [Nat.mul_one, h5]
  rcases h2 with ⟨rfl, rfl | rfl⟩ | rfl
  · exact ⟨_, rfl, key _ (by simp [HHeap.get_push]), by simp, fun c hc _ => by simp [HHeap.get_push, hc]⟩
  · refine ⟨(H.kill b).push (.cells (([] : List Nat).map U ++ xs.map U) true), by simp, key _ (by simp [HHeap.get_push]), by simp, fun c hc hb => ?_⟩
    have : c ≠ b := by rintro rfl; exact hb (by simp [sblk])
    simp [HHeap.get_push, hc, HHeap.get_kill, this]
  · refine ⟨(H.kill b).push (.cells (l.map U ++ xs.map U) true), by simp, key _ (by simp [HHeap.get_push]), by simp, fun c hc hb => ?_⟩
    have : c ≠ b := by rintro rfl; exact hb (by simp [sblk])
    simp [HHeap.get_push, hc, HHeap.get_kill, this]
theorem QAt.pop {P : Program} {H : HHeap} {v : Value} {x : Nat} {l : List Nat} {t e : TypeId} (ht : P.underlying t = some (.slice e)) (hz : hsize P e = some 1) (h : QAt H v (x :: l)) :
    ∃ v', hslice P t v (some (.int .i64 1)) none none = some v' ∧ QAt H v' l ∧ sblk v' = sblk v ∧ ∃ a, v' = .slice a l.length l.length := by
  obtain ⟨b, o, k, cs, rfl, h2, h3, h4, h5⟩ := h
  have hk : k = some 2 := by rcases h2 with ⟨h, _⟩ | h; cases h; exact h
  subst hk
  rw [x_sliceG ht hz]
  unfold slg
  simp only [List.length_cons] at h4 h5 ⊢
  rw [if_neg (by simp), hbound_none, Option.bind_some, hbound_none, Option.bind_some, hbound_int _ _ _ _ (by omega) (by omega), Option.bind_some, if_neg (by omega), if_neg (by simp)]
  have h6 : (cs.drop (o + 1)).take l.length = l.map U := by
    have := congrArg List.tail h5
    rw [List.map_cons, List.tail_cons] at this
    rw [← this, ← List.drop_one, List.drop_take, List.drop_drop]; congr 1
  by_cases hl : l.length + 1 = (1 : Int).toNat
  · have h0 : l = [] := by apply List.eq_nil_of_length_eq_zero; have : (1 : Int).toNat = 1 := rfl; omega
    subst h0
    rw [if_pos hl]
    exact ⟨_, rfl, ⟨b, o, some 3, cs, rfl, .inl ⟨rfl, .inr rfl⟩, h3, by simp only [List.length_nil]; omega, by simp⟩, rfl, _, rfl⟩
  · rw [if_neg hl]
    have e1 : (1 : Int).toNat = 1 := rfl
    rw [e1, Nat.add_sub_cancel]
    exact ⟨_, rfl, ⟨b, o + 1 * 1, some 2, cs, rfl, .inr rfl, h3, by omega, by simpa using h6⟩, rfl, _, rfl⟩
theorem QAt.head {H : HHeap} {v : Value} {x : Nat} {l : List Nat} (h : QAt H v (x :: l)) : ∃ b o k cs, v = .slice (some ⟨b, o, k⟩) (l.length + 1) (l.length + 1) ∧ H.get b = some (.cells cs true) ∧ cs[o]? = some (U x) := by
  obtain ⟨b, o, k, cs, h1, h2, h3, h4, h5⟩ := h
  refine ⟨b, o, k, cs, h1, h3, ?_⟩
  have : ((cs.drop o).take (x :: l).length)[0]? = some (U x) := by rw [h5]; rfl
  rw [List.getElem?_take, if_pos (by simp), List.getElem?_drop] at this
  simpa using this
theorem QAt.len {H : HHeap} {v : Value} {l : List Nat} (h : QAt H v l) : ∃ b o k, v = .slice (some ⟨b, o, k⟩) l.length l.length := by
  obtain ⟨b, o, k, cs, h1, _⟩ := h
  exact ⟨b, o, k, h1⟩
theorem lookup_map {α : Type} (f : α → Nat) (g : α → Nat) [DecidableEq α] : ∀ (l : List α) (j : α), (∀ i ∈ l, f i = f j → i = j) → (l.map fun i => (f i, g i)).lookup (f j) = if j ∈ l then some (g j) else none
  | [], j, _ => rfl
  | i :: l, j, h => by
    have ih := lookup_map f g l j (fun x hx => h x (by simp [hx]))
    rw [List.map_cons, List.lookup_cons, ih]
    by_cases e : f j = f i
    · have := h i (by simp) e.symm
      subst this
      simp
    · have hne : j ≠ i := fun h => e (by rw [h])
      have hb : (f j == f i) = false := by simpa using e
      rw [hb]; simp [hne]
theorem QAt.add {H : HHeap} {v : Value} {l : List Nat} (h : QAt H v l) (hlt : ∀ b ∈ sblk v, b < H.next) (p : Nat) (hl : l.length + 1 ≤ 1000000) :
    ∃ v' H', apd (H.push (.cells [U p] true)) 1 8 v ([U p], 1) = some (v', H') ∧ QAt H' v' (l ++ [p]) ∧ H.next ≤ H'.next ∧ (∀ c, c < H.next → c ∉ sblk v → H'.get c = H.get c) ∧ (∀ b ∈ sblk v', H.next ≤ b ∧ b < H'.next) := by
  have h' : QAt (H.push (.cells [U p] true)) v l := h.frame fun b hb => by have := hlt b hb; rw [get_push_ne _ _ (by omega)]
  obtain ⟨H', q1, q2, q3, q4⟩ := h'.append (xs := [p]) (by simp) (by simpa using hl)
  refine ⟨_, H', q1, q2, by rw [q3]; simp; omega, fun c hc hb => ?_, fun b hb => ?_⟩
  · rw [q4 c (by simp; omega) hb, get_push_ne _ _ (by omega)]
  · simp [sblk] at hb; rw [q3]; simp; omega
theorem QAt.start (H : HHeap) (l : List Nat) (hl : l.length ≤ 1000000) :
    ∃ v H', apd (H.push (.cells [] true)) 1 8 (.slice (some ⟨H.next, 0, none⟩) 0 0) (l.map U, l.length) = some (v, H') ∧ QAt H' v l ∧ H.next ≤ H'.next ∧ (∀ c, c < H.next → H'.get c = H.get c) ∧ (∀ b ∈ sblk v, H.next ≤ b ∧ b < H'.next) := by
  have h0 : QAt (H.push (.cells [] true)) (.slice (some ⟨H.next, 0, none⟩) 0 0) [] := ⟨H.next, 0, none, [], rfl, .inl ⟨rfl, .inl rfl⟩, by simp [HHeap.get_push], by simp, rfl⟩
  by_cases h : l = []
  · subst h
    exact ⟨_, _, apd_zero _ _ _ _ _ _, h0, by simp, fun c hc => get_push_ne _ _ (by omega), fun b hb => by simp [sblk] at hb; simp; omega⟩
  · obtain ⟨H', q1, q2, q3, q4⟩ := h0.append (xs := l) h (by simpa using hl)
    simp only [List.length_nil, Nat.zero_add, List.nil_append] at q1 q2
    refine ⟨_, H', q1, q2, by rw [q3]; simp; omega, fun c hc => ?_, fun b hb => ?_⟩
    · rw [q4 c (by simp; omega) (by simp [sblk]; omega), get_push_ne _ _ (by omega)]
    · simp [sblk] at hb; rw [q3]; simp; omega
end Go.HL
