/-
  Joined: G2.
-/
import Derived.Test.YtkflilieljojfaaL34
/-
  Rows that are sliced.
-/
namespace Go.HL
set_option linter.unusedSimpArgs false
set_option linter.unusedVariables false

/-- A row of one-cell values, that may be sliced. -/
def RowS (H : HHeap) (s : Value) (vs : List Value) : Prop :=
  ∃ a c, s = .slice a vs.length c ∧ vs.length ≤ c ∧ ((a = none ∧ c = 0) ∨ ∃ b o k, a = some ⟨b, o, k⟩ ∧ (k = none ∨ ∃ q, k = some q ∧ q / 2 = 1) ∧
    (vs = [] ∨ ∃ cs rw, H.get b = some (.cells cs rw) ∧ ∀ (i : Nat) v, vs[i]? = some v → cs[o + i]? = some v))

theorem RowS.row {H : HHeap} {s : Value} {vs : List Value} (h : RowS H s vs) (ok : H.Ok) : RowAt H s vs := by
  obtain ⟨a, c, h1, h2, h3⟩ := h
  refine ⟨a, c, h1, ?_⟩
  rcases h3 with ⟨h3, h4⟩ | ⟨b, o, k, h3, h4, h5⟩
  · left
    refine ⟨?_, fun _ => h4⟩
    cases vs with
    | nil => rfl
    | cons x l => simp at h2; omega
  · rcases h5 with h5 | ⟨cs, rw, h5, h6⟩
    · left; exact ⟨h5, fun e => by rw [h3] at e; cases e⟩
    · right; exact ⟨b, o, k, cs, rw, h3, ok _ _ h5, h5, h6⟩
theorem RowS.frame {H H' : HHeap} {s : Value} {vs : List Value} (h : RowS H s vs) (f : ∀ b, b ∈ sblk s → H'.get b = H.get b) : RowS H' s vs := by
  obtain ⟨a, c, rfl, h2, h3⟩ := h
  refine ⟨a, c, rfl, h2, ?_⟩
  rcases h3 with h3 | ⟨b, o, k, rfl, h4, h5⟩
  · exact .inl h3
  · rcases h5 with h5 | ⟨cs, rw, h5, h6⟩
    · exact .inr ⟨b, o, k, rfl, h4, .inl h5⟩
    · exact .inr ⟨b, o, k, rfl, h4, .inr ⟨cs, rw, by rw [f b (by simp [sblk])]; exact h5, h6⟩⟩
theorem RowS.old {H H' : HHeap} {s : Value} {vs : List Value} (h : RowS H s vs) (ok : H.Ok) (f : ∀ b, b < H.next → H'.get b = H.get b) : RowS H' s vs := by
  obtain ⟨a, c, rfl, h2, h3⟩ := h
  refine ⟨a, c, rfl, h2, ?_⟩
  rcases h3 with h3 | ⟨b, o, k, rfl, h4, h5⟩
  · exact .inl h3
  · rcases h5 with h5 | ⟨cs, rw, h5, h6⟩
    · exact .inr ⟨b, o, k, rfl, h4, .inl h5⟩
    · exact .inr ⟨b, o, k, rfl, h4, .inr ⟨cs, rw, by rw [f b (ok _ _ h5)]; exact h5, h6⟩⟩
theorem RowS.of_gr {H : HHeap} {v : Value} {n : Nat} {cs : List Value} (h : GrAt H v 1 n cs) : RowS H v cs := by
  obtain ⟨h0, ⟨rfl, rfl⟩ | ⟨b, h1, rfl, h3⟩⟩ := h
  · have : cs = [] := by simpa using h0
    subst this
    exact ⟨none, 0, rfl, Nat.le_refl _, .inl ⟨rfl, rfl⟩⟩
  · have : n = cs.length := by omega
    subst this
    exact ⟨_, cs.length, rfl, Nat.le_refl _, .inr ⟨b, 0, some 2, rfl, .inr ⟨2, rfl, rfl⟩, .inr ⟨cs, true, h3, fun i v h => by rwa [Nat.zero_add]⟩⟩⟩
theorem RowS.hi {P : Program} {H : HHeap} {s : Value} {vs : List Value} {t e : TypeId} (ht : P.underlying t = some (.slice e)) (hz : hsize P e = some 1) (h : RowS H s vs) {k : IntKind} {m : Nat} (hm : m ≤ vs.length) :
    ∃ s', hslice P t s none (some (.int k (m : Int))) none = some s' ∧ RowS H s' (vs.take m) ∧ ∀ x ∈ sblk s', x ∈ sblk s := by
  obtain ⟨a, c, rfl, h2, h3⟩ := h
  have hl : (vs.take m).length = m := by simp; omega
  rcases h3 with ⟨rfl, rfl⟩ | ⟨b, o, q, rfl, hq, h5⟩
  · have : vs = [] := by cases vs with | nil => rfl | cons x l => simp at h2
    subst this
    have : m = 0 := by simpa using hm
    subst this
    refine ⟨.slice none 0 0, ?_, ⟨none, 0, rfl, by simp, .inl ⟨rfl, rfl⟩⟩, fun x hx => hx⟩
    simp only [List.length_nil]
    rw [x_sliceN ht hz]; unfold sln; simp [hbound]
  · have h5' : vs.take m = [] ∨ ∃ cs rw, H.get b = some (.cells cs rw) ∧ ∀ (i : Nat) v, (vs.take m)[i]? = some v → cs[o + i]? = some v := by
      rcases h5 with h5 | ⟨cs, rw, h5, h6⟩
      · left; rw [h5]; simp
      · right; refine ⟨cs, rw, h5, fun i v h => ?_⟩
        rw [List.getElem?_take] at h; split at h
        · exact h6 i v h
        · cases h
    rcases hq with rfl | ⟨q, rfl, hq⟩
    · refine ⟨.slice (some ⟨b, o, none⟩) m c, ?_, ⟨_, c, by rw [hl], by rw [hl]; omega, .inr ⟨b, o, none, rfl, .inl rfl, h5'⟩⟩, fun x hx => hx⟩
      rw [x_slice ht hz, slx_hi _ _ _ _ _ _ _ (by omega) (by omega)]; simp
    · rw [x_sliceG ht hz]
      unfold slg
      rw [if_neg (by simp), hbound_none, Option.bind_some, hbound_int _ _ _ _ (by omega) (by omega), Option.bind_some, hbound_none, Option.bind_some, if_neg (by omega), if_neg (by simp)]
      by_cases hc : c = 0
      · have hm0 : m = 0 := by omega
        subst hm0
        rw [if_pos hc]
        exact ⟨_, rfl, ⟨_, 0, rfl, by simp, .inr ⟨b, o, _, rfl, .inr ⟨_, rfl, by omega⟩, .inl (by simp)⟩⟩, fun x hx => by simpa [sblk] using hx⟩
      · rw [if_neg hc]
        refine ⟨_, rfl, ⟨_, c, by rw [hl]; rfl, by rw [hl]; omega, .inr ⟨b, _, _, rfl, .inr ⟨q, rfl, hq⟩, ?_⟩⟩, fun x hx => by simpa [sblk] using hx⟩
        simpa using h5'
theorem RowS.lo {P : Program} {H : HHeap} {s : Value} {vs : List Value} {t e : TypeId} (ht : P.underlying t = some (.slice e)) (hz : hsize P e = some 1) (h : RowS H s vs) {k : IntKind} {m : Nat} (hm : m ≤ vs.length) :
    ∃ s', hslice P t s (some (.int k (m : Int))) none none = some s' ∧ RowS H s' (vs.drop m) ∧ ∀ x ∈ sblk s', x ∈ sblk s := by
  obtain ⟨a, c, rfl, h2, h3⟩ := h
  have hl : (vs.drop m).length = vs.length - m := by simp
  rcases h3 with ⟨rfl, rfl⟩ | ⟨b, o, q, rfl, hq, h5⟩
  · have : vs = [] := by cases vs with | nil => rfl | cons x l => simp at h2
    subst this
    have : m = 0 := by simpa using hm
    subst this
    refine ⟨.slice none 0 0, ?_, ⟨none, 0, rfl, by simp, .inl ⟨rfl, rfl⟩⟩, fun x hx => hx⟩
    simp only [List.length_nil]
    rw [x_sliceN ht hz]; unfold sln; simp [hbound]
  · have h5' : vs.drop m = [] ∨ ∃ cs rw, H.get b = some (.cells cs rw) ∧ ∀ (i : Nat) v, (vs.drop m)[i]? = some v → cs[o + m + i]? = some v := by
      rcases h5 with h5 | ⟨cs, rw, h5, h6⟩
      · left; rw [h5]; simp
      · right; refine ⟨cs, rw, h5, fun i v h => ?_⟩
        rw [List.getElem?_drop] at h
        rw [Nat.add_assoc]; exact h6 _ v h
    rcases hq with rfl | ⟨q, rfl, hq⟩
    · rw [x_slice ht hz, slx_lo _ _ _ _ _ _ _ (by omega) (by omega)]
      simp only [Int.toNat_natCast, Nat.mul_one]
      refine ⟨_, rfl, ⟨_, c - m, by rw [hl], by rw [hl]; omega, ?_⟩, fun x hx => by simpa [sblk] using hx⟩
      by_cases hc : c = m
      · rw [if_pos hc]
        exact .inr ⟨b, o, none, rfl, .inl rfl, .inl (by apply List.eq_nil_of_length_eq_zero; omega)⟩
      · rw [if_neg hc]
        exact .inr ⟨b, o + m, none, rfl, .inl rfl, h5'⟩
    · rw [x_sliceG ht hz]
      unfold slg
      rw [if_neg (by simp), hbound_none, Option.bind_some, hbound_none, Option.bind_some, hbound_int _ _ _ _ (by omega) (by omega), Option.bind_some, if_neg (by omega), if_neg (by simp)]
      simp only [Int.toNat_natCast, Nat.mul_one]
      by_cases hc : c = m
      · rw [if_pos hc]
        have h0 : (vs.drop m) = [] := by apply List.eq_nil_of_length_eq_zero; omega
        exact ⟨_, rfl, ⟨_, 0, by rw [h0]; rfl, by rw [h0]; simp, .inr ⟨b, o, _, rfl, .inr ⟨_, rfl, by omega⟩, .inl h0⟩⟩, fun x hx => by simpa [sblk] using hx⟩
      · rw [if_neg hc]
        exact ⟨_, rfl, ⟨_, c - m, by rw [hl], by rw [hl]; omega, .inr ⟨b, _, _, rfl, .inr ⟨q, rfl, hq⟩, h5'⟩⟩, fun x hx => by simpa [sblk] using hx⟩
/-- One of a row. -/
theorem RowAt.get {H : HHeap} {s : Value} {vs : List Value} (h : RowAt H s vs) {i : Nat} {v : Value} (hv : vs[i]? = some v) :
    ∃ b o k c cs rw, s = .slice (some ⟨b, o, k⟩) vs.length c ∧ H.get b = some (.cells cs rw) ∧ cs[o + i]? = some v := by
  obtain ⟨a, c, h1, h2 | ⟨b, o, k, cs, rw, h2, h3, h4, h5⟩⟩ := h
  · rw [h2.1] at hv; simp at hv
  · exact ⟨b, o, k, c, cs, rw, by rw [h1, h2], h4, h5 i v hv⟩
end Go.HL
