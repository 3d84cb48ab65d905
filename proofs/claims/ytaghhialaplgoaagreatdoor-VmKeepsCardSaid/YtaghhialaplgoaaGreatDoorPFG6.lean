/-
  Joined: G4, G5, G6.
-/
import Derived.Test.YtaghhialaplgoaaGreatDoorPFG1
import Derived.Test.YtaghhialaplgoaaGreatDoorPFE5
set_option linter.unusedVariables false
set_option linter.unusedSimpArgs false
/-
  Data that stays: how values of a heap are read as plain ones; rows that are read, and rows that grow.
-/
namespace Go.HL
set_option linter.unusedSimpArgs false
set_option linter.unusedVariables false

abbrev Zs := Nat → Prop
def Keep (Z : Zs) (H : HHeap) (Z' : Zs) (H' : HHeap) : Prop := ∀ b, Z b → Z' b ∧ H'.get b = H.get b
theorem Keep.refl (Z : Zs) (H : HHeap) : Keep Z H Z H := fun b h => ⟨h, rfl⟩
theorem Keep.trans {Z Z' Z'' : Zs} {H H' H'' : HHeap} (h : Keep Z H Z' H') (k : Keep Z' H' Z'' H'') : Keep Z H Z'' H'' :=
  fun b hb => ⟨(k b (h b hb).1).1, by rw [(k b (h b hb).1).2, (h b hb).2]⟩

/-- How a thing of some cells is read. -/
structure Rp (α : Type) where
  n : Nat
  r : Zs → HHeap → List Value → α → Prop
  len : ∀ {Z H cs a}, r Z H cs a → cs.length = n
  ext : ∀ {Z Z' H H' cs a}, r Z H cs a → Keep Z H Z' H' → r Z' H' cs a

def flatW (cs : List Value) (o n i : Nat) : List Value := (cs.drop (o + i * n)).take n
theorem flatW_get {cs : List Value} {o n i j : Nat} (h : j < n) : (flatW cs o n i)[j]? = cs[o + i * n + j]? := by
  unfold flatW; rw [List.getElem?_take, if_pos h, List.getElem?_drop]
theorem flatW_shift (cs : List Value) (o n i m : Nat) : flatW cs (o + m * n) n i = flatW cs o n (m + i) := by
  unfold flatW; rw [Nat.add_mul, Nat.add_assoc]
theorem flatW_left {cs ds : List Value} {n i : Nat} (h : (i + 1) * n ≤ cs.length) : flatW (cs ++ ds) 0 n i = flatW cs 0 n i := by
  unfold flatW
  have h' : i * n + n ≤ cs.length := by rw [Nat.add_mul] at h; omega
  rw [Nat.zero_add, List.drop_append_of_le_length (by omega), List.take_append_of_le_length (by simp; omega)]
theorem flatW_right {cs ds : List Value} {n i m : Nat} (h : cs.length = m * n) : flatW (cs ++ ds) 0 n (m + i) = flatW ds 0 n i := by
  unfold flatW
  rw [Nat.zero_add, Nat.zero_add, Nat.add_mul, ← h, List.drop_append, List.drop_eq_nil_of_le (by omega), List.nil_append]; congr 2; omega
theorem flatW_take {cs : List Value} {o n i m : Nat} (h : i < m) : flatW ((cs.drop o).take (m * n)) 0 n i = flatW cs o n i := by
  have h' : i * n + n ≤ m * n := by rw [← Nat.succ_mul]; exact Nat.mul_le_mul_right n h
  unfold flatW
  rw [Nat.zero_add, List.drop_take, List.take_take, List.drop_drop, Nat.min_eq_left (by omega)]

def kOk (k : Option Nat) (n : Nat) : Prop := ∀ q, k = some q → q / 2 = n

/-- A row of things that stays. -/
def Sl {α : Type} (R : Rp α) (Z : Zs) (H : HHeap) (v : Value) (l : List α) : Prop :=
  ∃ a c, v = .slice a l.length c ∧ l.length ≤ c ∧ ((a = none ∧ c = 0) ∨ ∃ b o k, a = some ⟨b, o, k⟩ ∧ kOk k R.n ∧
    (l = [] ∨ ∃ cs rw, Z b ∧ H.get b = some (.cells cs rw) ∧ o + l.length * R.n ≤ cs.length ∧ ∀ i x, l[i]? = some x → R.r Z H (flatW cs o R.n i) x))

variable {α : Type} {R : Rp α} {Z Z' : Zs} {H H' : HHeap} {v : Value} {l : List α}

theorem Sl.ext (h : Sl R Z H v l) (k : Keep Z H Z' H') : Sl R Z' H' v l := by
  obtain ⟨a, c, h1, h2, h3⟩ := h
  refine ⟨a, c, h1, h2, ?_⟩
  rcases h3 with h3 | ⟨b, o, q, h3, h4, h5⟩
  · exact .inl h3
  · refine .inr ⟨b, o, q, h3, h4, ?_⟩
    rcases h5 with h5 | ⟨cs, rw, h5, h6, h7, h8⟩
    · exact .inl h5
    · exact .inr ⟨cs, rw, (k b h5).1, by rw [(k b h5).2]; exact h6, h7, fun i x hx => R.ext (h8 i x hx) k⟩
theorem Sl.len (h : Sl R Z H v l) : ∃ a c, v = .slice a l.length c := by
  obtain ⟨a, c, h1, _⟩ := h
  exact ⟨a, c, h1⟩
theorem Sl.nil (R : Rp α) (Z : Zs) (H : HHeap) : Sl R Z H (.slice none 0 0) [] := ⟨none, 0, rfl, Nat.le_refl _, .inl ⟨rfl, rfl⟩⟩
/-- One of a row. -/
theorem Sl.at (h : Sl R Z H v l) {i : Nat} {x : α} (hx : l[i]? = some x) :
    ∃ b o k c cs rw, v = .slice (some ⟨b, o, k⟩) l.length c ∧ Z b ∧ H.get b = some (.cells cs rw) ∧ o + l.length * R.n ≤ cs.length ∧ R.r Z H (flatW cs o R.n i) x := by
  obtain ⟨a, c, h1, h2, h3⟩ := h
  rcases h3 with ⟨rfl, rfl⟩ | ⟨b, o, q, rfl, h4, h5⟩
  · have : l = [] := by cases l with | nil => rfl | cons x l => simp at h2
    rw [this] at hx; simp at hx
  · rcases h5 with h5 | ⟨cs, rw, h5, h6, h7, h8⟩
    · rw [h5] at hx; simp at hx
    · exact ⟨b, o, q, c, cs, rw, h1, h5, h6, h7, h8 i x hx⟩
/-- A row as what is added. -/
theorem Sl.src (h : Sl R Z H v l) : ∃ fs, hsource H R.n v = some (fs, l.length) ∧ fs.length = l.length * R.n ∧ ∀ i x, l[i]? = some x → R.r Z H (flatW fs 0 R.n i) x := by
  obtain ⟨a, c, rfl, h2, h3⟩ := h
  rcases h3 with ⟨rfl, rfl⟩ | ⟨b, o, q, rfl, h4, h5⟩
  · have : l = [] := by cases l with | nil => rfl | cons x l => simp at h2
    subst this
    exact ⟨[], hsource_nil _, by simp, fun i x h => by simp at h⟩
  · rw [hsource_slice]
    by_cases hl : l = []
    · subst hl
      exact ⟨[], hsrc_zero _ _ _, by simp, fun i x h => by simp at h⟩
    · rcases h5 with h5 | ⟨cs, rw, h5, h6, h7, h8⟩
      · exact absurd h5 hl
      · refine ⟨(cs.drop o).take (l.length * R.n), ?_, by simp; omega, fun i x hx => ?_⟩
        · rw [h6, hsrc_cells _ _ _ _ _ (by cases l with | nil => exact absurd rfl hl | cons x l => simp) h7]
        · rw [flatW_take (List.getElem?_eq_some_iff.1 hx).1]; exact h8 i x hx
theorem Sl.hi {P : Program} {t e : TypeId} (ht : P.underlying t = some (.slice e)) (hz : hsize P e = some R.n) (h : Sl R Z H v l) {k : IntKind} {m : Nat} (hm : m ≤ l.length) :
    ∃ v', hslice P t v none (some (.int k (m : Int))) none = some v' ∧ Sl R Z H v' (l.take m) := by
  obtain ⟨a, c, rfl, h2, h3⟩ := h
  have hl : (l.take m).length = m := by simp; omega
  rcases h3 with ⟨rfl, rfl⟩ | ⟨b, o, q, rfl, hq, h5⟩
  · have : l = [] := by cases l with | nil => rfl | cons x l => simp at h2
    subst this
    have : m = 0 := by simpa using hm
    subst this
    refine ⟨.slice none 0 0, ?_, Sl.nil _ _ _⟩
    simp only [List.length_nil]
    rw [x_sliceN ht hz]; unfold sln; simp [hbound]
  · have h5' : l.take m = [] ∨ ∃ cs rw, Z b ∧ H.get b = some (.cells cs rw) ∧ o + (l.take m).length * R.n ≤ cs.length ∧ ∀ i x, (l.take m)[i]? = some x → R.r Z H (flatW cs o R.n i) x := by
      rcases h5 with h5 | ⟨cs, rw, h5, h6, h7, h8⟩
      · left; rw [h5]; simp
      · right; refine ⟨cs, rw, h5, h6, ?_, fun i x hx => ?_⟩
        · rw [hl]; have := Nat.mul_le_mul_right R.n hm; omega
        · rw [List.getElem?_take] at hx; split at hx
          · exact h8 i x hx
          · cases hx
    cases q with
    | none =>
      refine ⟨.slice (some ⟨b, o, none⟩) m c, ?_, ⟨_, c, by rw [hl], by rw [hl]; omega, .inr ⟨b, o, none, rfl, hq, h5'⟩⟩⟩
      rw [x_slice ht hz, slx_hi _ _ _ _ _ _ _ (by omega) (by omega)]; simp
    | some q =>
      have hq' := hq q rfl
      rw [x_sliceG ht hz]
      unfold slg
      rw [if_neg (by simp), hbound_none, Option.bind_some, hbound_int _ _ _ _ (by omega) (by omega), Option.bind_some, hbound_none, Option.bind_some, if_neg (by omega), if_neg (by simp)]
      by_cases hc : c = 0
      · have hm0 : m = 0 := by omega
        subst hm0
        rw [if_pos hc]
        exact ⟨_, rfl, ⟨_, 0, rfl, by simp, .inr ⟨b, o, _, rfl, by intro q e; cases e; omega, .inl (by simp)⟩⟩⟩
      · rw [if_neg hc]
        refine ⟨_, rfl, ⟨_, c, by rw [hl]; rfl, by rw [hl]; omega, .inr ⟨b, _, _, rfl, by intro q e; cases e; omega, ?_⟩⟩⟩
        simpa using h5'
theorem Sl.lo {P : Program} {t e : TypeId} (ht : P.underlying t = some (.slice e)) (hz : hsize P e = some R.n) (h : Sl R Z H v l) {k : IntKind} {m : Nat} (hm : m ≤ l.length) :
    ∃ v', hslice P t v (some (.int k (m : Int))) none none = some v' ∧ Sl R Z H v' (l.drop m) := by
  obtain ⟨a, c, rfl, h2, h3⟩ := h
  have hl : (l.drop m).length = l.length - m := by simp
  rcases h3 with ⟨rfl, rfl⟩ | ⟨b, o, q, rfl, hq, h5⟩
  · have : l = [] := by cases l with | nil => rfl | cons x l => simp at h2
    subst this
    have : m = 0 := by simpa using hm
    subst this
    refine ⟨.slice none 0 0, ?_, Sl.nil _ _ _⟩
    simp only [List.length_nil]
    rw [x_sliceN ht hz]; unfold sln; simp [hbound]
  · have h5' : l.drop m = [] ∨ ∃ cs rw, Z b ∧ H.get b = some (.cells cs rw) ∧ o + m * R.n + (l.drop m).length * R.n ≤ cs.length ∧ ∀ i x, (l.drop m)[i]? = some x → R.r Z H (flatW cs (o + m * R.n) R.n i) x := by
      rcases h5 with h5 | ⟨cs, rw, h5, h6, h7, h8⟩
      · left; rw [h5]; simp
      · right; refine ⟨cs, rw, h5, h6, ?_, fun i x hx => ?_⟩
        · rw [hl, Nat.add_assoc, ← Nat.add_mul, show m + (l.length - m) = l.length by omega]; exact h7
        · rw [List.getElem?_drop] at hx
          rw [flatW_shift]; exact h8 _ x hx
    cases q with
    | none =>
      rw [x_slice ht hz, slx_lo _ _ _ _ _ _ _ (by omega) (by omega)]
      simp only [Int.toNat_natCast]
      refine ⟨_, rfl, ⟨_, c - m, by rw [hl], by rw [hl]; omega, ?_⟩⟩
      by_cases hc : c = m
      · rw [if_pos hc]
        exact .inr ⟨b, o, none, rfl, hq, .inl (by apply List.eq_nil_of_length_eq_zero; omega)⟩
      · rw [if_neg hc]
        exact .inr ⟨b, o + m * R.n, none, rfl, hq, h5'⟩
    | some q =>
      have hq' := hq q rfl
      rw [x_sliceG ht hz]
      unfold slg
      rw [if_neg (by simp), hbound_none, Option.bind_some, hbound_none, Option.bind_some, hbound_int _ _ _ _ (by omega) (by omega), Option.bind_some, if_neg (by omega), if_neg (by simp)]
      simp only [Int.toNat_natCast]
      by_cases hc : c = m
      · rw [if_pos hc]
        have h0 : (l.drop m) = [] := by apply List.eq_nil_of_length_eq_zero; omega
        exact ⟨_, rfl, ⟨_, 0, by rw [h0]; rfl, by rw [h0]; simp, .inr ⟨b, o, _, rfl, by intro q e; cases e; omega, .inl h0⟩⟩⟩
      · rw [if_neg hc]
        exact ⟨_, rfl, ⟨_, c - m, by rw [hl], by rw [hl]; omega, .inr ⟨b, _, _, rfl, by intro q e; cases e; omega, h5'⟩⟩⟩

/-- A row that grows: nobody else reads its block. -/
def Gr {α : Type} (R : Rp α) (Z : Zs) (H : HHeap) (v : Value) (l : List α) : Prop :=
  (l = [] ∧ v = .slice none 0 0) ∨
  (∃ b cs rw, l = [] ∧ v = .slice (some ⟨b, 0, none⟩) 0 0 ∧ ¬ Z b ∧ H.get b = some (.cells cs rw)) ∨
  (∃ b cs, l ≠ [] ∧ v = .slice (some ⟨b, 0, some (2 * R.n)⟩) l.length l.length ∧ ¬ Z b ∧ H.get b = some (.cells cs true) ∧ cs.length = l.length * R.n ∧ ∀ i x, l[i]? = some x → R.r Z H (flatW cs 0 R.n i) x)

theorem Gr.nil (R : Rp α) (Z : Zs) (H : HHeap) : Gr R Z H (.slice none 0 0) [] := .inl ⟨rfl, rfl⟩
theorem Gr.ext (h : Gr R Z H v l) (k : Keep Z H Z' H') (f : ∀ b ∈ sblk v, H'.get b = H.get b ∧ ¬ Z' b) : Gr R Z' H' v l := by
  rcases h with h | ⟨b, cs, rw, h1, rfl, h3, h4⟩ | ⟨b, cs, h1, rfl, h3, h4, h5, h6⟩
  · exact .inl h
  · have := f b (by simp [sblk])
    exact .inr (.inl ⟨b, cs, rw, h1, rfl, this.2, by rw [this.1]; exact h4⟩)
  · have := f b (by simp [sblk])
    exact .inr (.inr ⟨b, cs, h1, rfl, this.2, by rw [this.1]; exact h4, h5, fun i x hx => R.ext (h6 i x hx) k⟩)
theorem Gr.len (h : Gr R Z H v l) : ∃ a, v = .slice a l.length l.length := by
  rcases h with ⟨rfl, h⟩ | ⟨b, cs, rw, rfl, h, _⟩ | ⟨b, cs, h1, h, _⟩
  · exact ⟨_, h⟩
  · exact ⟨_, h⟩
  · exact ⟨_, h⟩
theorem Gr.blk (h : Gr R Z H v l) : ∀ b ∈ sblk v, ¬ Z b ∧ ∃ o, H.get b = some o := by
  rcases h with ⟨_, rfl⟩ | ⟨b, cs, rw, _, rfl, h3, h4⟩ | ⟨b, cs, h1, rfl, h3, h4, _⟩
  · simp [sblk]
  · intro x hx; simp [sblk] at hx; subst hx; exact ⟨h3, _, h4⟩
  · intro x hx; simp [sblk] at hx; subst hx; exact ⟨h3, _, h4⟩
theorem Gr.lt (h : Gr R Z H v l) (ok : H.Ok) : ∀ b ∈ sblk v, b < H.next := fun b hb => by
  obtain ⟨_, o, ho⟩ := h.blk b hb
  exact ok _ _ ho
theorem Gr.at (h : Gr R Z H v l) {i : Nat} {x : α} (hx : l[i]? = some x) :
    ∃ b cs, v = .slice (some ⟨b, 0, some (2 * R.n)⟩) l.length l.length ∧ ¬ Z b ∧ H.get b = some (.cells cs true) ∧ cs.length = l.length * R.n ∧ R.r Z H (flatW cs 0 R.n i) x := by
  rcases h with ⟨rfl, _⟩ | ⟨b, cs, rw, rfl, _⟩ | ⟨b, cs, h1, h2, h3, h4, h5, h6⟩
  · simp at hx
  · simp at hx
  · exact ⟨b, cs, h2, h3, h4, h5, h6 i x hx⟩
/-- It is done: it stays. -/
theorem Gr.stay (h : Gr R Z H v l) : Sl R (fun b => Z b ∨ b ∈ sblk v) H v l := by
  rcases h with ⟨rfl, rfl⟩ | ⟨b, cs, rw, rfl, rfl, h3, h4⟩ | ⟨b, cs, h1, rfl, h3, h4, h5, h6⟩
  · exact Sl.nil _ _ _
  · exact ⟨_, 0, rfl, Nat.le_refl _, .inr ⟨b, 0, none, rfl, (by intro q e; cases e), .inl rfl⟩⟩
  · exact ⟨_, _, rfl, Nat.le_refl _, .inr ⟨b, 0, _, rfl, by intro q e; cases e; omega, .inr ⟨cs, true, .inr (by simp [sblk]), h4, by omega, fun i x hx => R.ext (h6 i x hx) fun b hb => ⟨.inl hb, rfl⟩⟩⟩⟩
/-- It grows. -/
theorem Gr.add (h : Gr R Z H v l) (hn : 0 < R.n) (hZ : ∀ b, Z b → b < H.next) {by' : Nat} {xs : List Value} {ys : List α} (hy : ys ≠ []) (hx : xs.length = ys.length * R.n) (he : ∀ i x, ys[i]? = some x → R.r Z H (flatW xs 0 R.n i) x)
    (h1 : (l.length + ys.length) * by' ≤ 1099511627776) (h2 : l.length + ys.length ≤ 1099511627776) :
    ∃ H', apd H R.n by' v (xs, ys.length) = some (.slice (some ⟨H.next, 0, some (2 * R.n)⟩) (l.length + ys.length) (l.length + ys.length), H') ∧
      Gr R Z H' (.slice (some ⟨H.next, 0, some (2 * R.n)⟩) (l.length + ys.length) (l.length + ys.length)) (l ++ ys) ∧ H'.next = H.next + 1 ∧ (∀ b, b ≠ H.next → b ∉ sblk v → H'.get b = H.get b) := by
  have hyl : 0 < ys.length := by cases ys with | nil => exact absurd rfl hy | cons y ys => simp
  have hne : l ++ ys ≠ [] := by simp [hy]
  have key : ∀ (H' : HHeap) (cs : List Value), cs.length = l.length * R.n → (∀ i x, l[i]? = some x → R.r Z H (flatW cs 0 R.n i) x) → H'.get H.next = some (.cells (cs ++ xs) true) → Keep Z H Z H' →
      Gr R Z H' (.slice (some ⟨H.next, 0, some (2 * R.n)⟩) (l.length + ys.length) (l.length + ys.length)) (l ++ ys) := by
    intro H' cs hc hcs hg hk
    refine .inr (.inr ⟨H.next, cs ++ xs, hne, by rw [List.length_append], fun hz => absurd (hZ _ hz) (by omega), hg, by simp [hc, hx, Nat.add_mul], fun i x hix => ?_⟩)
    by_cases hi : i < l.length
    · rw [List.getElem?_append_left hi] at hix
      rw [flatW_left (by rw [hc]; exact Nat.mul_le_mul_right _ hi)]
      exact R.ext (hcs i x hix) hk
    · rw [List.getElem?_append_right (by omega)] at hix
      obtain ⟨j, rfl⟩ : ∃ j, i = l.length + j := ⟨i - l.length, by omega⟩
      rw [flatW_right hc]
      rw [Nat.add_sub_cancel_left] at hix
      exact R.ext (he j x hix) hk
  have hkeep : ∀ (H' : HHeap), (∀ b, b ≠ H.next → b ∉ sblk v → H'.get b = H.get b) → (∀ b ∈ sblk v, ¬ Z b) → Keep Z H Z H' := fun H' hf hb b hz =>
    ⟨hz, hf b (by have := hZ b hz; omega) fun hm => hb b hm hz⟩
  rcases h with ⟨rfl, rfl⟩ | ⟨b, cs, rw, rfl, rfl, h3, h4⟩ | ⟨b, cs, hl, rfl, h3, h4, h5, h6⟩
  · have hf : ∀ b, b ≠ H.next → b ∉ sblk (.slice none 0 0) → (H.push (.cells xs true)).get b = H.get b := fun b hb _ => by simp [HHeap.get_push, hb]
    refine ⟨H.push (.cells xs true), ?_, key _ [] (by simp) (fun i x h => by simp at h) (by simp [HHeap.get_push]) (hkeep _ hf (by simp [sblk])), by simp, hf⟩
    rw [apd_nil _ _ _ _ hyl (by simpa using h1) (by simpa using h2)]
    simp
  · have hf : ∀ c, c ≠ H.next → c ∉ sblk (.slice (some ⟨b, 0, none⟩) 0 0) → (H.push (.cells xs true)).get c = H.get c := fun c hc _ => by simp [HHeap.get_push, hc]
    refine ⟨H.push (.cells xs true), ?_, key _ [] (by simp) (fun i x h => by simp at h) (by simp [HHeap.get_push]) (hkeep _ hf (by simp [sblk, h3])), by simp, hf⟩
    rw [apd_some _ _ _ _ _ _ _ _ _ hyl (by simpa using h1) (by simpa using h2), h4]
    unfold apo; simp only
    rw [if_neg (by omega), if_pos (by omega)]
    simp
  · have hf : ∀ c, c ≠ H.next → c ∉ sblk (.slice (some ⟨b, 0, some (2 * R.n)⟩) l.length l.length) → ((H.kill b).push (.cells (cs ++ xs) true)).get c = H.get c := fun c hc hb => by
      have : c ≠ b := by rintro rfl; exact hb (by simp [sblk])
      simp [HHeap.get_push, hc, HHeap.get_kill, this]
    refine ⟨(H.kill b).push (.cells (cs ++ xs) true), ?_, key _ cs h5 h6 (by simp [HHeap.get_push]) (hkeep _ hf (by simp [sblk, h3])), by simp, hf⟩
    rw [apd_some _ _ _ _ _ _ _ _ _ hyl h1 h2, h4, apo_grow R.n b l.length ys.length xs cs hn hyl h5]

/-- Things of one cell. -/
def rOne {α : Type} (f : α → Value) : Rp α := ⟨1, fun _ _ cs a => cs = [f a], by rintro _ _ _ _ rfl; rfl, by rintro _ _ _ _ _ _ rfl _; rfl⟩
/-- Text. -/
def S (l : List UInt8) : Value := .string ⟨l.toArray⟩
def rW : Rp Nat := rOne U
theorem rOne_at {α : Type} {f : α → Value} {Z : Zs} {H : HHeap} {cs : List Value} {o i : Nat} {a : α} (h : (rOne f).r Z H (flatW cs o 1 i) a) : cs[o + i * 1]? = some (f a) := by
  have h' : flatW cs o 1 i = [f a] := h
  have := flatW_get (cs := cs) (o := o) (n := 1) (i := i) (j := 0) (by omega)
  rw [h'] at this
  rw [Nat.add_zero] at this
  exact this.symm

/-- What a call leaves: what stays, stays; nothing that was there is kept from now on. -/
structure Ext (Z : Zs) (H : HHeap) (Z' : Zs) (H' : HHeap) : Prop where
  keep : Keep Z H Z' H'
  next : H.next ≤ H'.next
  old : ∀ b, b < H.next → Z' b → Z b
theorem Ext.refl (Z : Zs) (H : HHeap) : Ext Z H Z H := ⟨Keep.refl Z H, Nat.le_refl _, fun _ _ h => h⟩
theorem Ext.trans {Z Z' Z'' : Zs} {H H' H'' : HHeap} (h : Ext Z H Z' H') (k : Ext Z' H' Z'' H'') : Ext Z H Z'' H'' :=
  ⟨h.keep.trans k.keep, Nat.le_trans h.next k.next, fun b hb hz => h.old b hb (k.old b (Nat.lt_of_lt_of_le hb h.next) hz)⟩
/-- Nothing else is changed but what stands in a row of blocks. -/
def Same (S : List Nat) (H H' : HHeap) : Prop := ∀ b, b < H.next → b ∉ S → H'.get b = H.get b
theorem Same.refl (S : List Nat) (H : HHeap) : Same S H H := fun _ _ _ => rfl
theorem Same.trans {S S' : List Nat} {H H' H'' : HHeap} (h : Same S H H') (k : Same S' H' H'') (hn : H.next ≤ H'.next) (hs : ∀ b ∈ S', b ∈ S ∨ H.next ≤ b) : Same S H H'' := fun b hb hS => by
  rw [k b (by omega) fun hm => by rcases hs b hm with h | h; exact hS h; omega, h b hb hS]
end Go.HL
/-
  Text: strings as rows of bytes.
-/
namespace Go.HL
open Go.RowKit
set_option linter.unusedSimpArgs false
set_option linter.unusedVariables false

theorem bytes_loop (bs : ByteArray) : ∀ (k i : Nat) (r : List UInt8), bs.size - i = k → ByteArray.toList.loop bs i r = r.reverse ++ bs.data.toList.drop i := by
  intro k
  induction k with
  | zero =>
    intro i r h
    rw [ByteArray.toList.loop, if_neg (by omega), List.drop_eq_nil_of_le (by rw [Array.length_toList, ByteArray.size_data]; omega), List.append_nil]
  | succ k ih =>
    intro i r h
    have hi : i < bs.size := by omega
    rw [ByteArray.toList.loop, if_pos hi, ih (i + 1) _ (by omega), List.reverse_cons, List.append_assoc]
    congr 1
    have hi' : i < bs.data.toList.length := by rw [Array.length_toList, ByteArray.size_data]; exact hi
    rw [List.drop_eq_getElem_cons hi']
    simp only [List.singleton_append, List.cons.injEq, and_true]
    cases bs with
    | mk data =>
      show data[i]! = _
      have : i < data.size := hi
      rw [getElem!_pos data i this]; simp
theorem bytes_list (bs : ByteArray) : bs.toList = bs.data.toList := by
  unfold ByteArray.toList; rw [bytes_loop bs _ 0 [] rfl]; simp

variable {P : Program}
theorem s_size (l : List UInt8) : (ByteArray.mk l.toArray).size = l.length := by rw [← ByteArray.size_data]; simp
theorem s_len {t : TypeId} (hu : P.underlying t = some .string) (H : HHeap) (l : List UInt8) : hlen P H t (S l) = some (.int .i64 (l.length : Nat)) := by
  unfold S; rw [x_lenStr hu, s_size]
def six (l : List UInt8) (i : Int) : Option Value := if 0 ≤ i then (l[i.toNat]?).map fun b => .int .u8 b.toNat else none
theorem s_index {t : TypeId} (hu : P.underlying t = some .string) (l : List UInt8) (k : IntKind) (i : Int) : hindex P t (S l) (.int k i) = six l i := by
  unfold hindex S six; simp only [hu]; simp
def ssl (l : List UInt8) (lo hi : Option Value) : Option Value := (hbound l.length l.length hi).bind fun h => (hbound h 0 lo).bind fun a => some (S ((l.take h).drop a))
theorem s_extract (l : List UInt8) (a h : Nat) : (ByteArray.mk l.toArray).extract a h = ⟨((l.take h).drop a).toArray⟩ := by
  apply ByteArray.ext
  rw [ByteArray.data_extract]
  simp [List.extract_toArray, List.extract_eq_take_drop, List.drop_take]
theorem s_slice {t : TypeId} (hu : P.underlying t = some .string) (l : List UInt8) (lo hi : Option Value) : hslice P t (S l) lo hi none = ssl l lo hi := by
  unfold hslice S ssl; simp only [hu, s_size, s_extract]; rfl
theorem s_lit (l : List UInt8) : Value.string (ByteArray.mk (List.toArray l)) = S l := rfl
theorem s_eql (t : TypeId) (a b : List UInt8) : hbin P .eql t (S a) (S b) = some (.bool (a == b)) := by
  unfold hbin S hstr; simp only [bytes_list, List.toList_toArray]
theorem s_neq (t : TypeId) (a b : List UInt8) : hbin P .neq t (S a) (S b) = some (.bool (!(a == b))) := by
  unfold hbin S hstr; simp only [bytes_list, List.toList_toArray]
def sadd (a b : List UInt8) : Option Value := if a.length + b.length ≤ 1099511627776 then some (S (a ++ b)) else none
theorem sadd_ok (a b : List UInt8) (h : a.length + b.length ≤ 1099511627776) : sadd a b = some (S (a ++ b)) := by unfold sadd; rw [if_pos h]
theorem s_add (t : TypeId) (a b : List UInt8) : hbin P .add t (S a) (S b) = sadd a b := by
  unfold hbin S hstr sadd; simp only [s_size]
  split
  · congr 2
  · rfl
theorem hev_S (fr : HFrame) (l : List UInt8) : hev fr (.const (S l)) = some (S l) := by unfold S; rw [hev_string]
attribute [go_sem] s_lit s_eql s_neq s_add hev_S
end Go.HL
/-
  What is older stays; a row grows by one, as a step of a walk.
-/
namespace Go.HL
open Go.RowKit
set_option linter.unusedSimpArgs false
set_option linter.unusedVariables false
def Old (H H' : HHeap) : Prop := H.next ≤ H'.next ∧ ∀ b, b < H.next → H'.get b = H.get b
theorem Old.refl (H : HHeap) : Old H H := ⟨Nat.le_refl _, fun _ _ => rfl⟩
theorem Old.trans {H H' H'' : HHeap} (h : Old H H') (k : Old H' H'') : Old H H'' := ⟨Nat.le_trans h.1 k.1, fun b hb => by rw [k.2 b (Nat.lt_of_lt_of_le hb h.1), h.2 b hb]⟩
theorem Old.push (H : HHeap) (o : HObj) : Old H (H.push o) := ⟨by rw [nx_push]; omega, fun b hb => get_push_ne _ _ (by omega)⟩
theorem Old.push_set (H : HHeap) (o o' : HObj) : Old H ((H.push o).set H.next o') := by rw [Go.HL.push_set]; exact Old.push H o'
theorem Old.keep {Z : Zs} {H H' : HHeap} (h : Old H H') (hZ : ∀ b, Z b → b < H.next) : Keep Z H Z H' := fun b hb => ⟨hb, h.2 b (hZ b hb)⟩
variable {α : Type} {R : Rp α} {Z : Zs}
theorem Gr.old {H H' : HHeap} {v : Value} {l : List α} (h : Gr R Z H v l) (hO : Old H H') (hZ : ∀ b, Z b → b < H.next) (hb : ∀ b ∈ sblk v, b < H.next) : Gr R Z H' v l :=
  h.ext (hO.keep hZ) fun b hm => ⟨hO.2 b (hb b hm), (h.blk b hm).1⟩
theorem Sl.old {H H' : HHeap} {v : Value} {l : List α} (h : Sl R Z H v l) (hO : Old H H') (hZ : ∀ b, Z b → b < H.next) : Sl R Z H' v l := h.ext (hO.keep hZ)
/-- A row grows by one thing. -/
theorem HGo_add {H0 K : HHeap} {v : Value} {l : List α} {x : α} {xs : List Value} {n by' : Nat} (h : Gr R Z H0 v l) (e : R.n = n) (hn : 0 < n) (hO : Old H0 K) (hZ : ∀ b, Z b → b < H0.next) (hb : ∀ b ∈ sblk v, b < H0.next)
    (hx : R.r Z K xs x) (h1 : (l.length + 1) * by' ≤ 1099511627776) (h2 : l.length + 1 ≤ 1099511627776) {next : Value → HHeap → Prop}
    (hnext : ∀ v' H', Gr R Z H' v' (l ++ [x]) → (∀ b ∈ sblk v', H0.next ≤ b ∧ b < H'.next) → H0.next ≤ H'.next → (∀ b, b < H0.next → b ∉ sblk v → H'.get b = H0.get b) → next v' H') : HGo (apd K n by' v (xs, 1)) next := by
  subst e
  have hK := h.old hO hZ hb
  have hxl : xs.length = 1 * R.n := by rw [Nat.one_mul]; exact R.len hx
  obtain ⟨H', q1, q2, q3, q4⟩ := hK.add hn (fun b hb => by have := hZ b hb; have := hO.1; omega) (ys := [x]) (by simp) (xs := xs) (by simpa using hxl) (fun i y hy => by
    match i, hy with
    | 0, hy =>
      simp at hy; subst hy
      have : flatW xs 0 R.n 0 = xs := by unfold flatW; simp; rw [List.take_of_length_le (by omega)]
      rw [this]; exact hx
    | i + 1, hy => simp at hy) (by simpa using h1) (by simpa using h2)
  simp only [List.length_cons, List.length_nil, Nat.zero_add] at q1
  rw [q1, HGo_some]
  have := hO.1
  refine hnext _ _ q2 (fun b hb => ?_) (by omega) fun b hb hs => ?_
  · simp [sblk] at hb; omega
  · rw [q4 b (by omega) hs, hO.2 b hb]
/-- The same, with the thing in a fresh row of one. -/
theorem HGo_add1 {H0 K : HHeap} {v : Value} {l : List α} {x : α} {xs : List Value} {n by' b : Nat} (h : Gr R Z H0 v l) (e : R.n = n) (hn : 0 < n) (hg : K.get b = some (.cells xs true)) (hO : Old H0 K) (hZ : ∀ b, Z b → b < H0.next) (hb : ∀ b ∈ sblk v, b < H0.next)
    (hx : R.r Z K xs x) (h1 : (l.length + 1) * by' ≤ 1099511627776) (h2 : l.length + 1 ≤ 1099511627776) {next : Value → HHeap → Prop}
    (hnext : ∀ v' H', Gr R Z H' v' (l ++ [x]) → (∀ b ∈ sblk v', H0.next ≤ b ∧ b < H'.next) → H0.next ≤ H'.next → (∀ b, b < H0.next → b ∉ sblk v → H'.get b = H0.get b) → next v' H') :
    HGo (hb1 (apd K n by' v) (hsource K n (.slice (some ⟨b, 0, none⟩) 1 1))) next := by
  have hl : xs.length = n := by rw [← e]; exact R.len hx
  rw [hsource_slice, hg, hsrc_cells _ _ _ _ _ (by omega) (by omega)]
  rw [show (xs.drop 0).take (1 * n) = xs by rw [List.drop_zero, List.take_of_length_le (by omega)]]
  unfold hb1
  exact HGo_add h e hn hO hZ hb hx h1 h2 hnext
theorem splice_full (cs vs : List Value) (h : cs.length = vs.length) : splice cs 0 vs = vs := by
  have := splice_mid vs cs [] h []
  simpa using this
attribute [go_sem] splice_full
end Go.HL
