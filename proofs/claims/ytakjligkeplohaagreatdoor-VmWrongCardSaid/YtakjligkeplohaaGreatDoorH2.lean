/-
  A high level over the model, part 2: stores, appends and maps: what a world does, and what the high level's heap then is.
-/
import Derived.Test.YtakjligkeplohaaGreatDoorH1
namespace Go.HL
set_option linter.unusedSimpArgs false
set_option linter.unusedVariables false
open Go.RowKit

theorem add_cell (g o n : Nat) : (⟨g, o, none⟩ : Addr).add n = ⟨g, o + n, none⟩ := by
  unfold Addr.add; split <;> simp_all

/-- A row of cells written, one by one. -/
def putCells (w : World) (g o : Nat) : List Value → World
  | [] => w
  | v :: vs => putCells (w.setCell ⟨g, o, none⟩ v) g (o + 1) vs

theorem putCells_size (g : Nat) : ∀ (vs : List Value) (w : World) (o : Nat), (putCells w g o vs).heap.size = w.heap.size
  | [], _, _ => rfl
  | v :: vs, w, o => by simp [putCells, putCells_size g vs]

theorem putCells_frozen (g : Nat) (a : Addr) : ∀ (vs : List Value) (w : World) (o : Nat), (putCells w g o vs).frozen? a = w.frozen? a
  | [], _, _ => rfl
  | v :: vs, w, o => by simp [putCells, putCells_frozen g a vs]

theorem putCells_below {B g : Nat} (hg : B ≤ g) : ∀ (vs : List Value) (w : World) (o : Nat), Below B w (putCells w g o vs)
  | [], w, _ => Below.refl B w
  | v :: vs, w, o => ((Below.refl B w).setCell (p := ⟨g, o, none⟩) hg v).trans (putCells_below hg vs _ _)

theorem putCells_block {g k : Nat} (hk : k ≠ g) : ∀ (vs : List Value) (w : World) (o : Nat), (putCells w g o vs).heap[k]? = w.heap[k]?
  | [], _, _ => rfl
  | v :: vs, w, o => by
    rw [putCells, putCells_block hk vs, Below.heap_setCell _ _ _ _ hk]

theorem putCells_other {g : Nat} {a : Addr} : ∀ (vs : List Value) (w : World) (o : Nat), (∀ j, j < vs.length → a ≠ ⟨g, o + j, none⟩) → (putCells w g o vs).cell? a = w.cell? a
  | [], _, _, _ => rfl
  | v :: vs, w, o, h => by
    rw [putCells, putCells_other vs _ _ (fun j hj => by have := h (j + 1) (by simpa using hj); rwa [show o + (j + 1) = o + 1 + j by omega] at this),
      World.cell?_setCell_other _ _ _ _ (fun e => h 0 (by simp) (by simpa using e.symm))]

theorem putCells_same {g : Nat} : ∀ (vs : List Value) (w : World) (o : Nat), (∀ j, j < vs.length → ∃ u, w.cell? ⟨g, o + j, none⟩ = some u) →
    ∀ j v, vs[j]? = some v → (putCells w g o vs).cell? ⟨g, o + j, none⟩ = some v
  | [], _, _, _, j, v, e => by simp at e
  | u :: vs, w, o, h, 0, v, e => by
    simp at e; subst e
    rw [putCells, putCells_other vs _ _ (fun j _ => by simp <;> omega)]
    obtain ⟨x, hx⟩ := h 0 (by simp)
    simpa using World.cell?_setCell_same w ⟨g, o, none⟩ u (by simpa using hx)
  | u :: vs, w, o, h, j + 1, v, e => by
    rw [putCells, show o + (j + 1) = o + 1 + j by omega]
    refine putCells_same vs _ _ (fun i hi => ?_) j v (by simpa using e)
    obtain ⟨x, hx⟩ := h (i + 1) (by simpa using hi)
    refine ⟨x, ?_⟩
    rw [World.cell?_setCell_other _ _ _ _ (by simp <;> omega), show o + 1 + i = o + (i + 1) by omega]
    exact hx

theorem putCells_there {g : Nat} {a : Addr} (vs : List Value) (w : World) (o : Nat) (h : ∀ j, j < vs.length → ∃ u, w.cell? ⟨g, o + j, none⟩ = some u) (ha : ∃ u, w.cell? a = some u) :
    ∃ u, (putCells w g o vs).cell? a = some u := by
  by_cases hc : ∃ j, j < vs.length ∧ a = ⟨g, o + j, none⟩
  · obtain ⟨j, hj, rfl⟩ := hc
    exact ⟨_, putCells_same vs w o h j _ (List.getElem?_eq_getElem hj)⟩
  · rw [putCells_other vs w o (fun j hj e => hc ⟨j, hj, e⟩)]
    exact ha

theorem run_storeCells_put (P : Program) {g : Nat} : ∀ (vs : List Value) (w : World) (o i : Nat), (∀ j, j < vs.length → (∃ u, w.cell? ⟨g, o + i + j, none⟩ = some u) ∧ w.frozen? ⟨g, o + i + j, none⟩ = false) → (∀ v ∈ vs, v.oneCell' = true) →
    (storeCells ⟨g, o, none⟩ vs i).run P w = .ok () (putCells w g (o + i) vs)
  | [], w, o, i, _, _ => by simp [storeCells, putCells]
  | v :: vs, w, o, i, h, h1 => by
    obtain ⟨⟨u, hu⟩, hf⟩ := h 0 (by simp)
    simp only [Nat.add_zero] at hu hf
    have ih := run_storeCells_put P vs (w.setCell ⟨g, o + i, none⟩ v) o (i + 1) (fun j hj => by
      obtain ⟨⟨x, hx⟩, hf⟩ := h (j + 1) (by simpa using hj)
      rw [show o + i + (j + 1) = o + (i + 1) + j by omega] at hx hf
      refine ⟨⟨x, ?_⟩, by simpa using hf⟩
      rw [World.cell?_setCell_other _ _ _ _ (by simp <;> omega)]
      exact hx) (fun x hx => h1 x (by simp [hx]))
    simp only [storeCells, Sem.run_bind, add_cell, run_store P w _ v _ (h1 v (by simp)), hu, hf, Bool.false_eq_true, if_false, Result.andThen_ok, ih, putCells]
    rfl

/-- A row of cells written at the high level. -/
def splice (cs : List Value) : Nat → List Value → List Value
  | _, [] => cs
  | o, v :: vs => splice (cs.set o v) (o + 1) vs

theorem splice_length : ∀ (vs cs : List Value) (o : Nat), (splice cs o vs).length = cs.length
  | [], _, _ => rfl
  | v :: vs, cs, o => by simp [splice, splice_length vs]

theorem splice_other {i : Nat} : ∀ (vs cs : List Value) (o : Nat), (i < o ∨ o + vs.length ≤ i) → (splice cs o vs)[i]? = cs[i]?
  | [], _, _, _ => rfl
  | v :: vs, cs, o, h => by
    rw [splice, splice_other vs _ _ (by simp at h; omega), List.getElem?_set_ne (by simp at h; omega)]

theorem splice_same : ∀ (vs cs : List Value) (o : Nat), o + vs.length ≤ cs.length → ∀ (j : Nat) (v : Value), vs[j]? = some v → (splice cs o vs)[o + j]? = some v
  | [], _, _, _, j, v, e => by simp at e
  | u :: vs, cs, o, h, 0, v, e => by
    simp at e; subst e
    simp at h
    rw [splice, splice_other vs _ _ (by omega), Nat.add_zero, List.getElem?_set_self (by omega)]
  | u :: vs, cs, o, h, j + 1, v, e => by
    simp at h
    rw [splice, show o + (j + 1) = o + 1 + j by omega]
    exact splice_same vs _ _ (by simp <;> omega) j v (by simpa using e)

theorem splice_mem {v : Value} : ∀ (vs cs : List Value) (o : Nat), v ∈ splice cs o vs → v ∈ cs ∨ v ∈ vs
  | [], _, _, h => .inl h
  | u :: vs, cs, o, h => by
    rcases splice_mem vs _ _ h with h | h
    · rcases List.mem_or_eq_of_mem_set h with h | h
      · exact .inl h
      · exact .inr (by simp [h])
    · exact .inr (by simp [h])

/-- The world's side of a store into a block that may be written. -/
theorem Rel.put {B : Nat} {μ : Mu} {H : HHeap} {w : World} (h : Rel B μ H w) {b : Nat} {cs : List Value} (hb : H.get b = some (.cells cs true)) {p : Place} (hp : μ b = some p)
    (o : Nat) (vs vs' : List Value) (hv : VRels μ vs vs') (h1 : ∀ v ∈ vs, v.oneCell' = true) (cs2 : List Value) (ho : o + vs.length ≤ p.ext) (hlen : cs2.length ≤ p.ext)
    (hold : ∀ (i : Nat) (v : Value), cs2[i]? = some v → (i < o ∨ o + vs.length ≤ i) → cs[i]? = some v)
    (hnew : ∀ (j : Nat) (v : Value), j < vs.length → cs2[o + j]? = some v → vs[j]? = some v) :
    Step B μ H w μ (H.set b (.cells cs2 true)) (putCells w p.g (p.d + o) vs') := by
  obtain ⟨q, hq, hl, hc, hw, hr⟩ := h.cells b cs true hb
  rw [hp] at hq; cases hq
  have hw' := hw rfl
  have hlen' := hv.length
  have there : ∀ j, j < vs'.length → ∃ u, w.cell? ⟨p.g, p.d + o + j, none⟩ = some u := fun j hj => by
    have := (hw'.2 (o + j) (by omega)).1; rwa [show p.d + (o + j) = p.d + o + j by omega] at this
  have getw : ∀ x y, (H.set b (.cells cs2 true)).get x = some y → y.wr = true → ∃ z, H.get x = some z ∧ z.wr = true := fun x y hx hy => by
    by_cases hxb : x = b
    · subst hxb; exact ⟨_, hb, rfl⟩
    · exact ⟨y, by simpa [HHeap.get_set, hxb] using hx, hy⟩
  refine ⟨Sub.refl μ, ⟨by rw [putCells_size]; exact h.hB, h.bound, fun b' p' hb' => by rw [putCells_size]; exact h.real b' p' hb', ?_, ?_, ?_⟩, ?_, ?_, ?_, by rw [putCells_size]; exact Nat.le_refl _, ?_, ?_, Nat.le_refl _, ?_, fun _ _ => rfl⟩
  · intro c cs' rw' hg
    by_cases hcb : c = b
    · subst hcb
      simp [HHeap.get_set] at hg
      obtain ⟨rfl, rfl⟩ := hg
      refine ⟨p, hp, hlen, ?_, ?_, by simp⟩
      · intro i v hi
        by_cases hio : i < o ∨ o + vs.length ≤ i
        · have hcv := hold i v hi hio
          obtain ⟨h1', v', hv', hrel⟩ := hc i v hcv
          refine ⟨h1', v', ?_, hrel⟩
          rw [putCells_other _ _ _ (fun j hj => by simp <;> omega)]
          exact hv'
        · obtain ⟨j, rfl⟩ : ∃ j, i = o + j := ⟨i - o, by omega⟩
          have hj : j < vs.length := by omega
          have hvj := hnew j v hj hi
          obtain ⟨v', hv', hrel⟩ := hv.get j v hvj
          refine ⟨h1 v (List.mem_of_getElem? hvj), v', ?_, hrel⟩
          rw [show p.d + (o + j) = p.d + o + j by omega]
          exact putCells_same vs' w _ there j v' hv'
      · intro _
        refine ⟨hw'.1, fun i hi => ⟨?_, ?_⟩⟩
        · exact putCells_there vs' w _ there (hw'.2 i hi).1
        · rw [putCells_frozen]; exact (hw'.2 i hi).2
    · have hg' : H.get c = some (.cells cs' rw') := by simpa [HHeap.get_set, hcb] using hg
      obtain ⟨q, hq, hl', hc', hwq, hrq⟩ := h.cells c cs' rw' hg'
      have hdis : q.g ≠ p.g := by
        cases rw' with
        | true => exact h.apart c b _ _ q p hcb hg' hb rfl rfl hq hp
        | false => have := hrq rfl; have := hw'.1; omega
      refine ⟨q, hq, hl', ?_, ?_, hrq⟩
      · intro i v hi
        obtain ⟨h1', v', hv', hrel⟩ := hc' i v hi
        exact ⟨h1', v', by rw [putCells_other _ _ _ (fun j _ => by simp [hdis])]; exact hv', hrel⟩
      · intro hrw
        refine ⟨(hwq hrw).1, fun i hi => ?_⟩
        rw [putCells_other _ _ _ (fun j _ => by simp [hdis]), putCells_frozen]
        exact (hwq hrw).2 i hi
  · intro c es hg
    have hcb : c ≠ b := by rintro rfl; simp [HHeap.get_set] at hg
    have hg' : H.get c = some (.map es) := by simpa [HHeap.get_set, hcb] using hg
    obtain ⟨q, clock, es', hq, hB, hh, he⟩ := h.maps c es hg'
    exact ⟨q, clock, es', hq, hB, by rw [putCells_block (h.apart c b _ _ q p hcb hg' hb rfl rfl hq hp)]; exact hh, he⟩
  · intro c c' x x' q q' hne hg hg' hx hx' hq hq'
    obtain ⟨z, k1, k2⟩ := getw _ _ hg hx
    obtain ⟨z', k1', k2'⟩ := getw _ _ hg' hx'
    exact h.apart c c' z z' q q' hne k1 k1' k2 k2' hq hq'
  · exact (putCells_below (Nat.zero_le _) vs' w _).os
  · exact (putCells_below (Nat.zero_le _) vs' w _).tape
  · exact (putCells_below (Nat.zero_le _) vs' w _).output
  · intro g _ ho
    exact putCells_block (fun e => ho ⟨b, _, p, hb, rfl, hp, e.symm⟩) _ _ _
  · rintro g ⟨x, y, q, hx, hy, hq, rfl⟩
    obtain ⟨z, k1, k2⟩ := getw _ _ hx hy
    exact .inl ⟨x, z, q, k1, k2, hq, rfl⟩
  · intro x hx hn
    have : x ≠ b := by rintro rfl; rw [hb] at hn; cases hn
    simpa [HHeap.get_set, this] using hn

/-- A store. -/
theorem Rel.store {B : Nat} {μ : Mu} {H : HHeap} {w : World} (h : Rel B μ H w) {b : Nat} {cs : List Value} (hb : H.get b = some (.cells cs true)) {p : Place} (hp : μ b = some p)
    (o : Nat) (vs vs' : List Value) (hv : VRels μ vs vs') (h1 : ∀ v ∈ vs, v.oneCell' = true) (ho : o + vs.length ≤ cs.length) :
    Step B μ H w μ (H.set b (.cells (splice cs o vs) true)) (putCells w p.g (p.d + o) vs') := by
  obtain ⟨q, hq, hl, hc, hw, hr⟩ := h.cells b cs true hb
  rw [hp] at hq; cases hq
  refine h.put hb hp o vs vs' hv h1 _ (by omega) (by rw [splice_length]; exact hl) (fun i v hi hio => ?_) (fun j v hj hi => ?_)
  · rwa [splice_other _ _ _ hio] at hi
  · rw [splice_same vs cs o ho j _ (List.getElem?_eq_getElem hj)] at hi
    rw [List.getElem?_eq_getElem hj]; exact hi

/-- The run of a store into the real block. -/
theorem Rel.run_store {B : Nat} {μ : Mu} {H : HHeap} {w : World} (h : Rel B μ H w) (P : Program) {b : Nat} {cs : List Value} (hb : H.get b = some (.cells cs true)) {p : Place} (hp : μ b = some p)
    (o : Nat) (vs vs' : List Value) (hv : VRels μ vs vs') (h1 : ∀ v ∈ vs, v.oneCell' = true) (ho : o + vs.length ≤ p.ext) :
    (storeCells ⟨p.g, p.d + o, none⟩ vs').run P w = .ok () (putCells w p.g (p.d + o) vs') := by
  obtain ⟨q, hq, hl, hc, hw, hr⟩ := h.cells b cs true hb
  rw [hp] at hq; cases hq
  have hw' := (hw rfl).2
  have := run_storeCells_put P (g := p.g) vs' w (p.d + o) 0 (fun j hj => by
    have := hw' (o + j) (by have := hv.length; omega)
    rwa [show p.d + (o + j) = p.d + o + 0 + j by omega] at this) (fun v' hv' => by
      obtain ⟨i, hi⟩ := List.getElem?_of_mem hv'
      obtain ⟨v, hvi, hrel⟩ := hv.get' i v' hi
      rw [hrel.oneCell]; exact h1 v (List.mem_of_getElem? hvi))
  simpa using this

/-- A block is called otherwise: from some cell on, with other cells that are known. -/
theorem Rel.rename {B : Nat} {μ : Mu} {H : HHeap} {w : World} (h : Rel B μ H w) {b : Nat} {cs : List Value} (hb : H.get b = some (.cells cs true)) {p : Place} (hp : μ b = some p)
    (o : Nat) (cs2 : List Value) (hlen : cs2.length ≤ p.ext - o) (hc2 : ∀ (i : Nat) (v : Value), cs2[i]? = some v → v.oneCell' = true ∧ ∃ v', w.cell? ⟨p.g, p.d + o + i, none⟩ = some v' ∧ VRel μ v v') :
    Step B μ H w (μ.add H.next ⟨p.g, p.d + o, p.ext - o⟩) ((H.kill b).push (.cells cs2 true)) w := by
  have hsub : Sub μ (μ.add H.next ⟨p.g, p.d + o, p.ext - o⟩) := Mu.sub_add h.fresh
  obtain ⟨q, hq, hl, hc, hw, hr⟩ := h.cells b cs true hb
  rw [hp] at hq; cases hq
  have hblt := h.bound b p hp
  have mu_old : ∀ x q, x ≠ H.next → (μ.add H.next ⟨p.g, p.d + o, p.ext - o⟩) x = some q → μ x = some q := fun x q hn hp => by simpa [Mu.add, hn] using hp
  have get_old : ∀ x y, x ≠ H.next → ((H.kill b).push (.cells cs2 true)).get x = some y → x ≠ b ∧ H.get x = some y := fun x y hn e => by
    simpa [HHeap.get_push, hn, HHeap.get_kill] using e
  refine ⟨hsub, ⟨h.hB, ?_, ?_, ?_, ?_, ?_⟩, rfl, rfl, rfl, Nat.le_refl _, fun _ _ _ => rfl, ?_, by simp, ?_, ?_⟩
  · intro x q hx
    by_cases hxn : x = H.next
    · subst hxn; simp
    · have := h.bound x q (mu_old x q hxn hx); simp; omega
  · intro x q hx
    by_cases hxn : x = H.next
    · subst hxn; simp [Mu.add] at hx; subst hx; exact h.real b p hp
    · exact h.real x q (mu_old x q hxn hx)
  · intro x cs' rw' hg
    by_cases hxn : x = H.next
    · subst hxn
      simp [HHeap.get_push] at hg
      obtain ⟨rfl, rfl⟩ := hg
      refine ⟨⟨p.g, p.d + o, p.ext - o⟩, by simp [Mu.add], hlen, fun i v hi => ?_, fun _ => ⟨(hw rfl).1, fun i hi => ?_⟩, by simp⟩
      · obtain ⟨a1, v', a2, a3⟩ := hc2 i v hi
        exact ⟨a1, v', a2, a3.mono hsub⟩
      · have := (hw rfl).2 (o + i) (by simp at hi; omega)
        simpa [Nat.add_assoc] using this
    · obtain ⟨_, hg'⟩ := get_old _ _ hxn hg
      obtain ⟨q, hq, hl', hc', hw', hr'⟩ := h.cells x cs' rw' hg'
      exact ⟨q, hsub _ _ hq, hl', fun i v hi => let ⟨a1, v', a2, a3⟩ := hc' i v hi; ⟨a1, v', a2, a3.mono hsub⟩, hw', hr'⟩
  · intro x es hg
    have hxn : x ≠ H.next := by rintro rfl; simp [HHeap.get_push] at hg
    obtain ⟨_, hg'⟩ := get_old _ _ hxn hg
    obtain ⟨q, clock, es', hq, hB, hh, he⟩ := h.maps x es hg'
    exact ⟨q, clock, es', hsub _ _ hq, hB, hh, he.mono hsub⟩
  · intro x x' y y' q q' hne hg hg' hy hy' hq hq'
    by_cases hxn : x = H.next
    · have hxn' : x' ≠ H.next := fun e => hne (hxn.trans e.symm)
      obtain ⟨hxb', hg2⟩ := get_old _ _ hxn' hg'
      subst hxn; simp [Mu.add] at hq; subst hq
      exact h.apart b x' _ _ p q' (fun e => hxb' e.symm) hb hg2 rfl hy' hp (mu_old _ _ hxn' hq')
    · obtain ⟨hxb, hg1⟩ := get_old _ _ hxn hg
      by_cases hxn' : x' = H.next
      · subst hxn'; simp [Mu.add] at hq'; subst hq'
        exact h.apart x b _ _ q p hxb hg1 hb hy rfl (mu_old _ _ hxn hq) hp
      · obtain ⟨_, hg2⟩ := get_old _ _ hxn' hg'
        exact h.apart x x' _ _ q q' hne hg1 hg2 hy hy' (mu_old _ _ hxn hq) (mu_old _ _ hxn' hq')
  · rintro g ⟨x, y, q, hx, hy, hq, rfl⟩
    by_cases hxn : x = H.next
    · subst hxn; simp [Mu.add] at hq; subst hq
      exact .inl ⟨b, _, p, hb, rfl, hp, rfl⟩
    · exact .inl ⟨x, y, q, (get_old _ _ hxn hx).2, hy, mu_old _ _ hxn hq, rfl⟩
  · intro x hx hn
    have : x ≠ H.next := by omega
    simp [HHeap.get_push, this, HHeap.get_kill, hn]
  · intro x hx
    have : x ≠ H.next := by omega
    simp [Mu.add, this]

/-- A slice that may be larger than is known is grown: its old block is gone, a new name stands for what there is now; first where the array bears it. -/
theorem Rel.growIn {B : Nat} {μ : Mu} {H : HHeap} {w : World} (h : Rel B μ H w) {b : Nat} {cs : List Value} (hb : H.get b = some (.cells cs true)) {p : Place} (hp : μ b = some p)
    (o n : Nat) (vs vs' : List Value) (hv : VRels μ vs vs') (h1 : ∀ v ∈ vs, v.oneCell' = true) (hn : n = 0 ∨ o + n ≤ cs.length) (ho : o + n + vs.length ≤ p.ext) :
    Step B μ H w (μ.add H.next ⟨p.g, p.d + o, p.ext - o⟩) ((H.kill b).push (.cells ((cs.drop o).take n ++ vs) true)) (putCells w p.g (p.d + (o + n)) vs') := by
  obtain ⟨q, hq, hl, hc, hw, hr⟩ := h.cells b cs true hb
  rw [hp] at hq; cases hq
  have hlen' := hv.length
  have holdlen : ((cs.drop o).take n).length = n := by
    rcases hn with rfl | hn
    · simp
    · simp; omega
  have there : ∀ j, j < vs'.length → ∃ u, w.cell? ⟨p.g, p.d + (o + n) + j, none⟩ = some u := fun j hj => by
    have := ((hw rfl).2 (o + n + j) (by omega)).1; rwa [show p.d + (o + n + j) = p.d + (o + n) + j by omega] at this
  have hold : ∀ (i : Nat) (v : Value), ((cs.drop o).take n ++ vs)[i]? = some v → v.oneCell' = true ∧ ∃ v', (putCells w p.g (p.d + (o + n)) vs').cell? ⟨p.g, p.d + o + i, none⟩ = some v' ∧ VRel μ v v' := fun i v hi => by
    by_cases hin : i < n
    · rw [List.getElem?_append_left (by omega), List.getElem?_take, if_pos hin, List.getElem?_drop] at hi
      obtain ⟨a1, v', a2, a3⟩ := hc _ v hi
      refine ⟨a1, v', ?_, a3⟩
      rw [putCells_other _ _ _ (fun j hj => by simp <;> omega), show p.d + o + i = p.d + (o + i) by omega]
      exact a2
    · rw [List.getElem?_append_right (by omega), holdlen] at hi
      obtain ⟨v', hv', hrel⟩ := hv.get _ v hi
      refine ⟨h1 v (List.mem_of_getElem? hi), v', ?_, hrel⟩
      have := putCells_same vs' w _ there _ v' hv'
      rwa [show p.d + (o + n) + (i - n) = p.d + o + i by omega] at this
  have s1 := h.put hb hp (o + n) vs vs' hv h1 [] (by omega) (by simp) (fun i v hi => by simp at hi) (fun j v hj hi => by simp at hi)
  have s2 := s1.rel.rename (b := b) (cs := []) (by simp [HHeap.get_set]) hp o ((cs.drop o).take n ++ vs) (by rw [List.length_append, holdlen]; omega) hold
  have he : ((H.set b (.cells [] true)).kill b).push (.cells ((cs.drop o).take n ++ vs) true) = (H.kill b).push (.cells ((cs.drop o).take n ++ vs) true) := by
    unfold HHeap.push HHeap.kill HHeap.set
    congr 1
    funext x
    by_cases hx : x = b <;> simp [hx]
  have s3 := s1.trans s2
  rw [he] at s3
  exact s3

/-- A map is written. -/
theorem Rel.setMap {B : Nat} {μ : Mu} {H : HHeap} {w : World} (h : Rel B μ H w) {b : Nat} {es : List (Value × Value)} (hb : H.get b = some (.map es)) {p : Place} (hp : μ b = some p)
    (es2 : List (Value × Value)) (es2' : Array MapEntry) (clock : Nat) (he : ERels μ es2 es2'.toList) :
    Step B μ H w μ (H.set b (.map es2)) { w with heap := w.heap.setIfInBounds p.g (.map es2' clock) } := by
  obtain ⟨q, clock0, es', hq, hB, hh, he0⟩ := h.maps b es hb
  rw [hp] at hq; cases hq
  have hlt := h.real b p hp
  have hcell : ∀ a : Addr, a.block ≠ p.g → ({ w with heap := w.heap.setIfInBounds p.g (.map es2' clock) } : World).cell? a = w.cell? a ∧ ({ w with heap := w.heap.setIfInBounds p.g (.map es2' clock) } : World).frozen? a = w.frozen? a := by
    intro a hne
    unfold World.cell? World.frozen?
    simp only [Array.getElem?_setIfInBounds_ne (Ne.symm hne), and_self]
  have getw : ∀ x y, (H.set b (.map es2)).get x = some y → y.wr = true → ∃ z, H.get x = some z ∧ z.wr = true := fun x y hx hy => by
    by_cases hxb : x = b
    · subst hxb; exact ⟨_, hb, rfl⟩
    · exact ⟨y, by simpa [HHeap.get_set, hxb] using hx, hy⟩
  refine ⟨Sub.refl μ, ⟨by simpa using h.hB, h.bound, fun x q hx => by simpa using h.real x q hx, ?_, ?_, ?_⟩, rfl, rfl, rfl, by simp, ?_, ?_, Nat.le_refl _, ?_, fun _ _ => rfl⟩
  · intro x cs rw' hg
    have hxb : x ≠ b := by rintro rfl; simp [HHeap.get_set] at hg
    have hg' : H.get x = some (.cells cs rw') := by simpa [HHeap.get_set, hxb] using hg
    obtain ⟨q, hq, hl, hc, hw, hr⟩ := h.cells x cs rw' hg'
    have hne : q.g ≠ p.g := by
      cases rw' with
      | true => exact h.apart x b _ _ q p hxb hg' hb rfl rfl hq hp
      | false => have := hr rfl; omega
    refine ⟨q, hq, hl, fun i v hi => ?_, fun hrw => ⟨(hw hrw).1, fun i hi => ?_⟩, hr⟩
    · obtain ⟨a1, v', a2, a3⟩ := hc i v hi
      exact ⟨a1, v', by rw [(hcell ⟨q.g, q.d + i, none⟩ hne).1]; exact a2, a3⟩
    · have := (hw hrw).2 i hi
      rw [(hcell ⟨q.g, q.d + i, none⟩ hne).1, (hcell ⟨q.g, q.d + i, none⟩ hne).2]; exact this
  · intro x es1 hg
    by_cases hxb : x = b
    · subst hxb
      simp [HHeap.get_set] at hg; subst hg
      exact ⟨p, clock, es2', hp, hB, by simp [hlt], he⟩
    · have hg' : H.get x = some (.map es1) := by simpa [HHeap.get_set, hxb] using hg
      obtain ⟨q, clock1, es1', hq, hB1, hh1, he1⟩ := h.maps x es1 hg'
      have hne := h.apart b x _ _ p q (Ne.symm hxb) hb hg' rfl rfl hp hq
      exact ⟨q, clock1, es1', hq, hB1, by simp only [Array.getElem?_setIfInBounds_ne hne]; exact hh1, he1⟩
  · intro c c' x x' q q' hne hg hg' hx hx' hq hq'
    obtain ⟨z, k1, k2⟩ := getw _ _ hg hx
    obtain ⟨z', k1', k2'⟩ := getw _ _ hg' hx'
    exact h.apart c c' z z' q q' hne k1 k1' k2 k2' hq hq'
  · intro g _ ho
    have : p.g ≠ g := fun e => ho ⟨b, _, p, hb, rfl, hp, e⟩
    simp only [Array.getElem?_setIfInBounds_ne this]
  · rintro g ⟨x, y, q, hx, hy, hq, rfl⟩
    obtain ⟨z, k1, k2⟩ := getw _ _ hx hy
    exact .inl ⟨x, z, q, k1, k2, hq, rfl⟩
  · intro x hx hn
    have : x ≠ b := by rintro rfl; rw [hb] at hn; cases hn
    simpa [HHeap.get_set, this] using hn

end Go.HL
