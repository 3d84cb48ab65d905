/-
  Joined: M13, M14, M15.
-/
import Derived.Test.YtaghhialaplgoaaGreatDoorPFM9b
set_option linter.unusedVariables false
set_option linter.unusedSimpArgs false
/-
  Words that are pointed to: read, and written, one by one.
-/
namespace Go.HL
open Go.RowKit Go.Proofs
set_option linter.unusedSimpArgs false
set_option linter.unusedVariables false
def rPt : Rp (Nat × Nat) := rOne fun x => ptr x.1 x.2
/-- There is a word. -/
def PtA (H : HHeap) (x : Nat × Nat) (w : Nat) : Prop := ∃ cs, H.get x.1 = some (.cells cs true) ∧ cs[x.2]? = some (U w)
inductive PtW (H : HHeap) : List (Nat × Nat) → List Nat → Prop where
  | nil : PtW H [] []
  | cons {x : Nat × Nat} {w : Nat} {xs : List (Nat × Nat)} {ws : List Nat} (h : PtA H x w) (t : PtW H xs ws) : PtW H (x :: xs) (w :: ws)
theorem PtW.append {H : HHeap} {xs ys : List (Nat × Nat)} {ws us : List Nat} (h : PtW H xs ws) (k : PtW H ys us) : PtW H (xs ++ ys) (ws ++ us) := by
  induction h with
  | nil => exact k
  | cons h t ih => exact .cons h ih
theorem PtW.len {H : HHeap} {xs : List (Nat × Nat)} {ws : List Nat} (h : PtW H xs ws) : xs.length = ws.length := by
  induction h with
  | nil => rfl
  | cons h t ih => simp [ih]
theorem PtW.at {H : HHeap} {xs : List (Nat × Nat)} {ws : List Nat} (h : PtW H xs ws) : ∀ {i : Nat} {x : Nat × Nat}, xs[i]? = some x → ∃ w, ws[i]? = some w ∧ PtA H x w := by
  induction h with
  | nil => intro i x hx; simp at hx
  | @cons x w xs ws h t ih =>
    intro i y hy
    cases i with
    | zero => simp at hy; subst hy; exact ⟨w, rfl, h⟩
    | succ i => exact ih (by simpa using hy)
theorem PtW.mono {H H' : HHeap} {xs : List (Nat × Nat)} {ws : List Nat} (h : PtW H xs ws) (k : ∀ x ∈ xs, H'.get x.1 = H.get x.1) : PtW H' xs ws := by
  induction h with
  | nil => exact .nil
  | @cons x w xs ws h t ih =>
    obtain ⟨cs, h1, h2⟩ := h
    exact .cons ⟨cs, by rw [k x (by simp)]; exact h1, h2⟩ (ih fun y hy => k y (by simp [hy]))
/-- A word is written. -/
def wr1 (H : HHeap) (x : Nat × Nat) (w : Nat) : HHeap := match H.get x.1 with | some (.cells cs _) => H.set x.1 (.cells (cs.set x.2 (U w)) true) | _ => H
theorem wr1_cells {H : HHeap} {x : Nat × Nat} {w : Nat} {cs : List Value} {rw : Bool} (h : H.get x.1 = some (.cells cs rw)) : wr1 H x w = H.set x.1 (.cells (cs.set x.2 (U w)) true) := by unfold wr1; rw [h]
def wrs : HHeap → List (Nat × Nat) → List Nat → HHeap
  | H, x :: xs, w :: ws => wrs (wr1 H x w) xs ws
  | H, _, _ => H
theorem wrs_nil (H : HHeap) (ws : List Nat) : wrs H [] ws = H := by cases ws <;> rfl
theorem wrs_nil' (H : HHeap) (xs : List (Nat × Nat)) : wrs H xs [] = H := by cases xs <;> rfl
theorem wrs_append : ∀ (xs ys : List (Nat × Nat)) (ws us : List Nat) (H : HHeap), xs.length = ws.length → wrs H (xs ++ ys) (ws ++ us) = wrs (wrs H xs ws) ys us
  | [], ys, [], us, H, _ => rfl
  | x :: xs, ys, w :: ws, us, H, h => wrs_append xs ys ws us (wr1 H x w) (by simpa using h)
  | [], _, _ :: _, _, _, h => by simp at h
  | _ :: _, _, [], _, _, h => by simp at h
theorem wr1_next (H : HHeap) (x : Nat × Nat) (w : Nat) : (wr1 H x w).next = H.next := by unfold wr1; split <;> rfl
theorem wrs_next : ∀ (xs : List (Nat × Nat)) (ws : List Nat) (H : HHeap), (wrs H xs ws).next = H.next
  | [], _, _ => by rw [wrs_nil]
  | _ :: _, [], _ => by rw [wrs_nil']
  | x :: xs, w :: ws, H => by rw [wrs, wrs_next xs ws, wr1_next]
theorem wr1_other {H : HHeap} {x : Nat × Nat} {w b : Nat} (h : b ≠ x.1) : (wr1 H x w).get b = H.get b := by
  unfold wr1
  split
  · exact get_set_ne _ _ _ h
  · rfl
theorem wrs_other : ∀ (xs : List (Nat × Nat)) (ws : List Nat) (H : HHeap) (b : Nat), (∀ x ∈ xs, b ≠ x.1) → (wrs H xs ws).get b = H.get b
  | [], _, _, _, _ => by rw [wrs_nil]
  | _ :: _, [], _, _, _ => by rw [wrs_nil']
  | x :: xs, w :: ws, H, b, h => by rw [wrs, wrs_other xs ws _ _ fun y hy => h y (by simp [hy]), wr1_other (h x (by simp))]
/-- Cells stay cells. -/
def CellsOf (H : HHeap) (b n : Nat) : Prop := ∃ cs, H.get b = some (.cells cs true) ∧ cs.length = n
theorem wr1_cellsOf {H : HHeap} {x : Nat × Nat} {w b n : Nat} (h : CellsOf H b n) : CellsOf (wr1 H x w) b n := by
  obtain ⟨cs, h1, h2⟩ := h
  by_cases e : b = x.1
  · subst e
    rw [wr1_cells h1]
    exact ⟨_, get_set_same _ _, by simpa using h2⟩
  · exact ⟨cs, by rw [wr1_other e]; exact h1, h2⟩
theorem wrs_cellsOf : ∀ (xs : List (Nat × Nat)) (ws : List Nat) {H : HHeap} {b n : Nat}, CellsOf H b n → CellsOf (wrs H xs ws) b n
  | [], _, _, _, _, h => by rw [wrs_nil]; exact h
  | _ :: _, [], _, _, _, h => by rw [wrs_nil']; exact h
  | x :: xs, w :: ws, _, _, _, h => by rw [wrs]; exact wrs_cellsOf xs ws (wr1_cellsOf h)
/-- What was written is there. -/
theorem wrs_ptw : ∀ (xs : List (Nat × Nat)) (ws : List Nat) (H : HHeap), xs.Nodup → xs.length = ws.length → (∀ x ∈ xs, ∃ n, CellsOf H x.1 n ∧ x.2 < n) → PtW (wrs H xs ws) xs ws
  | [], [], H, _, _, _ => .nil
  | [], _ :: _, _, _, h, _ => by simp at h
  | _ :: _, [], _, _, h, _ => by simp at h
  | x :: xs, w :: ws, H, hn, hl, hc => by
    rw [wrs]
    refine .cons ?_ (wrs_ptw xs ws _ (List.nodup_cons.1 hn).2 (by simpa using hl) fun y hy => ?_)
    · have h1 : PtA (wr1 H x w) x w := by
        obtain ⟨n, ⟨cs, c1, c2⟩, c3⟩ := hc x (by simp)
        rw [wr1_cells c1]
        exact ⟨_, get_set_same _ _, by rw [List.getElem?_set_self (by omega)]⟩
      have : ∀ (ys : List (Nat × Nat)) (us : List Nat) (K : HHeap), x ∉ ys → PtA K x w → PtA (wrs K ys us) x w := by
        intro ys
        induction ys with
        | nil => intro us K _ h; rw [wrs_nil]; exact h
        | cons y ys ih =>
          intro us K hx h
          cases us with
          | nil => rw [wrs_nil']; exact h
          | cons u us =>
            rw [wrs]
            refine ih us _ (fun h => hx (by simp [h])) ?_
            obtain ⟨cs, c1, c2⟩ := h
            by_cases e : x.1 = y.1
            · have e2 : y.2 ≠ x.2 := fun e2 => hx (by rw [show x = y from Prod.ext e e2.symm]; simp)
              rw [wr1_cells (e ▸ c1)]
              exact ⟨_, by rw [e]; exact get_set_same _ _, by rw [List.getElem?_set_ne e2]; exact c2⟩
            · exact ⟨cs, by rw [wr1_other e]; exact c1, c2⟩
      exact this xs ws _ (List.nodup_cons.1 hn).1 h1
    · obtain ⟨n, c1, c2⟩ := hc y (by simp [hy])
      exact ⟨n, wr1_cellsOf c1, c2⟩
/-- Words of a row. -/
def ptsA (b : Nat) : Nat → Nat → List (Nat × Nat)
  | _, 0 => []
  | i, n + 1 => (b, i) :: ptsA b (i + 1) n
def ptsS (b : Nat) : Nat → List (Nat × Bool) → List (Nat × Nat)
  | _, [] => []
  | i, x :: l => if x.2 then (b, 2 * i) :: ptsS b (i + 1) l else ptsS b (i + 1) l
theorem ptsA_snoc (b : Nat) : ∀ (n i : Nat), ptsA b i (n + 1) = ptsA b i n ++ [(b, i + n)]
  | 0, i => rfl
  | n + 1, i => by
    rw [ptsA, ptsA_snoc b n (i + 1), ptsA, show i + 1 + n = i + (n + 1) by omega]; rfl
theorem ptsS_append (b : Nat) : ∀ (l k : List (Nat × Bool)) (i : Nat), ptsS b i (l ++ k) = ptsS b i l ++ ptsS b (i + l.length) k
  | [], k, i => rfl
  | x :: l, k, i => by
    rw [List.cons_append, ptsS, ptsS, ptsS_append b l k (i + 1), List.length_cons, show i + 1 + l.length = i + (l.length + 1) by omega]
    split <;> simp
theorem ptsA_blk (b : Nat) : ∀ (n i : Nat), ∀ x ∈ ptsA b i n, x.1 = b
  | 0, _, x, h => by simp [ptsA] at h
  | n + 1, i, x, h => by
    rw [ptsA] at h
    rcases List.mem_cons.1 h with rfl | h
    · rfl
    · exact ptsA_blk b n (i + 1) x h
theorem ptsS_blk (b : Nat) : ∀ (l : List (Nat × Bool)) (i : Nat), ∀ x ∈ ptsS b i l, x.1 = b
  | [], _, x, h => by simp [ptsS] at h
  | y :: l, i, x, h => by
    rw [ptsS] at h
    split at h
    · rcases List.mem_cons.1 h with rfl | h
      · rfl
      · exact ptsS_blk b l (i + 1) x h
    · exact ptsS_blk b l (i + 1) x h
theorem ptsA_len (b : Nat) : ∀ (n i : Nat), (ptsA b i n).length = n
  | 0, _ => rfl
  | n + 1, i => by rw [ptsA, List.length_cons, ptsA_len b n]
theorem ptsS_len (b : Nat) : ∀ (l : List (Nat × Bool)) (i : Nat), (ptsS b i l).length = (usedW l).length
  | [], _ => rfl
  | x :: l, i => by
    have := ptsS_len b l (i + 1)
    rw [ptsS]
    unfold usedW at this ⊢
    cases h : x.2 <;> simp [h, this]
theorem scells_cons (x : Nat × Bool) (l : List (Nat × Bool)) : scells (x :: l) = [U x.1, .bool x.2] ++ scells l := by unfold scells; rfl
theorem scells_append (l k : List (Nat × Bool)) : scells (l ++ k) = scells l ++ scells k := by unfold scells; rw [List.flatMap_append]
theorem scells_len : ∀ (l : List (Nat × Bool)), (scells l).length = 2 * l.length
  | [] => rfl
  | x :: l => by rw [scells_cons, List.length_append, scells_len l, List.length_cons]; simp; omega
theorem wrs_A (b : Nat) : ∀ (l l' pre : List Nat) (H : HHeap), l'.length = l.length → H.get b = some (.cells ((pre ++ l).map U) true) →
    wrs H (ptsA b pre.length l.length) l' = H.set b (.cells ((pre ++ l').map U) true)
  | [], [], pre, H, _, hg => by rw [List.length_nil, ptsA, wrs_nil, set_eq_self hg]
  | [], _ :: _, _, _, h, _ => by simp at h
  | _ :: _, [], _, _, h, _ => by simp at h
  | x :: l, y :: l', pre, H, h, hg => by
    rw [List.length_cons, ptsA, wrs, wr1_cells hg]
    have e : ((pre ++ x :: l).map U).set pre.length (U y) = ((pre ++ [y]) ++ l).map U := by simp
    show wrs (H.set b (.cells (((pre ++ x :: l).map U).set pre.length (U y)) true)) _ _ = _
    rw [e]
    have := wrs_A b l l' (pre ++ [y]) (H.set b (.cells (((pre ++ [y]) ++ l).map U) true)) (by simpa using h) (get_set_same _ _)
    rw [List.length_append, List.length_singleton] at this
    rw [this, set_set]; simp
theorem wrs_S (b : Nat) (g : Nat → Nat) : ∀ (l pre : List (Nat × Bool)) (H : HHeap), H.get b = some (.cells (scells (pre ++ l)) true) →
    wrs H (ptsS b pre.length l) ((usedW l).map g) = H.set b (.cells (scells (pre ++ mapW g l)) true)
  | [], pre, H, hg => by
    show wrs H [] [] = _
    rw [wrs_nil]
    rw [List.append_nil] at hg
    show H = H.set b (.cells (scells (pre ++ [])) true)
    rw [List.append_nil, set_eq_self hg]
  | x :: l, pre, H, hg => by
    obtain ⟨w, u⟩ := x
    cases u with
    | true =>
      have e1 : (usedW ((w, true) :: l)).map g = g w :: (usedW l).map g := by simp [usedW]
      have e2 : mapW g ((w, true) :: l) = (g w, true) :: mapW g l := by simp [mapW]
      rw [e1, e2, ptsS, if_pos rfl, wrs, wr1_cells hg]
      have e : (scells (pre ++ (w, true) :: l)).set (2 * pre.length) (U (g w)) = scells ((pre ++ [(g w, true)]) ++ l) := by
        rw [scells_append, scells_append, scells_append, scells_cons, List.set_append_right _ _ (by rw [scells_len]; omega), scells_len]
        simp [scells]
      show wrs (H.set b (.cells ((scells (pre ++ (w, true) :: l)).set (2 * pre.length) (U (g w))) true)) _ _ = _
      rw [e]
      have := wrs_S b g l (pre ++ [(g w, true)]) (H.set b (.cells (scells ((pre ++ [(g w, true)]) ++ l)) true)) (get_set_same _ _)
      rw [List.length_append, List.length_singleton] at this
      rw [this, set_set]; simp
    | false =>
      have e1 : (usedW ((w, false) :: l)).map g = (usedW l).map g := by simp [usedW]
      have e2 : mapW g ((w, false) :: l) = (w, false) :: mapW g l := by simp [mapW]
      rw [e1, e2, ptsS, if_neg (by simp)]
      have := wrs_S b g l (pre ++ [(w, false)]) H (by simpa using hg)
      rw [List.length_append, List.length_singleton] at this
      rw [this]; simp
end Go.HL
/-
  Walks: all words from which things are reached.
-/
namespace Go.HL
open Go.RowKit Go.Proofs
set_option maxHeartbeats 4000000
set_option maxRecDepth 100000
set_option linter.unusedSimpArgs false
set_option linter.unusedVariables false
/-- A row grows by some things, out of a fresh row of them. -/
theorem HGo_addK {α : Type} {R : Rp α} {Z : Zs} {H0 K : HHeap} {v : Value} {l ys : List α} {xs : List Value} {n by' b m : Nat} (h : Gr R Z H0 v l) (e : R.n = n) (hn : 0 < n) (hg : K.get b = some (.cells xs true)) (hO : Old H0 K) (hZ : ∀ b, Z b → b < H0.next) (hb : ∀ b ∈ sblk v, b < H0.next)
    (hy : ys ≠ []) (hm : m = ys.length) (hxl : xs.length = m * n) (hx : ∀ i y, ys[i]? = some y → R.r Z K (flatW xs 0 n i) y) (h1 : (l.length + m) * by' ≤ 1099511627776) (h2 : l.length + m ≤ 1099511627776) {next : Value → HHeap → Prop}
    (hnext : ∀ v' H', Gr R Z H' v' (l ++ ys) → (∀ b ∈ sblk v', H0.next ≤ b ∧ b < H'.next) → H0.next ≤ H'.next → (∀ b, b < H0.next → b ∉ sblk v → H'.get b = H0.get b) → next v' H') :
    HGo (hb1 (apd K n by' v) (hsource K n (.slice (some ⟨b, 0, none⟩) m m))) next := by
  subst e
  subst hm
  have hpos : 0 < ys.length := by cases ys with | nil => exact absurd rfl hy | cons y ys => simp
  have hpn : 0 < ys.length * R.n := Nat.mul_pos hpos hn
  rw [hsource_slice, hg, hsrc_cells _ _ _ _ _ (by omega) (by omega)]
  rw [show (xs.drop 0).take (ys.length * R.n) = xs by rw [List.drop_zero, List.take_of_length_le (by omega)]]
  unfold hb1
  have hK := h.old hO hZ hb
  obtain ⟨H', q1, q2, q3, q4⟩ := hK.add hn (fun b hb => by have := hZ b hb; have := hO.1; omega) (ys := ys) hy (xs := xs) hxl hx h1 h2
  simp only at q1 ⊢
  rw [q1, HGo_some]
  have := hO.1
  refine hnext _ _ q2 (fun b hb => ?_) (by omega) fun b hb hs => ?_
  · simp [sblk] at hb; omega
  · rw [q4 b (by omega) hs, hO.2 b hb]
/-- A row that grows, or one that was written out: nobody else reads its block. -/
def Rw {α : Type} (R : Rp α) (Z : Zs) (H : HHeap) (v : Value) (l : List α) : Prop :=
  Gr R Z H v l ∨ ∃ b cs rw, l ≠ [] ∧ v = .slice (some ⟨b, 0, none⟩) l.length l.length ∧ ¬ Z b ∧ H.get b = some (.cells cs rw) ∧ cs.length = l.length * R.n ∧ ∀ i x, l[i]? = some x → R.r Z H (flatW cs 0 R.n i) x
theorem Rw.len {α : Type} {R : Rp α} {Z : Zs} {H : HHeap} {v : Value} {l : List α} (h : Rw R Z H v l) : ∃ a, v = .slice a l.length l.length := by
  rcases h with h | ⟨b, cs, rw, _, h, _⟩
  · exact h.len
  · exact ⟨_, h⟩
theorem Rw.blk {α : Type} {R : Rp α} {Z : Zs} {H : HHeap} {v : Value} {l : List α} (h : Rw R Z H v l) : ∀ b ∈ sblk v, ¬ Z b ∧ ∃ o, H.get b = some o := by
  rcases h with h | ⟨b, cs, rw, _, rfl, h3, h4, _⟩
  · exact h.blk
  · intro x hx; simp [sblk] at hx; subst hx; exact ⟨h3, _, h4⟩
theorem Rw.lt {α : Type} {R : Rp α} {Z : Zs} {H : HHeap} {v : Value} {l : List α} (h : Rw R Z H v l) (ok : H.Ok) : ∀ b ∈ sblk v, b < H.next := fun b hb => by
  obtain ⟨_, o, ho⟩ := h.blk b hb
  exact ok _ _ ho
theorem HGo_addR {α : Type} {R : Rp α} {Z : Zs} {H0 K : HHeap} {v : Value} {l ys : List α} {xs : List Value} {n by' b m : Nat} (h : Rw R Z H0 v l) (e : R.n = n) (hn : 0 < n) (hg : K.get b = some (.cells xs true)) (hO : Old H0 K) (hZ : ∀ b, Z b → b < H0.next) (hb : ∀ b ∈ sblk v, b < H0.next)
    (hy : ys ≠ []) (hm : m = ys.length) (hxl : xs.length = m * n) (hx : ∀ i y, ys[i]? = some y → R.r Z K (flatW xs 0 n i) y) (h1 : (l.length + m) * by' ≤ 1099511627776) (h2 : l.length + m ≤ 1099511627776) {next : Value → HHeap → Prop}
    (hnext : ∀ v' H', Gr R Z H' v' (l ++ ys) → (∀ b ∈ sblk v', H0.next ≤ b ∧ b < H'.next) → H0.next ≤ H'.next → (∀ b, b < H0.next → b ∉ sblk v → H'.get b = H0.get b) → next v' H') :
    HGo (hb1 (apd K n by' v) (hsource K n (.slice (some ⟨b, 0, none⟩) m m))) next := by
  rcases h with h | ⟨c, cs, rw, hl, rfl, hz, hgc, hcl, hcr⟩
  · exact HGo_addK h e hn hg hO hZ hb hy hm hxl hx h1 h2 hnext
  · subst e
    subst hm
    have hpos : 0 < ys.length := by cases ys with | nil => exact absurd rfl hy | cons y ys => simp
    have hpn : 0 < ys.length * R.n := Nat.mul_pos hpos hn
    have hcn := hb c (by simp [sblk])
    rw [hsource_slice, hg, hsrc_cells _ _ _ _ _ (by omega) (by omega)]
    rw [show (xs.drop 0).take (ys.length * R.n) = xs by rw [List.drop_zero, List.take_of_length_le (by omega)]]
    unfold hb1
    simp only
    rw [apd_some _ _ _ _ _ _ _ _ _ hpos h1 h2, hO.2 c hcn, hgc]
    unfold apo
    simp only
    rw [if_neg (by omega), if_pos (.inl (by omega)), HGo_some]
    rw [show (cs.drop 0).take (l.length * R.n) = cs by rw [List.drop_zero, List.take_of_length_le (by omega)]]
    have hn1 := hO.1
    have hOK := hO.trans (Old.push K (.cells (cs ++ xs) true))
    have hx2 := HHeap.push_next K (.cells (cs ++ xs) true)
    refine hnext _ _ (.inr (.inr ⟨K.next, cs ++ xs, by simp [hy], by rw [List.length_append], fun hz => by have := hZ _ hz; omega, get_push_same _, by rw [List.length_append, List.length_append, hcl, hxl, Nat.add_mul], fun i x hix => ?_⟩)) (fun b' hb' => ?_) (by omega) fun b' hb' hs => hOK.2 b' hb'
    · by_cases hi : i < l.length
      · rw [List.getElem?_append_left hi] at hix
        rw [flatW_left (by rw [hcl]; exact Nat.mul_le_mul_right _ hi)]
        exact R.ext (hcr i x hix) (hOK.keep hZ)
      · rw [List.getElem?_append_right (by omega)] at hix
        obtain ⟨j, rfl⟩ : ∃ j, i = l.length + j := ⟨i - l.length, by omega⟩
        rw [flatW_right hcl]
        rw [Nat.add_sub_cancel_left] at hix
        exact R.ext (hx j x hix) ((Old.push K _).keep fun b hb => by have := hZ b hb; omega)
    · simp [sblk] at hb'; omega
def blkV : Value → Nat
  | .slice (some a) _ _ => a.block
  | _ => 0
def mpts (p : Nat) (vn vk va : Value) (M : MS) : List (Nat × Nat) := [(p, 7), (p, 8), (p, 9), (p, 10)] ++ ptsA (blkV va) 0 M.ask.length ++ ptsS (blkV vn) 0 M.nm ++ ptsS (blkV vk) 0 M.kp
theorem Gr.cellsS {Z : Zs} {H : HHeap} {b : Nat} {cs : List Value} {l : List (Nat × Bool)} (h1 : cs.length = l.length * 2) (h2 : ∀ i x, l[i]? = some x → rSlot.r Z H (flatW cs 0 2 i) x) : cs = scells l := by
  have e0 : ∀ i x, l[i]? = some x → cs[i * 2]? = some (U x.1) ∧ cs[i * 2 + 1]? = some (.bool x.2) := by
    intro i x hx
    obtain ⟨e, _⟩ := h2 i x hx
    have a0 := flatW_get (cs := cs) (o := 0) (n := 2) (i := i) (j := 0) (by omega)
    have a1 := flatW_get (cs := cs) (o := 0) (n := 2) (i := i) (j := 1) (by omega)
    rw [e, Nat.zero_add] at a0 a1
    exact ⟨a0.symm, a1.symm⟩
  clear h2
  induction l generalizing cs with
  | nil => simp at h1; subst h1; rfl
  | cons x l ih =>
    match cs, h1 with
    | c0 :: c1 :: cs, h1 =>
      have := e0 0 x rfl
      simp at this
      rw [scells_cons, this.1, this.2]
      have := ih (cs := cs) (by simp at h1; omega) fun i y hy => by
        have := e0 (i + 1) y hy
        rw [show (i + 1) * 2 = i * 2 + 2 by omega, show i * 2 + 2 + 1 = i * 2 + 1 + 2 by omega] at this
        simpa using this
      rw [this]; rfl
    | [], h1 => simp at h1
    | [c], h1 => simp at h1; omega
/-- A slot of a row. -/
theorem scells_at : ∀ {l : List (Nat × Bool)} {i : Nat} {x : Nat × Bool}, l[i]? = some x → (scells l)[2 * i]? = some (U x.1) ∧ (scells l)[2 * i + 1]? = some (.bool x.2)
  | [], _, _, h => by simp at h
  | y :: l, 0, x, h => by simp at h; subst h; exact ⟨rfl, rfl⟩
  | y :: l, i + 1, x, h => by
    have := scells_at (l := l) (i := i) (x := x) (by simpa using h)
    rw [scells_cons, show 2 * (i + 1) = 2 * i + 2 by omega, show 2 * i + 2 + 1 = 2 * i + 1 + 2 by omega]
    simpa using this
/-- Slots in a heap. -/
def SlAt (H : HHeap) (v : Value) (l : List (Nat × Bool)) : Prop := ∃ a, v = .slice a l.length l.length ∧ (l = [] ∨ ∃ b k, a = some ⟨b, 0, k⟩ ∧ H.get b = some (.cells (scells l) true))
theorem NmAt.slots {H : HHeap} {v : Value} {l : List (Nat × Bool)} (h : NmAt H v l) : SlAt H v l := by
  obtain ⟨b, rfl, hg⟩ := h
  exact ⟨_, rfl, .inr ⟨b, none, rfl, hg⟩⟩
theorem Gr.slots {Z : Zs} {H : HHeap} {v : Value} {l : List (Nat × Bool)} (h : Gr rSlot Z H v l) : SlAt H v l := by
  rcases h with ⟨rfl, rfl⟩ | ⟨b, cs, rw, rfl, rfl, h3, h4⟩ | ⟨b, cs, h1, rfl, h3, h4, h5, h6⟩
  · exact ⟨_, rfl, .inl rfl⟩
  · exact ⟨_, rfl, .inl rfl⟩
  · have := Gr.cellsS (b := b) h5 h6
    subst this
    exact ⟨_, rfl, .inr ⟨b, _, rfl, h4⟩⟩
section
variable {Z : Zs} {H : HHeap} {p size : Nat} {vb : Value} {g gw gh : Nat} {vn vk va : Value} {M : MS} {B : List Bk}
theorem ptsS_take {b : Nat} {l : List (Nat × Bool)} {i : Nat} {x : Nat × Bool} (h : l[i]? = some x) : ptsS b 0 (l.take (i + 1)) = ptsS b 0 (l.take i) ++ if x.2 then [(b, 2 * i)] else [] := by
  have hi := (List.getElem?_eq_some_iff.1 h).1
  rw [List.take_add_one, h, Option.toList_some, ptsS_append]
  congr 1
  rw [List.length_take, Nat.min_eq_left (by omega), Nat.zero_add]
  simp only [ptsS]
theorem ptsS_le (b : Nat) : ∀ (l : List (Nat × Bool)) (i : Nat), (ptsS b i l).length ≤ l.length
  | [], _ => by simp [ptsS]
  | x :: l, i => by
    rw [ptsS]
    have := ptsS_le b l (i + 1)
    split <;> simp <;> omega
theorem vm_roots (hM : MIn Z H p size vb g gw gh vn vk va M) (hZ : ∀ b, Z b → b < H.next) (mv : Value) (pm : List (Nat × Nat)) (hm : Rw rPt Z H mv pm) (hpm : pm.length ≤ 1000) (dm : ∀ b ∈ sblk mv, b ≠ p ∧ b ≠ g ∧ b ≠ gw ∧ b ≠ gh ∧ b ∉ sblk vn ∧ b ∉ sblk vk ∧ b ∉ sblk va) (R : Value → HHeap → Prop)
    (hR : ∀ v H', Gr rPt Z H' v (pm ++ mpts p vn vk va M) → (∀ b ∈ sblk v, H.next ≤ b ∧ b < H'.next) → H.next ≤ H'.next → (∀ b, b < H.next → b ∉ sblk mv → H'.get b = H.get b) → R v H') :
    HCalls Tryz.prog 29 [ptr p 0, mv] H R := by
  refine HCalls.ok fun hok => ?_
  have hlt := hM.lt hok
  have hmlt := hm.lt hok
  have mOf : ∀ K : HHeap, H.next ≤ K.next → (∀ b, b < H.next → b ∉ sblk mv → K.get b = H.get b) → MIn Z K p size vb g gw gh vn vk va M := by
    intro K _ hk
    refine hM.frame (fun b hb => ⟨hb, hk b (hZ b hb) fun h => (hm.blk b h).1 hb⟩) fun b hb => ?_
    have hl : b < H.next ∧ ¬ Z b ∧ b ∉ sblk mv := by
      rcases hb with rfl | rfl | rfl | rfl | hb | hb | hb
      · exact ⟨hlt.1, hM.zp.1, fun h => (dm _ h).1 rfl⟩
      · exact ⟨hlt.2.1, hM.zp.2.1, fun h => (dm _ h).2.1 rfl⟩
      · exact ⟨hlt.2.2.1, hM.zp.2.2.1, fun h => (dm _ h).2.2.1 rfl⟩
      · exact ⟨hlt.2.2.2.1, hM.zp.2.2.2.1, fun h => (dm _ h).2.2.2.1 rfl⟩
      · exact ⟨hlt.2.2.2.2.1 b hb, hM.zp.2.2.2.2 b hb, fun h => (dm _ h).2.2.2.2.1 hb⟩
      · exact ⟨hlt.2.2.2.2.2.1 b hb, (hM.kp.blk b hb).1, fun h => (dm _ h).2.2.2.2.2.1 hb⟩
      · exact ⟨hlt.2.2.2.2.2.2 b hb, (hM.ask.blk b hb).1, fun h => (dm _ h).2.2.2.2.2.2 hb⟩
    exact ⟨hk b hl.1 hl.2.2, hl.2.1⟩
  obtain ⟨am, hmv⟩ := hm.len
  obtain ⟨aa, hva⟩ := hM.ask.len
  refine HCalls.of_hw Tryz.func29 rfl _ Tryz.ntmps29 _ (by rw [Tryz.results29]) ?_
  rw [hframe0_eq _ _ (by simp)]
  simp only [List.zipIdx_cons, List.zipIdx_nil, List.map_cons, List.map_nil, Nat.reduceAdd]
  subst hmv
  subst hva
  simp (disch := first | omega | (show allOne _ = true; simp [allOne, Value.oneCell', S]) | (simp only [qz]; first | done | omega)) only [go_sem]
  refine Hwp.drawn mixed [0, 0, 2, 6, 14, 0, 32, 96, 224, 0, 512, 1536, 3584, 0, 8192, 24576, 57344, 131070, 262143, 524287] (.op 0 (.op 1 (.op 2 (.op 3 (.op 4 (.op 5 (.op 6 (.op 7 (.op 8 (.op 9 (.op 10 (.op 11 (.op 12 (.op 13 (.op 14 (.op 15 (.op 16 (.eff 17 (.eff 18 (.op 19 .done) .stop) .stop)))))))))))))))))) (by kernel_rfl) ?_
  simp (disch := first | omega | (show allOne _ = true; simp [allOne, Value.oneCell', S]) | (simp only [qz]; first | done | omega)) only [go_sem]
  refine HGo_addR (n := 1) (by' := 8) (m := 4) (ys := [(p, 7), (p, 8), (p, 9), (p, 10)]) hm rfl (by omega) (get_push_same _) (Old.push _ _) hZ hmlt (by simp) rfl rfl ?_ (by omega) (by omega) ?_
  · intro i y hy
    match i, hy with
    | 0, hy => cases hy; rfl
    | 1, hy => cases hy; rfl
    | 2, hy => cases hy; rfl
    | 3, hy => cases hy; rfl
    | i + 4, hy => simp at hy
  intro v K g1 g2 g3 g4
  have hMK := mOf K g3 g4
  simp (disch := first | omega | (show allOne _ = true; simp [allOne, Value.oneCell', S]) | (simp only [qz]; first | done | omega)) only [go_sem, hMK.m, ldc_cells, mcells]
  have hal := hM.ok.askl
  have hnl := hM.ok.nml
  have hkl := hM.ok.kpl
  obtain ⟨pq, hpq⟩ : ∃ pq, pq = pm ++ [(p, 7), (p, 8), (p, 9), (p, 10)] := ⟨_, rfl⟩
  have hpql : pq.length ≤ 1004 := by rw [hpq, List.length_append]; simp; omega
  rw [← hpq] at g1
  have eR : pm ++ mpts p vn vk (.slice aa M.ask.length M.ask.length) M = pq ++ ptsA (blkV (.slice aa M.ask.length M.ask.length)) 0 M.ask.length ++ ptsS (blkV vn) 0 M.nm ++ ptsS (blkV vk) 0 M.kp := by
    rw [hpq]; unfold mpts; simp only [List.append_assoc]
  rw [eR] at hR
  clear eR hpq
  generalize hba : blkV (.slice aa M.ask.length M.ask.length) = ba at *
  refine Hwp.loop (fun m fr K => ∃ (i : Nat) (v : Value), m = M.ask.length - i ∧ i ≤ M.ask.length ∧ Gr rPt Z K v (pq ++ ptsA ba 0 i) ∧ (∀ b ∈ sblk v, H.next ≤ b ∧ b < K.next) ∧ H.next ≤ K.next ∧
    (∀ b, b < H.next → b ∉ sblk (.slice am pm.length pm.length) → K.get b = H.get b) ∧ FLe (hfr 81 [(34, I (i : Nat)), (33, I (M.ask.length : Nat)), (5, v), (0, ptr p 0)]) fr) M.ask.length ?_ ?_
  · exact ⟨0, v, rfl, by omega, by simpa [ptsA] using g1, g2, g3, g4, fle_of (by simp [flook])⟩
  clear hMK g1 g2 g3 g4
  clear K v
  rintro m fr K ⟨i, v, rfl, hi, g1, g2, g3, g4, hle⟩
  refine Hwp.weaken hle (HW.sound _ _ _ _ ?_)
  have hMK := mOf K g3 g4
  have hZK : ∀ b, Z b → b < K.next := fun b hb => Nat.lt_of_lt_of_le (hZ b hb) g3
  by_cases hc : i < M.ask.length
  · obtain ⟨b, cs, e, _, _, _, _⟩ := hM.ask.at (List.getElem?_eq_getElem hc)
    have e' : aa = some ⟨b, 0, some 2⟩ := by injection e
    subst e'
    have eb : ba = b := by rw [← hba]; rfl
    simp (disch := first | omega | (show allOne _ = true; simp [allOne, Value.oneCell', S]) | (simp only [qz]; first | done | omega)) only [go_sem, hMK.m, ldc_cells, mcells, ixa_ok]
    refine HGo_add1 (n := 1) (by' := 8) (x := (b, i)) g1 rfl (by omega) (get_push_same _) (Old.push _ _) hZK (fun b hm => (g2 b hm).2) ?_ ?_ ?_ ?_
    · show [_] = [_]
      simp
    · rw [List.length_append, ptsA_len]; omega
    · rw [List.length_append, ptsA_len]; omega
    intro v' K' k1 k2 k3 k4
    simp (disch := first | omega | (show allOne _ = true; simp [allOne, Value.oneCell', S]) | (simp only [qz]; first | done | omega)) only [go_sem]
    refine ⟨_, ?_, i + 1, v', rfl, by omega, ?_, fun b hm => ⟨Nat.le_trans g3 (k2 b hm).1, (k2 b hm).2⟩, Nat.le_trans g3 k3, fun b hb hs => ?_, fle_of (by simp [flook])⟩
    · omega
    · rw [ptsA_snoc, ← List.append_assoc, Nat.zero_add, eb]; rw [eb] at k1; exact k1
    · rw [k4 b (by omega) (fun hm => by have := g2 b hm; omega), g4 b hb hs]
  · have ei : i = M.ask.length := by omega
    subst ei
    have hsn := hM.nm.slots
    have hsk := hM.kp.slots
    have hnn := hsn
    have hkk := hsk
    obtain ⟨an, hvn, _⟩ := hnn
    obtain ⟨ak, hvk, _⟩ := hkk
    subst hvn
    subst hvk
    simp (disch := first | omega | (show allOne _ = true; simp [allOne, Value.oneCell', S]) | (simp only [qz]; first | done | omega)) only [go_sem]
    refine Hwp.drawn mixed [0, 1, 3, 7, 0, 16, 48, 112, 255, 511, 0] (.op 0 (.op 1 (.op 2 (.op 3 (.op 4 (.op 5 (.op 6 (.op 7 (.op 10 (.eff 8 (.op 9 .done) .stop)))))))))) (by kernel_rfl) ?_
    simp (disch := first | omega | (show allOne _ = true; simp [allOne, Value.oneCell', S]) | (simp only [qz]; first | done | omega)) only [go_sem, hMK.m, ldc_cells, mcells]
    have e7 : ∀ o, (K.push o).next = K.next + 1 := fun o => HHeap.push_next K o
    have o7 : ∀ o b, b < K.next → (K.push o).get b = K.get b := fun o b hb => get_push_ne _ _ (by omega)
    have r7 : (K.push (.cells [.slice an M.nm.length M.nm.length, .slice ak M.kp.length M.kp.length] true)).get K.next = some (.cells [.slice an M.nm.length M.nm.length, .slice ak M.kp.length M.kp.length] true) := get_push_same _
    obtain ⟨K0, hK0⟩ : ∃ K0, K0 = K.push (.cells [.slice an M.nm.length M.nm.length, .slice ak M.kp.length M.kp.length] true) := ⟨_, rfl⟩
    rw [← hK0] at r7 ⊢
    have hO7 : Old K K0 := by rw [hK0]; exact Old.push _ _
    have hx7 : K0.next = K.next + 1 := by rw [hK0]; exact e7 _
    clear e7 o7 hK0
    have g1' := g1.old hO7 hZK (fun b hm => (g2 b hm).2)
    obtain ⟨qq, hqq⟩ : ∃ qq, qq = pq ++ ptsA ba 0 M.ask.length := ⟨_, rfl⟩
    have hqql : qq.length ≤ 1001004 := by rw [hqq, List.length_append, ptsA_len]; omega
    rw [← hqq] at g1' hR
    obtain ⟨rb, hrb⟩ : ∃ rb, rb = K.next := ⟨_, rfl⟩
    rw [← hrb] at r7 ⊢
    -- the two rows
    refine Hwp.loop (fun m fr K => ∃ (j : Nat) (v : Value), m = 2 - j ∧ j ≤ 2 ∧ Gr rPt Z K v (qq ++ (if j = 0 then [] else if j = 1 then ptsS (blkV (.slice an M.nm.length M.nm.length)) 0 M.nm else ptsS (blkV (.slice an M.nm.length M.nm.length)) 0 M.nm ++ ptsS (blkV (.slice ak M.kp.length M.kp.length)) 0 M.kp)) ∧
      (∀ b ∈ sblk v, H.next ≤ b ∧ b < K.next ∧ b ≠ rb) ∧ H.next ≤ K.next ∧ rb < K.next ∧ K.get rb = some (.cells [.slice an M.nm.length M.nm.length, .slice ak M.kp.length M.kp.length] true) ∧
      (∀ b, b < H.next → b ∉ sblk (.slice am pm.length pm.length) → K.get b = H.get b) ∧ FLe (hfr 81 [(57, I (j : Nat)), (56, I (2 : Nat)), (55, .slice (some ⟨rb, 0, none⟩) 2 2), (5, v), (0, ptr p 0)]) fr) 2 ?_ ?_
    · refine ⟨0, v, rfl, by omega, by simpa using g1', fun b hm => ?_, by omega, by omega, r7, fun b hb hs => ?_, fle_of (by simp [flook])⟩
      · have := g2 b hm; omega
      · rw [hO7.2 b (by omega), g4 b hb hs]
    clear g1' g1 g2 g3 g4 hMK r7 hO7 hx7 hle hZK hi hc hrb
    clear K0 K v fr
    rintro m fr K ⟨j, v, rfl, hj, g1, g2, g3, g5, g6, g4, hle⟩
    refine Hwp.weaken hle (HW.sound _ _ _ _ ?_)
    by_cases hc : j < 2
    · obtain ⟨a, l, base, hw, hsl, hab, hll, hbase, hnext⟩ : ∃ (a : Option Addr) (l : List (Nat × Bool)) (base : List (Nat × Nat)), [Value.slice an M.nm.length M.nm.length, Value.slice ak M.kp.length M.kp.length][j]? = some (.slice a l.length l.length) ∧ SlAt H (.slice a l.length l.length) l ∧ (∀ b ∈ sblk (.slice a l.length l.length), b < H.next ∧ b ∉ sblk (.slice am pm.length pm.length)) ∧ l.length ≤ 16384 ∧
          (if j = 0 then [] else if j = 1 then ptsS (blkV (.slice an M.nm.length M.nm.length)) 0 M.nm else ptsS (blkV (.slice an M.nm.length M.nm.length)) 0 M.nm ++ ptsS (blkV (.slice ak M.kp.length M.kp.length)) 0 M.kp) = base ∧
          (if j + 1 = 0 then [] else if j + 1 = 1 then ptsS (blkV (.slice an M.nm.length M.nm.length)) 0 M.nm else ptsS (blkV (.slice an M.nm.length M.nm.length)) 0 M.nm ++ ptsS (blkV (.slice ak M.kp.length M.kp.length)) 0 M.kp) = base ++ ptsS (blkV (.slice a l.length l.length)) 0 l := by
        by_cases h0 : j = 0
        · subst h0
          exact ⟨an, M.nm, [], rfl, hsn, fun b hb => ⟨hlt.2.2.2.2.1 b hb, fun h => (dm b h).2.2.2.2.1 hb⟩, by omega, rfl, by simp⟩
        · have : j = 1 := by omega
          subst this
          exact ⟨ak, M.kp, ptsS (blkV (.slice an M.nm.length M.nm.length)) 0 M.nm, rfl, hsk, fun b hb => ⟨hlt.2.2.2.2.2.1 b hb, fun h => (dm b h).2.2.2.2.2.1 hb⟩, by omega, by simp, by simp⟩
      rw [hbase] at g1
      have hbl : base.length ≤ 4096 := by
        rw [← hbase]
        have := ptsS_le (blkV (.slice an M.nm.length M.nm.length)) M.nm 0
        by_cases h0 : j = 0
        · rw [if_pos h0]; simp
        · rw [if_neg h0, if_pos (by omega)]; omega
      simp (disch := first | omega | (show allOne _ = true; simp [allOne, Value.oneCell', S]) | (simp only [qz]; first | done | omega)) only [go_sem, g6, ixa_ok, ldc_cells, hw]
      generalize hbs : blkV (.slice a l.length l.length) = bs at *
      refine Hwp.loop (fun m fr K => ∃ (i : Nat) (v : Value), m = l.length - i ∧ i ≤ l.length ∧ Gr rPt Z K v (qq ++ base ++ ptsS bs 0 (l.take i)) ∧
        (∀ b ∈ sblk v, H.next ≤ b ∧ b < K.next ∧ b ≠ rb) ∧ H.next ≤ K.next ∧ rb < K.next ∧ K.get rb = some (.cells [.slice an M.nm.length M.nm.length, .slice ak M.kp.length M.kp.length] true) ∧
        (∀ b, b < H.next → b ∉ sblk (.slice am pm.length pm.length) → K.get b = H.get b) ∧ FLe (hfr 81 [(63, I (i : Nat)), (62, I (l.length : Nat)), (8, .slice a l.length l.length), (57, I (j : Nat)), (56, I (2 : Nat)), (55, .slice (some ⟨rb, 0, none⟩) 2 2), (5, v), (0, ptr p 0)]) fr) l.length ?_ ?_
      · exact ⟨0, v, rfl, by omega, by simpa [ptsS] using g1, g2, g3, g5, g6, g4, fle_of (by simp [flook])⟩
      clear g1 g2 g3 g5 g6 g4 hle
      clear K v fr
      rintro m fr K ⟨i, v, rfl, hi, g1, g2, g3, g5, g6, g4, hle⟩
      refine Hwp.weaken hle (HW.sound _ _ _ _ ?_)
      have hZK : ∀ b, Z b → b < K.next := fun b hb => Nat.lt_of_lt_of_le (hZ b hb) g3
      by_cases hc2 : i < l.length
      · obtain ⟨x, hx⟩ : ∃ x, l[i]? = some x := ⟨_, List.getElem?_eq_getElem hc2⟩
        obtain ⟨a', e', hsl'⟩ := hsl
        injection e' with e'
        subst e'
        rcases hsl' with rfl | ⟨b, k, rfl, hgb⟩
        · simp at hx
        have hbb := hab b (by simp [sblk])
        have hgK := g4 b hbb.1 hbb.2
        rw [hgb] at hgK
        have eb : bs = b := by rw [← hbs]; rfl
        obtain ⟨c1, c2⟩ := scells_at hx
        have c1' : (scells l)[i * 2]? = some (U x.1) := by rw [Nat.mul_comm]; exact c1
        have c2' : (scells l)[i * 2 + 1]? = some (.bool x.2) := by rw [Nat.mul_comm]; exact c2
        have hpt := ptsS_le bs (l.take i) 0
        rw [List.length_take, Nat.min_eq_left (by omega)] at hpt
        have htk := ptsS_take (b := bs) hx
        obtain ⟨xw, xu⟩ := x
        cases xu with
        | true =>
          rw [if_pos rfl] at htk
          simp (disch := first | omega | (show allOne _ = true; simp [allOne, Value.oneCell', S]) | (simp only [qz]; first | done | omega)) only [go_sem, hgK, ixa_ok, ldc_cells, c1', c2']
          refine HGo_add1 (n := 1) (by' := 8) (x := (b, 2 * i)) g1 rfl (by omega) (get_push_same _) (Old.push _ _) hZK (fun b hm => (g2 b hm).2.1) ?_ ?_ ?_ ?_
          · show [_] = [_]
            simp [Nat.mul_comm]
          · simp only [List.length_append]; omega
          · simp only [List.length_append]; omega
          intro v' K' k1 k2 k3 k4
          simp (disch := first | omega | (show allOne _ = true; simp [allOne, Value.oneCell', S]) | (simp only [qz]; first | done | omega)) only [go_sem]
          refine ⟨_, ?_, i + 1, v', rfl, by omega, ?_, fun b hm => ?_, Nat.le_trans g3 k3, by omega, ?_, fun b hb hs => ?_, fle_of (by simp [flook])⟩
          · omega
          · rw [htk, ← List.append_assoc, eb]; rw [eb] at k1; exact k1
          · have := k2 b hm; omega
          · rw [k4 rb (by omega) (fun hm => (g2 rb hm).2.2 rfl), g6]
          · rw [k4 b (by omega) (fun hm => by have := g2 b hm; omega), g4 b hb hs]
        | false =>
          rw [if_neg (by simp), List.append_nil] at htk
          simp (disch := first | omega | (show allOne _ = true; simp [allOne, Value.oneCell', S]) | (simp only [qz]; first | done | omega)) only [go_sem, hgK, ixa_ok, ldc_cells, c1', c2']
          refine ⟨_, ?_, i + 1, v, rfl, by omega, ?_, g2, g3, g5, g6, g4, fle_of (by simp [flook])⟩
          · omega
          · rw [htk]; exact g1
      · have ei : i = l.length := by omega
        subst ei
        rw [List.take_length] at g1
        simp (disch := first | omega | (show allOne _ = true; simp [allOne, Value.oneCell', S]) | (simp only [qz]; first | done | omega)) only [go_sem]
        refine ⟨_, ?_, j + 1, v, rfl, by omega, ?_, g2, g3, g5, g6, g4, fle_of (by simp [flook])⟩
        · omega
        · rw [hnext, ← List.append_assoc]; exact g1
    · have ej : j = 2 := by omega
      subst ej
      simp (disch := first | omega | (show allOne _ = true; simp [allOne, Value.oneCell', S]) | (simp only [qz]; first | done | omega)) only [go_sem]
      refine hR v K ?_ (fun b hm => ⟨(g2 b hm).1, (g2 b hm).2.1⟩) g3 g4
      simpa [List.append_assoc] using g1
end
end Go.HL
/-
  What is written through the pointers to a machine's words is the machine with other words.
-/
namespace Go.HL
open Go.RowKit Go.Proofs
set_option maxHeartbeats 4000000
set_option linter.unusedSimpArgs false
set_option linter.unusedVariables false
section
variable {Z : Zs} {H : HHeap} {p size : Nat} {vb : Value} {g gw gh : Nat} {vn vk va : Value} {M : MS} {B : List Bk}
theorem MIn.setAsk (h : MIn Z H p size vb g gw gh vn vk va M) {b : Nat} (l' : List Nat) (e : va = .slice (some ⟨b, 0, some 2⟩) M.ask.length M.ask.length) (hne : M.ask ≠ []) (hl : l'.length = M.ask.length) (hw : ∀ x ∈ l', x < 18446744073709551616) :
    MIn Z (H.set b (.cells (l'.map U) true)) p size vb g gw gh vn vk va { M with ask := l' } := by
  have d := h.da b (by simp [e, sblk])
  have hz := (h.ask.blk b (by simp [e, sblk])).1
  have hne' : l' ≠ [] := by rintro rfl; exact hne (List.eq_nil_of_length_eq_zero hl.symm)
  exact {
    m := by rw [get_set_ne _ _ _ d.1.symm]; exact h.m
    A := h.A.frame fun c hc => get_set_ne _ _ _ (by rcases hc with rfl | rfl | rfl; exact d.2.1.symm; exact d.2.2.1.symm; exact d.2.2.2.1.symm)
    nm := by
      obtain ⟨c, e', hg⟩ := h.nm
      exact ⟨c, e', by rw [get_set_ne _ _ _ (by rintro rfl; exact d.2.2.2.2.1 (by simp [e', sblk]))]; exact hg⟩
    kp := h.kp.ext (fun c hc => ⟨hc, get_set_ne _ _ _ (by rintro rfl; exact hz hc)⟩) fun c hc => ⟨get_set_ne _ _ _ (by rintro rfl; exact d.2.2.2.2.2 hc), (h.kp.blk c hc).1⟩
    ask := .inr (.inr ⟨b, l'.map U, hne', by rw [e]; show _ = Value.slice _ l'.length l'.length; rw [hl]; rfl, hz, get_set_same _ _, by show _ = _ * 1; simp, fun i x hx => flatW_U _ _ _ _ _ hx⟩)
    ok := ⟨h.ok.v, h.ok.e, h.ok.s, h.ok.f, h.ok.nm, hw, h.ok.bl, h.ok.pc, h.ok.nml, h.ok.kpl, by show l'.length ≤ _; rw [hl]; exact h.ok.askl⟩
    zp := h.zp
    pg := h.pg
    dn := h.dn
    dk := h.dk
    da := h.da }
theorem MIn.setNm (h : MIn Z H p size vb g gw gh vn vk va M) {b : Nat} (l' : List (Nat × Bool)) (e : vn = .slice (some ⟨b, 0, none⟩) M.nm.length M.nm.length) (hl : l'.length = M.nm.length) (hw : ∀ x ∈ l', x.1 < 18446744073709551616) :
    MIn Z (H.set b (.cells (scells l') true)) p size vb g gw gh vn vk va { M with nm := l' } := by
  have d := h.dn b (by simp [e, sblk])
  have hz := h.zp.2.2.2.2 b (by simp [e, sblk])
  exact {
    m := by rw [get_set_ne _ _ _ d.1.symm]; exact h.m
    A := h.A.frame fun c hc => get_set_ne _ _ _ (by rcases hc with rfl | rfl | rfl; exact d.2.1.symm; exact d.2.2.1.symm; exact d.2.2.2.symm)
    nm := ⟨b, by rw [e]; show _ = Value.slice _ l'.length l'.length; rw [hl], get_set_same _ _⟩
    kp := h.kp.ext (fun c hc => ⟨hc, get_set_ne _ _ _ (by rintro rfl; exact hz hc)⟩) fun c hc => ⟨get_set_ne _ _ _ (by rintro rfl; exact (h.dk _ hc).2.2.2.2 (by simp [e, sblk])), (h.kp.blk c hc).1⟩
    ask := h.ask.ext (fun c hc => ⟨hc, get_set_ne _ _ _ (by rintro rfl; exact hz hc)⟩) fun c hc => ⟨get_set_ne _ _ _ (by rintro rfl; exact (h.da _ hc).2.2.2.2.1 (by simp [e, sblk])), (h.ask.blk c hc).1⟩
    ok := ⟨h.ok.v, h.ok.e, h.ok.s, h.ok.f, hw, h.ok.ask, h.ok.bl, h.ok.pc, by show l'.length ≤ _; rw [hl]; exact h.ok.nml, h.ok.kpl, h.ok.askl⟩
    zp := h.zp
    pg := h.pg
    dn := h.dn
    dk := h.dk
    da := h.da }
theorem flatW_S (Z : Zs) (H : HHeap) (l : List (Nat × Bool)) (i : Nat) (x : Nat × Bool) (h : l[i]? = some x) (hx : x.1 < 18446744073709551616) : rSlot.r Z H (flatW (scells l) 0 2 i) x := by
  refine ⟨?_, hx⟩
  have h1 := scells_at h
  have hl := (List.getElem?_eq_some_iff.1 h).1
  apply List.ext_getElem?
  intro j
  have hlen : (flatW (scells l) 0 2 i).length = 2 := by unfold flatW; simp [scells_len]; omega
  match j with
  | 0 => rw [flatW_get (by omega), Nat.zero_add, Nat.add_zero, Nat.mul_comm, h1.1]; rfl
  | 1 => rw [flatW_get (by omega), Nat.zero_add, Nat.mul_comm, h1.2]; rfl
  | j + 2 => rw [List.getElem?_eq_none (by omega), List.getElem?_eq_none (by simp)]
theorem MIn.setKp (h : MIn Z H p size vb g gw gh vn vk va M) {b : Nat} (l' : List (Nat × Bool)) (e : vk = .slice (some ⟨b, 0, some 4⟩) M.kp.length M.kp.length) (hne : M.kp ≠ []) (hl : l'.length = M.kp.length) (hw : ∀ x ∈ l', x.1 < 18446744073709551616) :
    MIn Z (H.set b (.cells (scells l') true)) p size vb g gw gh vn vk va { M with kp := l' } := by
  have d := h.dk b (by simp [e, sblk])
  have hz := (h.kp.blk b (by simp [e, sblk])).1
  have hne' : l' ≠ [] := by rintro rfl; exact hne (List.eq_nil_of_length_eq_zero hl.symm)
  exact {
    m := by rw [get_set_ne _ _ _ d.1.symm]; exact h.m
    A := h.A.frame fun c hc => get_set_ne _ _ _ (by rcases hc with rfl | rfl | rfl; exact d.2.1.symm; exact d.2.2.1.symm; exact d.2.2.2.1.symm)
    nm := by
      obtain ⟨c, e', hg⟩ := h.nm
      exact ⟨c, e', by rw [get_set_ne _ _ _ (by rintro rfl; exact d.2.2.2.2 (by simp [e', sblk]))]; exact hg⟩
    kp := .inr (.inr ⟨b, scells l', hne', by rw [e]; show _ = Value.slice _ l'.length l'.length; rw [hl]; rfl, hz, get_set_same _ _, by show _ = _ * 2; rw [scells_len, Nat.mul_comm], fun i x hx => flatW_S _ _ _ _ _ hx (hw x (List.mem_of_getElem? hx))⟩)
    ask := h.ask.ext (fun c hc => ⟨hc, get_set_ne _ _ _ (by rintro rfl; exact hz hc)⟩) fun c hc => ⟨get_set_ne _ _ _ (by rintro rfl; exact (h.da _ hc).2.2.2.2.2 (by simp [e, sblk])), (h.ask.blk c hc).1⟩
    ok := ⟨h.ok.v, h.ok.e, h.ok.s, h.ok.f, h.ok.nm, h.ok.ask, h.ok.bl, h.ok.pc, h.ok.nml, by show l'.length ≤ _; rw [hl]; exact h.ok.kpl, h.ok.askl⟩
    zp := h.zp
    pg := h.pg
    dn := h.dn
    dk := h.dk
    da := h.da }
theorem mapW_mem {t : Nat → Nat} {l : List (Nat × Bool)} (h : ∀ x ∈ l, x.1 < 18446744073709551616) (ht : ∀ x ∈ usedW l, t x < 18446744073709551616) : ∀ x ∈ mapW t l, x.1 < 18446744073709551616 := by
  intro x hx
  unfold mapW at hx
  obtain ⟨y, hy, rfl⟩ := List.mem_map.1 hx
  by_cases e : y.2 = true
  · rw [if_pos e]
    exact ht y.1 (by unfold usedW; exact List.mem_map.2 ⟨y, List.mem_filter.2 ⟨hy, e⟩, rfl⟩)
  · rw [if_neg e]; exact h y hy
theorem MIn.kpw (h : MIn Z H p size vb g gw gh vn vk va M) : ∀ x ∈ M.kp, x.1 < 18446744073709551616 := by
  intro x hx
  obtain ⟨i, hi⟩ := List.mem_iff_getElem?.1 hx
  obtain ⟨_, _, _, _, _, _, _, h'⟩ := h.kp.at hi
  exact h'
def MS.onAll (M : MS) (t : Nat → Nat) : MS := { M with v := t M.v, e := t M.e, s := t M.s, f := t M.f, ask := M.ask.map t, nm := mapW t M.nm, kp := mapW t M.kp }
theorem MIn.wrs (h : MIn Z H p size vb g gw gh vn vk va M) (t : Nat → Nat) (ht : ∀ x ∈ [M.v, M.e, M.s, M.f] ++ M.ask ++ usedW M.nm ++ usedW M.kp, t x < 18446744073709551616) :
    MIn Z (wrs H (mpts p vn vk va M) (([M.v, M.e, M.s, M.f] ++ M.ask ++ usedW M.nm ++ usedW M.kp).map t)) p size vb g gw gh vn vk va (M.onAll t) := by
  simp only [List.mem_append, List.mem_cons, List.not_mem_nil, or_false] at ht
  unfold mpts
  simp only [List.map_append, List.map_cons, List.map_nil]
  rw [wrs_append _ _ _ _ _ (by simp [ptsA_len, ptsS_len]), wrs_append _ _ _ _ _ (by simp [ptsA_len]), wrs_append _ _ _ _ _ (by simp)]
  have e1 : Go.HL.wrs H [(p, 7), (p, 8), (p, 9), (p, 10)] [t M.v, t M.e, t M.s, t M.f] = H.set p (.cells (mcells vb g vn vk va { M with v := t M.v, e := t M.e, s := t M.s, f := t M.f }) true) := by
    simp only [Go.HL.wrs]
    rw [wr1_cells (x := (p, 7)) h.m, wr1_cells (x := (p, 8)) (get_set_same _ _), set_set, wr1_cells (x := (p, 9)) (get_set_same _ _), set_set, wr1_cells (x := (p, 10)) (get_set_same _ _), set_set]
    rfl
  rw [e1]
  have h1 := h.put (M' := { M with v := t M.v, e := t M.e, s := t M.s, f := t M.f }) rfl rfl rfl rfl ⟨ht _ (by simp), ht _ (by simp), ht _ (by simp), ht _ (by simp), h.ok.nm, h.ok.ask, h.ok.bl, h.ok.pc, h.ok.nml, h.ok.kpl, h.ok.askl⟩
  generalize H.set p (.cells (mcells vb g vn vk va { M with v := t M.v, e := t M.e, s := t M.s, f := t M.f }) true) = H1 at *
  clear e1
  have h2 : MIn Z (Go.HL.wrs H1 (ptsA (blkV va) 0 M.ask.length) (M.ask.map t)) p size vb g gw gh vn vk va { M with v := t M.v, e := t M.e, s := t M.s, f := t M.f, ask := M.ask.map t } := by
    by_cases hne : M.ask = []
    · rw [hne]
      show MIn Z (Go.HL.wrs H1 [] []) _ _ _ _ _ _ _ _ _ _
      rw [wrs_nil]
      have := h1
      rw [hne] at this
      exact this
    · rcases h1.ask with ⟨e, _⟩ | ⟨b, cs, rw, e, _⟩ | ⟨b, cs, e, hv, hz, hg, hl, hr⟩
      · exact absurd e hne
      · exact absurd e hne
      · have := Gr.cellsW (b := b) hl hr
        subst this
        have e2 : blkV va = b := by rw [hv]; rfl
        rw [e2]
        have := wrs_A b M.ask (M.ask.map t) [] H1 (by simp) hg
        rw [List.length_nil, List.nil_append] at this
        rw [this]
        exact h1.setAsk (M.ask.map t) hv hne (by simp) (by
          intro x hx
          obtain ⟨y, hy, rfl⟩ := List.mem_map.1 hx
          exact ht y (by simp [hy]))
  clear h1
  generalize Go.HL.wrs H1 (ptsA (blkV va) 0 M.ask.length) (M.ask.map t) = H2 at *
  have h3 : MIn Z (Go.HL.wrs H2 (ptsS (blkV vn) 0 M.nm) ((usedW M.nm).map t)) p size vb g gw gh vn vk va { M with v := t M.v, e := t M.e, s := t M.s, f := t M.f, ask := M.ask.map t, nm := mapW t M.nm } := by
    obtain ⟨b, e, hg⟩ := h2.nm
    have e2 : blkV vn = b := by rw [e]; rfl
    rw [e2]
    have := wrs_S b t M.nm [] H2 hg
    rw [List.length_nil, List.nil_append] at this
    rw [this]
    exact h2.setNm (mapW t M.nm) e (by simp [mapW]) (mapW_mem h.ok.nm fun x hx => ht x (by simp [hx]))
  clear h2
  generalize Go.HL.wrs H2 (ptsS (blkV vn) 0 M.nm) ((usedW M.nm).map t) = H3 at *
  by_cases hne : M.kp = []
  · rw [hne]
    show MIn Z (Go.HL.wrs H3 [] []) _ _ _ _ _ _ _ _ _ _
    rw [wrs_nil]
    have e : M.onAll t = { M with v := t M.v, e := t M.e, s := t M.s, f := t M.f, ask := M.ask.map t, nm := mapW t M.nm } := by
      unfold MS.onAll; rw [hne]; rfl
    rw [e]
    exact h3
  · rcases h3.kp with ⟨e, _⟩ | ⟨b, cs, rw, e, _⟩ | ⟨b, cs, e, hv, hz, hg, hl, hr⟩
    · exact absurd e hne
    · exact absurd e hne
    · have := Gr.cellsS (b := b) hl hr
      subst this
      have e2 : blkV vk = b := by rw [hv]; rfl
      rw [e2]
      have := wrs_S b t M.kp [] H3 hg
      rw [List.length_nil, List.nil_append] at this
      rw [this]
      exact h3.setKp (mapW t M.kp) hv hne (by simp [mapW]) (mapW_mem h.kpw fun x hx => ht x (by simp [hx]))
end
end Go.HL
