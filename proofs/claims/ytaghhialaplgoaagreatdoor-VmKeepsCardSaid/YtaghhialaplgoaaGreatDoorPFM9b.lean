/-
  Joined: M6, M7, M9, M9b.
-/
import Derived.Test.YtaghhialaplgoaaGreatDoorPFM5
set_option linter.unusedVariables false
set_option linter.unusedSimpArgs false
/-
  Walks: things are made; a frame is gone on by; the value is told.
-/
namespace Go.HL
open Go.RowKit Go.Proofs
set_option maxHeartbeats 4000000
set_option maxRecDepth 100000
set_option linter.unusedSimpArgs false
set_option linter.unusedVariables false
theorem Sl.srcW {Z : Zs} {H : HHeap} {v : Value} {l : List Nat} (h : Sl rW Z H v l) : hsource H 1 v = some (l.map U, l.length) := by
  obtain ⟨fs, h1, h2, h3⟩ := h.src
  rw [show hsource H 1 v = some (fs, l.length) from h1]
  congr 2
  apply List.ext_getElem?
  intro i
  rw [List.getElem?_map]
  have h2' : fs.length = l.length := by rw [h2]; exact Nat.mul_one _
  by_cases hi : i < l.length
  · have := h3 i l[i] (List.getElem?_eq_getElem hi)
    have := rOne_at (f := U) (Z := Z) (H := H) (o := 0) this
    rw [Nat.zero_add, Nat.mul_one] at this
    rw [this, List.getElem?_eq_getElem hi]; rfl
  · rw [List.getElem?_eq_none (by omega), List.getElem?_eq_none (by omega)]; rfl
theorem Kp.less {Z Z' : Zs} {H H' : HHeap} (h : Kp Z' H H') (k : ∀ b, Z b → Z' b) : Kp Z H H' := ⟨h.next, fun b hb => h.keep b (k b hb)⟩
theorem Old.kp {Z : Zs} {H H' : HHeap} (h : Old H H') (hZ : ∀ b, Z b → b < H.next) : Kp Z H H' := ⟨h.1, fun b hb => h.2 b (hZ b hb)⟩
/-- Where what stays is not spoken of. -/
theorem Gr.less {α : Type} {R : Rp α} {Z Z' : Zs} {H : HHeap} {v : Value} {l : List α} (h : Gr R Z' H v l) (k : ∀ b, Z b → Z' b) (e : ∀ cs a, R.r Z' H cs a → R.r Z H cs a) : Gr R Z H v l := by
  rcases h with h | ⟨b, cs, rw, h1, h2, h3, h4⟩ | ⟨b, cs, h1, h2, h3, h4, h5, h6⟩
  · exact .inl h
  · exact .inr (.inl ⟨b, cs, rw, h1, h2, fun hz => h3 (k b hz), h4⟩)
  · exact .inr (.inr ⟨b, cs, h1, h2, fun hz => h3 (k b hz), h4, h5, fun i x hx => e _ _ (h6 i x hx)⟩)
theorem MIn.less {Z Z' : Zs} {H : HHeap} {p size : Nat} {vb : Value} {g gw gh : Nat} {vn vk va : Value} {M : MS} (h : MIn Z' H p size vb g gw gh vn vk va M) (k : ∀ b, Z b → Z' b) : MIn Z H p size vb g gw gh vn vk va M where
  m := h.m
  A := h.A
  nm := h.nm
  kp := h.kp.less k fun _ _ h => h
  ask := h.ask.less k fun _ _ h => h
  ok := h.ok
  zp := ⟨fun x => h.zp.1 (k _ x), fun x => h.zp.2.1 (k _ x), fun x => h.zp.2.2.1 (k _ x), fun x => h.zp.2.2.2.1 (k _ x), fun b hb x => h.zp.2.2.2.2 b hb (k _ x)⟩
  pg := h.pg
  dn := h.dn
  dk := h.dk
  da := h.da
/-- Blocks that were made beside it stay from now on. -/
theorem MIn.more {Z Z' : Zs} {H : HHeap} {p size : Nat} {vb : Value} {g gw gh : Nat} {vn vk va : Value} {M : MS} (h : MIn Z H p size vb g gw gh vn vk va M) (h1 : ∀ b, Z b → Z' b)
    (h2 : ∀ b, (b = p ∨ b = g ∨ b = gw ∨ b = gh ∨ b ∈ sblk vn ∨ b ∈ sblk vk ∨ b ∈ sblk va) → ¬ Z b → ¬ Z' b) : MIn Z' H p size vb g gw gh vn vk va M := by
  refine h.frame (fun b hb => ⟨h1 b hb, rfl⟩) fun b hb => ⟨rfl, h2 b hb ?_⟩
  rcases hb with rfl | rfl | rfl | rfl | hb | hb | hb
  · exact h.zp.1
  · exact h.zp.2.1
  · exact h.zp.2.2.1
  · exact h.zp.2.2.2.1
  · exact h.zp.2.2.2.2 b hb
  · exact (h.kp.blk b hb).1
  · exact (h.ask.blk b hb).1
/-- Its arena alone is changed. -/
theorem MIn.setA {Z : Zs} {H H' : HHeap} {p size : Nat} {vb : Value} {g gw gh : Nat} {vn vk va : Value} {M : MS} {T : Things} (h : MIn Z H p size vb g gw gh vn vk va M) (hA : AtA H' g gw gh size T) (f : ∀ b, b ≠ g → b ≠ gw → b ≠ gh → H'.get b = H.get b) :
    MIn Z H' p size vb g gw gh vn vk va { M with T := T } where
  m := by rw [f p h.pg.1 h.pg.2.1 h.pg.2.2]; exact h.m
  A := hA
  nm := by
    obtain ⟨b, e, hg⟩ := h.nm
    have := h.dn b (by simp [e, sblk])
    exact ⟨b, e, by rw [f b this.2.1 this.2.2.1 this.2.2.2]; exact hg⟩
  kp := h.kp.ext (fun b hb => ⟨hb, f b (by rintro rfl; exact h.zp.2.1 hb) (by rintro rfl; exact h.zp.2.2.1 hb) (by rintro rfl; exact h.zp.2.2.2.1 hb)⟩) fun b hb => ⟨f b (h.dk b hb).2.1 (h.dk b hb).2.2.1 (h.dk b hb).2.2.2.1, (h.kp.blk b hb).1⟩
  ask := h.ask.ext (fun b hb => ⟨hb, f b (by rintro rfl; exact h.zp.2.1 hb) (by rintro rfl; exact h.zp.2.2.1 hb) (by rintro rfl; exact h.zp.2.2.2.1 hb)⟩) fun b hb => ⟨f b (h.da b hb).2.1 (h.da b hb).2.2.1 (h.da b hb).2.2.2.1, (h.ask.blk b hb).1⟩
  ok := ⟨h.ok.v, h.ok.e, h.ok.s, h.ok.f, h.ok.nm, h.ok.ask, h.ok.bl, h.ok.pc, h.ok.nml, h.ok.kpl, h.ok.askl⟩
  zp := h.zp
  pg := h.pg
  dn := h.dn
  dk := h.dk
  da := h.da
section
variable {Z : Zs} {H : HHeap} {p size : Nat} {vb : Value} {g gw gh : Nat} {vn vk va : Value} {M : MS} {B : List Bk}
theorem vm_made (hM : MIn Z H p size vb g gw gh vn vk va M) (k : Nat) (hk : 1 ≤ k ∧ k ≤ 9) (s : Value) (l : List Nat) (hl : ∀ x ∈ l, x < 18446744073709551616) (hs : ∃ Z', Sl rW Z' H s l ∧ ¬ Z' g ∧ ¬ Z' gw ∧ ¬ Z' gh) (R : Value → HHeap → Prop)
    (hR : ∀ H', MIn Z H' p size vb g gw gh vn vk va { M with T := makeT size M.T k l } → (∀ b, b ≠ g → b ≠ gw → b ≠ gh → H'.get b = H.get b) → H'.next = H.next → R (U (makeW size M.T l)) H') :
    HCalls Tryz.prog 26 [ptr p 0, I (k : Nat), s] H R := by
  obtain ⟨Z', hs, z1, z2, z3⟩ := hs
  obtain ⟨a, c, rfl⟩ := hs.len
  refine HCalls.of_hw Tryz.func26 rfl _ Tryz.ntmps26 _ (by rw [Tryz.results26]) ?_
  rw [hframe0_eq _ _ (by simp)]
  simp only [List.zipIdx_cons, List.zipIdx_nil, List.map_cons, List.map_nil, Nat.reduceAdd]
  simp (disch := first | omega | (show allOne _ = true; simp [allOne, Value.oneCell', S]) | (simp only [qz]; first | done | omega)) only [go_sem, hM.m, ldc_cells, mcells]
  have n1 := hM.A.ne1
  have n2 := hM.A.ne2
  have n3 := hM.A.ne3
  refine arena_Alloc _ _ _ _ _ _ hM.A k _ l l.length rfl hl a c rfl (fun H' f => ?_) _ ?_ ?_ ?_
  · exact (hs.ext (Z' := Z') fun b hb => ⟨hb, f b (by rintro rfl; exact z1 hb) (by rintro rfl; exact z2 hb) (by rintro rfl; exact z3 hb)⟩).srcW
  · intro _ hn hu
    have e : makeT size M.T k l = M.T ++ [⟨k, l⟩] := by unfold makeT; rw [if_pos ⟨hn, hu⟩]
    have e' : makeW size M.T l = wordAt (usedOf M.T) := by unfold makeW; rw [if_pos ⟨hn, hu⟩]
    rw [e, e'] at hR
    have := hR (putT H g gw gh size (M.T ++ [⟨k, l⟩])) (hM.setA (H' := putT H g gw gh size (M.T ++ [⟨k, l⟩])) ⟨by unfold putT; simp (disch := first | omega | (simp only [nx_push, nx_set, nx_kill]; done) | (simp only [nx_push, nx_set, nx_kill]; omega)) only [get_push_ne, get_push_eq, get_set_ne, get_set_eq, get_kill_ne, nx_push, nx_set, nx_kill], by unfold putT; simp (disch := first | omega | (simp only [nx_push, nx_set, nx_kill]; done) | (simp only [nx_push, nx_set, nx_kill]; omega)) only [get_push_ne, get_push_eq, get_set_ne, get_set_eq, get_kill_ne, nx_push, nx_set, nx_kill], by unfold putT; simp (disch := first | omega | (simp only [nx_push, nx_set, nx_kill]; done) | (simp only [nx_push, nx_set, nx_kill]; omega)) only [get_push_ne, get_push_eq, get_set_ne, get_set_eq, get_kill_ne, nx_push, nx_set, nx_kill], by
      rw [usedOf_append]; simp [usedOf, Thing.room]; omega, hM.A.big, hM.A.pos, by
      intro t ht
      rcases List.mem_append.1 ht with ht | ht
      · exact hM.A.ok t ht
      · simp at ht; subst ht; exact ⟨by simp; omega, by simp; omega, by simp; omega, hl⟩, n1, n2, n3⟩ (fun b b1 b2 b3 => by unfold putT; simp (disch := first | omega | (simp only [nx_push, nx_set, nx_kill]; done) | (simp only [nx_push, nx_set, nx_kill]; omega)) only [get_push_ne, get_push_eq, get_set_ne, get_set_eq, get_kill_ne, nx_push, nx_set, nx_kill])) (fun b b1 b2 b3 => by unfold putT; simp (disch := first | omega | (simp only [nx_push, nx_set, nx_kill]; done) | (simp only [nx_push, nx_set, nx_kill]; omega)) only [get_push_ne, get_push_eq, get_set_ne, get_set_eq, get_kill_ne, nx_push, nx_set, nx_kill]) (by unfold putT; simp (disch := first | omega | (simp only [nx_push, nx_set, nx_kill]; done) | (simp only [nx_push, nx_set, nx_kill]; omega)) only [get_push_ne, get_push_eq, get_set_ne, get_set_eq, get_kill_ne, nx_push, nx_set, nx_kill])
    rw [show ((k : Int)).toNat = k from rfl]
    generalize putT H g gw gh size (M.T ++ [⟨k, l⟩]) = H2 at *
    simp (disch := first | omega | (show allOne _ = true; simp [allOne, Value.oneCell', S]) | (simp only [qz]; first | done | omega)) only [go_sem]
    exact this
  · intro _ hn hu
    have e : makeT size M.T k l = M.T := by unfold makeT; rw [if_neg (by omega)]
    have e' : makeW size M.T l = 0 := by unfold makeW; rw [if_neg (by omega)]
    have := hR H (by rw [e]; exact hM) (fun _ _ _ _ => rfl) rfl
    rw [e'] at this
    simp (disch := first | omega | (show allOne _ = true; simp [allOne, Value.oneCell', S]) | (simp only [qz]; first | done | omega)) only [go_sem]
    exact this
  · intro h3
    have e : makeT size M.T k l = M.T := by unfold makeT; rw [if_neg (by omega)]
    have e' : makeW size M.T l = 0 := by unfold makeW; rw [if_neg (by omega)]
    have := hR H (by rw [e]; exact hM) (fun _ _ _ _ => rfl) rfl
    rw [e'] at this
    simp (disch := first | omega | (show allOne _ = true; simp [allOne, Value.oneCell', S]) | (simp only [qz]; first | done | omega)) only [go_sem]
    exact this
end
end Go.HL
/-
  Walks: the value is told.
-/
namespace Go.HL
open Go.RowKit Go.Proofs
set_option maxHeartbeats 4000000
set_option maxRecDepth 100000
set_option linter.unusedSimpArgs false
set_option linter.unusedVariables false
section
variable {Z : Zs} {H : HHeap} {p size : Nat} {vb : Value} {g gw gh : Nat} {vn vk va : Value} {M : MS} {B : List Bk}
end
end Go.HL
/-
  Walks: an env some times out; a row turned about; words of the stack.
-/
namespace Go.HL
open Go.RowKit Go.Proofs
set_option maxHeartbeats 4000000
set_option maxRecDepth 100000
set_option linter.unusedSimpArgs false
set_option linter.unusedVariables false
section
variable {Z : Zs} {H : HHeap} {p size : Nat} {vb : Value} {g gw gh : Nat} {vn vk va : Value} {M : MS} {B : List Bk}
end
end Go.HL
/-
  Walks: a row turned about; words of the stack.
-/
namespace Go.HL
open Go.RowKit Go.Proofs
set_option maxHeartbeats 4000000
set_option maxRecDepth 100000
set_option linter.unusedSimpArgs false
set_option linter.unusedVariables false
theorem set_eq_self {H : HHeap} {b : Nat} {o : HObj} (h : H.get b = some o) : H.set b o = H := by
  unfold HHeap.set
  cases H with
  | mk n gt =>
    congr 1
    funext x
    by_cases e : x = b
    · rw [if_pos e, e]; exact h.symm
    · rw [if_neg e]
theorem Gr.cellsW {Z : Zs} {H : HHeap} {b : Nat} {cs : List Value} {l : List Nat} (h1 : cs.length = l.length * 1) (h2 : ∀ i x, l[i]? = some x → rW.r Z H (flatW cs 0 1 i) x) : cs = l.map U := by
  apply List.ext_getElem?
  intro i
  rw [List.getElem?_map]
  by_cases hi : i < l.length
  · have := h2 i l[i] (List.getElem?_eq_getElem hi)
    have := rOne_at (f := U) (Z := Z) (H := H) (o := 0) this
    rw [Nat.zero_add, Nat.mul_one] at this
    rw [this, List.getElem?_eq_getElem hi]; rfl
  · rw [List.getElem?_eq_none (by omega), List.getElem?_eq_none (by omega)]; rfl
theorem flatW_U (Z : Zs) (H : HHeap) (l : List Nat) (i x : Nat) (h : l[i]? = some x) : rW.r Z H (flatW (l.map U) 0 1 i) x := by
  show flatW (l.map U) 0 1 i = [U x]
  unfold flatW
  rw [Nat.zero_add, Nat.mul_one, ← List.map_drop, ← List.map_take, List.drop_eq_getElem_cons (List.getElem?_eq_some_iff.1 h).1, (List.getElem?_eq_some_iff.1 h).2]; rfl
section
variable {Z : Zs} {H : HHeap} {p size : Nat} {vb : Value} {g gw gh : Nat} {vn vk va : Value} {M : MS} {B : List Bk}
end
end Go.HL
