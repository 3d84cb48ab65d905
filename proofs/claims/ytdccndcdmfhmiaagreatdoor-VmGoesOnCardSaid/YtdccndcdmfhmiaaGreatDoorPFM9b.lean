/-
  Joined: M6, M7, M9, M9b.
-/
import Derived.Test.YtdccndcdmfhmiaaGreatDoorPFM5
set_option linter.unusedVariables false
set_option linter.unusedSimpArgs false
/-
  Walks: things are made; a frame is gone on by; the value is told.
-/
namespace Go.HL
open Go.RowKit Go.Proofs
set_option maxHeartbeats 4000000
set_option maxRecDepth 100000
set_option linter.unusedSimpArgs false
set_option linter.unusedVariables false
theorem Sl.srcW {Z : Zs} {H : HHeap} {v : Value} {l : List Nat} (h : Sl rW Z H v l) : hsource H 1 v = some (l.map U, l.length) := by
  obtain ⟨fs, h1, h2, h3⟩ := h.src
  rw [show hsource H 1 v = some (fs, l.length) from h1]
  congr 2
  apply List.ext_getElem?
  intro i
  rw [List.getElem?_map]
  have h2' : fs.length = l.length := by rw [h2]; exact Nat.mul_one _
  by_cases hi : i < l.length
  · have := h3 i l[i] (List.getElem?_eq_getElem hi)
    have := rOne_at (f := U) (Z := Z) (H := H) (o := 0) this
    rw [Nat.zero_add, Nat.mul_one] at this
    rw [this, List.getElem?_eq_getElem hi]; rfl
  · rw [List.getElem?_eq_none (by omega), List.getElem?_eq_none (by omega)]; rfl
theorem Kp.less {Z Z' : Zs} {H H' : HHeap} (h : Kp Z' H H') (k : ∀ b, Z b → Z' b) : Kp Z H H' := ⟨h.next, fun b hb => h.keep b (k b hb)⟩
theorem Old.kp {Z : Zs} {H H' : HHeap} (h : Old H H') (hZ : ∀ b, Z b → b < H.next) : Kp Z H H' := ⟨h.1, fun b hb => h.2 b (hZ b hb)⟩
/-- Where what stays is not spoken of. -/
theorem Gr.less {α : Type} {R : Rp α} {Z Z' : Zs} {H : HHeap} {v : Value} {l : List α} (h : Gr R Z' H v l) (k : ∀ b, Z b → Z' b) (e : ∀ cs a, R.r Z' H cs a → R.r Z H cs a) : Gr R Z H v l := by
  rcases h with h | ⟨b, cs, rw, h1, h2, h3, h4⟩ | ⟨b, cs, h1, h2, h3, h4, h5, h6⟩
  · exact .inl h
  · exact .inr (.inl ⟨b, cs, rw, h1, h2, fun hz => h3 (k b hz), h4⟩)
  · exact .inr (.inr ⟨b, cs, h1, h2, fun hz => h3 (k b hz), h4, h5, fun i x hx => e _ _ (h6 i x hx)⟩)
theorem MIn.less {Z Z' : Zs} {H : HHeap} {p size : Nat} {vb : Value} {g gw gh : Nat} {vn vk va : Value} {M : MS} (h : MIn Z' H p size vb g gw gh vn vk va M) (k : ∀ b, Z b → Z' b) : MIn Z H p size vb g gw gh vn vk va M where
  m := h.m
  A := h.A
  nm := h.nm
  kp := h.kp.less k fun _ _ h => h
  ask := h.ask.less k fun _ _ h => h
  ok := h.ok
  zp := ⟨fun x => h.zp.1 (k _ x), fun x => h.zp.2.1 (k _ x), fun x => h.zp.2.2.1 (k _ x), fun x => h.zp.2.2.2.1 (k _ x), fun b hb x => h.zp.2.2.2.2 b hb (k _ x)⟩
  pg := h.pg
  dn := h.dn
  dk := h.dk
  da := h.da
/-- Blocks that were made beside it stay from now on. -/
theorem MIn.more {Z Z' : Zs} {H : HHeap} {p size : Nat} {vb : Value} {g gw gh : Nat} {vn vk va : Value} {M : MS} (h : MIn Z H p size vb g gw gh vn vk va M) (h1 : ∀ b, Z b → Z' b)
    (h2 : ∀ b, (b = p ∨ b = g ∨ b = gw ∨ b = gh ∨ b ∈ sblk vn ∨ b ∈ sblk vk ∨ b ∈ sblk va) → ¬ Z b → ¬ Z' b) : MIn Z' H p size vb g gw gh vn vk va M := by
  refine h.frame (fun b hb => ⟨h1 b hb, rfl⟩) fun b hb => ⟨rfl, h2 b hb ?_⟩
  rcases hb with rfl | rfl | rfl | rfl | hb | hb | hb
  · exact h.zp.1
  · exact h.zp.2.1
  · exact h.zp.2.2.1
  · exact h.zp.2.2.2.1
  · exact h.zp.2.2.2.2 b hb
  · exact (h.kp.blk b hb).1
  · exact (h.ask.blk b hb).1
/-- Its arena alone is changed. -/
theorem MIn.setA {Z : Zs} {H H' : HHeap} {p size : Nat} {vb : Value} {g gw gh : Nat} {vn vk va : Value} {M : MS} {T : Things} (h : MIn Z H p size vb g gw gh vn vk va M) (hA : AtA H' g gw gh size T) (f : ∀ b, b ≠ g → b ≠ gw → b ≠ gh → H'.get b = H.get b) :
    MIn Z H' p size vb g gw gh vn vk va { M with T := T } where
  m := by rw [f p h.pg.1 h.pg.2.1 h.pg.2.2]; exact h.m
  A := hA
  nm := by
    obtain ⟨b, e, hg⟩ := h.nm
    have := h.dn b (by simp [e, sblk])
    exact ⟨b, e, by rw [f b this.2.1 this.2.2.1 this.2.2.2]; exact hg⟩
  kp := h.kp.ext (fun b hb => ⟨hb, f b (by rintro rfl; exact h.zp.2.1 hb) (by rintro rfl; exact h.zp.2.2.1 hb) (by rintro rfl; exact h.zp.2.2.2.1 hb)⟩) fun b hb => ⟨f b (h.dk b hb).2.1 (h.dk b hb).2.2.1 (h.dk b hb).2.2.2.1, (h.kp.blk b hb).1⟩
  ask := h.ask.ext (fun b hb => ⟨hb, f b (by rintro rfl; exact h.zp.2.1 hb) (by rintro rfl; exact h.zp.2.2.1 hb) (by rintro rfl; exact h.zp.2.2.2.1 hb)⟩) fun b hb => ⟨f b (h.da b hb).2.1 (h.da b hb).2.2.1 (h.da b hb).2.2.2.1, (h.ask.blk b hb).1⟩
  ok := ⟨h.ok.v, h.ok.e, h.ok.s, h.ok.f, h.ok.nm, h.ok.ask, h.ok.bl, h.ok.pc, h.ok.nml, h.ok.kpl, h.ok.askl⟩
  zp := h.zp
  pg := h.pg
  dn := h.dn
  dk := h.dk
  da := h.da
section
variable {Z : Zs} {H : HHeap} {p size : Nat} {vb : Value} {g gw gh : Nat} {vn vk va : Value} {M : MS} {B : List Bk}
theorem makeW_lt {T : Things} (hu : usedOf T ≤ 65536) (l : List Nat) : makeW size T l < 18446744073709551616 := by
  unfold makeW; split
  · unfold wordAt; omega
  · omega
theorem vm_made (hM : MIn Z H p size vb g gw gh vn vk va M) (k : Nat) (hk : 1 ≤ k ∧ k ≤ 9) (s : Value) (l : List Nat) (hl : ∀ x ∈ l, x < 18446744073709551616) (hs : ∃ Z', Sl rW Z' H s l ∧ ¬ Z' g ∧ ¬ Z' gw ∧ ¬ Z' gh) (R : Value → HHeap → Prop)
    (hR : ∀ H', MIn Z H' p size vb g gw gh vn vk va { M with T := makeT size M.T k l } → (∀ b, b ≠ g → b ≠ gw → b ≠ gh → H'.get b = H.get b) → H'.next = H.next → R (U (makeW size M.T l)) H') :
    HCalls Tryz.prog 31 [ptr p 0, I (k : Nat), s] H R := by
  obtain ⟨Z', hs, z1, z2, z3⟩ := hs
  obtain ⟨a, c, rfl⟩ := hs.len
  refine HCalls.of_hw Tryz.func31 rfl _ Tryz.ntmps31 _ (by rw [Tryz.results31]) ?_
  rw [hframe0_eq _ _ (by simp)]
  simp only [List.zipIdx_cons, List.zipIdx_nil, List.map_cons, List.map_nil, Nat.reduceAdd]
  simp (disch := first | omega | (show allOne _ = true; simp [allOne, Value.oneCell', S]) | (simp only [qz]; first | done | omega)) only [go_sem, hM.m, ldc_cells, mcells]
  have n1 := hM.A.ne1
  have n2 := hM.A.ne2
  have n3 := hM.A.ne3
  refine arena_Alloc _ _ _ _ _ _ hM.A k _ l l.length rfl hl a c rfl (fun H' f => ?_) _ ?_ ?_ ?_
  · exact (hs.ext (Z' := Z') fun b hb => ⟨hb, f b (by rintro rfl; exact z1 hb) (by rintro rfl; exact z2 hb) (by rintro rfl; exact z3 hb)⟩).srcW
  · intro _ hn hu
    have e : makeT size M.T k l = M.T ++ [⟨k, l⟩] := by unfold makeT; rw [if_pos ⟨hn, hu⟩]
    have e' : makeW size M.T l = wordAt (usedOf M.T) := by unfold makeW; rw [if_pos ⟨hn, hu⟩]
    rw [e, e'] at hR
    have := hR (putT H g gw gh size (M.T ++ [⟨k, l⟩])) (hM.setA (H' := putT H g gw gh size (M.T ++ [⟨k, l⟩])) ⟨by unfold putT; simp (disch := first | omega | (simp only [nx_push, nx_set, nx_kill]; done) | (simp only [nx_push, nx_set, nx_kill]; omega)) only [get_push_ne, get_push_eq, get_set_ne, get_set_eq, get_kill_ne, nx_push, nx_set, nx_kill], by unfold putT; simp (disch := first | omega | (simp only [nx_push, nx_set, nx_kill]; done) | (simp only [nx_push, nx_set, nx_kill]; omega)) only [get_push_ne, get_push_eq, get_set_ne, get_set_eq, get_kill_ne, nx_push, nx_set, nx_kill], by unfold putT; simp (disch := first | omega | (simp only [nx_push, nx_set, nx_kill]; done) | (simp only [nx_push, nx_set, nx_kill]; omega)) only [get_push_ne, get_push_eq, get_set_ne, get_set_eq, get_kill_ne, nx_push, nx_set, nx_kill], by
      rw [usedOf_append]; simp [usedOf, Thing.room]; omega, hM.A.big, hM.A.pos, by
      intro t ht
      rcases List.mem_append.1 ht with ht | ht
      · exact hM.A.ok t ht
      · simp at ht; subst ht; exact ⟨by simp; omega, by simp; omega, by simp; omega, hl⟩, n1, n2, n3⟩ (fun b b1 b2 b3 => by unfold putT; simp (disch := first | omega | (simp only [nx_push, nx_set, nx_kill]; done) | (simp only [nx_push, nx_set, nx_kill]; omega)) only [get_push_ne, get_push_eq, get_set_ne, get_set_eq, get_kill_ne, nx_push, nx_set, nx_kill])) (fun b b1 b2 b3 => by unfold putT; simp (disch := first | omega | (simp only [nx_push, nx_set, nx_kill]; done) | (simp only [nx_push, nx_set, nx_kill]; omega)) only [get_push_ne, get_push_eq, get_set_ne, get_set_eq, get_kill_ne, nx_push, nx_set, nx_kill]) (by unfold putT; simp (disch := first | omega | (simp only [nx_push, nx_set, nx_kill]; done) | (simp only [nx_push, nx_set, nx_kill]; omega)) only [get_push_ne, get_push_eq, get_set_ne, get_set_eq, get_kill_ne, nx_push, nx_set, nx_kill])
    rw [show ((k : Int)).toNat = k from rfl]
    generalize putT H g gw gh size (M.T ++ [⟨k, l⟩]) = H2 at *
    simp (disch := first | omega | (show allOne _ = true; simp [allOne, Value.oneCell', S]) | (simp only [qz]; first | done | omega)) only [go_sem]
    exact this
  · intro _ hn hu
    have e : makeT size M.T k l = M.T := by unfold makeT; rw [if_neg (by omega)]
    have e' : makeW size M.T l = 0 := by unfold makeW; rw [if_neg (by omega)]
    have := hR H (by rw [e]; exact hM) (fun _ _ _ _ => rfl) rfl
    rw [e'] at this
    simp (disch := first | omega | (show allOne _ = true; simp [allOne, Value.oneCell', S]) | (simp only [qz]; first | done | omega)) only [go_sem]
    exact this
  · intro h3
    have e : makeT size M.T k l = M.T := by unfold makeT; rw [if_neg (by omega)]
    have e' : makeW size M.T l = 0 := by unfold makeW; rw [if_neg (by omega)]
    have := hR H (by rw [e]; exact hM) (fun _ _ _ _ => rfl) rfl
    rw [e'] at this
    simp (disch := first | omega | (show allOne _ = true; simp [allOne, Value.oneCell', S]) | (simp only [qz]; first | done | omega)) only [go_sem]
    exact this
theorem vm_enter (hM : MIn Z H p size vb g gw gh vn vk va M) (w b a : Nat) (hw : w < 18446744073709551616) (hb : b < 1000000) (ha : a < 1000000) (R : Value → HHeap → Prop)
    (hR : ∀ H', MIn Z H' p size vb g gw gh vn vk va (M.enter w b a) → Kp Z H H' → R (.tuple #[]) H') :
    HCalls Tryz.prog 126 [ptr p 0, U w, I (b : Nat), I (a : Nat)] H R := by
  have g1 := gt_lt hM.A.ok w 2
  have g2 := gt_lt hM.A.ok w 3
  have g3 := gt_lt hM.A.ok w 4
  refine HCalls.of_hw Tryz.func126 rfl _ Tryz.ntmps126 _ (by rw [Tryz.results126]) ?_
  rw [hframe0_eq _ _ (by simp)]
  simp only [List.zipIdx_cons, List.zipIdx_nil, List.map_cons, List.map_nil, Nat.reduceAdd]
  simp (disch := first | omega | (show allOne _ = true; simp [allOne, Value.oneCell', S]) | (simp only [qz]; first | done | omega)) only [go_sem, hM.m, ldc_cells, mcells, stc_cells, set_set]
  have M1 := hM.put (M' := { M with bl := b, pc := a }) rfl rfl rfl rfl ⟨hM.ok.v, hM.ok.e, hM.ok.s, hM.ok.f, hM.ok.nm, hM.ok.ask, hb, ha, hM.ok.nml, hM.ok.kpl, hM.ok.askl⟩
  have K1 : Kp Z H (H.set p (.cells (mcells vb g vn vk va { M with bl := b, pc := a }) true)) := Kp.set hM.zp.1
  have e1 : mcells vb g vn vk va { M with bl := b, pc := a } = [vb, ptr g 0, vn, vk, I (M.st : Nat), I (b : Nat), I (a : Nat), U M.v, U M.e, U M.s, U M.f, I (M.er : Nat), I (M.op : Nat), va] := rfl
  rw [← e1]
  generalize H.set p (.cells (mcells vb g vn vk va { M with bl := b, pc := a }) true) = H1 at *
  refine vm_get M1 w 2 hw _ ?_
  simp (disch := first | omega | (show allOne _ = true; simp [allOne, Value.oneCell', S]) | (simp only [qz]; first | done | omega)) only [go_sem, M1.m, ldc_cells, mcells, stc_cells, set_set]
  refine vm_get M1 w 3 hw _ ?_
  simp (disch := first | omega | (show allOne _ = true; simp [allOne, Value.oneCell', S]) | (simp only [qz]; first | done | omega)) only [go_sem, M1.m, ldc_cells, mcells, stc_cells, set_set]
  refine vm_get M1 w 4 hw _ ?_
  simp (disch := first | omega | (show allOne _ = true; simp [allOne, Value.oneCell', S]) | (simp only [qz]; first | done | omega)) only [go_sem, M1.m, ldc_cells, mcells, stc_cells, set_set]
  exact hR _ (M1.put (M' := M.enter w b a) rfl rfl rfl rfl ⟨hM.ok.v, g1, g2, g3, hM.ok.nm, hM.ok.ask, hb, ha, hM.ok.nml, hM.ok.kpl, hM.ok.askl⟩) (K1.trans (Kp.set M1.zp.1))
end
end Go.HL
/-
  Walks: the value is told.
-/
namespace Go.HL
open Go.RowKit Go.Proofs
set_option maxHeartbeats 4000000
set_option maxRecDepth 100000
set_option linter.unusedSimpArgs false
set_option linter.unusedVariables false
theorem lenAt_lt {Z : Zs} {H : HHeap} {vb : Value} {B : List Bk} (h : Sl rBk Z H vb B) (b : Nat) : lenAt B b < 1000000 := by
  unfold lenAt
  cases hx : B[b]? with
  | none => simp
  | some x =>
    obtain ⟨_, _, _, _, _, _, _, _, _, _, _, _, _, h, _⟩ := bk_at h hx
    exact h
theorem placeF_lt {B : List Bk} {T : Things} {w b a : Nat} (h : placeF B T w = some (b, a)) : b < B.length ∧ a < lenAt B b := by
  unfold placeF at h
  split at h
  · split at h
    · split at h
      · cases h; rename_i x y _ _ hh
        refine ⟨by omega, ?_⟩
        omega
      · cases h
    · cases h
  · cases h
section
variable {Z : Zs} {H : HHeap} {p size : Nat} {vb : Value} {g gw gh : Nat} {vn vk va : Value} {M : MS} {B : List Bk}
theorem vm_tell (hM : MIn Z H p size vb g gw gh vn vk va M) (hB : Sl rBk Z H vb B) (hBl : B.length < 1000000) (R : Value → HHeap → Prop)
    (hR : ∀ H', MIn Z H' p size vb g gw gh vn vk va (MS.tell B M) → Kp Z H H' → R (.tuple #[]) H') :
    HCalls Tryz.prog 72 [ptr p 0] H R := by
  refine HCalls.of_hw Tryz.func72 rfl _ Tryz.ntmps72 _ (by rw [Tryz.results72]) ?_
  rw [hframe0_eq _ _ (by simp)]
  simp only [List.zipIdx_cons, List.zipIdx_nil, List.map_cons, List.map_nil, Nat.reduceAdd]
  by_cases h1 : M.f = 2
  · have e : MS.tell B M = { M with st := 3 } := by unfold MS.tell; rw [if_pos h1]
    rw [e] at hR
    simp (disch := first | omega | (show allOne _ = true; simp [allOne, Value.oneCell', S]) | (simp only [qz]; first | done | omega)) only [go_sem, hM.m, ldc_cells, mcells, stc_cells, set_set, h1]
    have := hR _ (hM.put (M' := { M with st := 3 }) rfl rfl rfl rfl ⟨hM.ok.v, hM.ok.e, hM.ok.s, hM.ok.f, hM.ok.nm, hM.ok.ask, hM.ok.bl, hM.ok.pc, hM.ok.nml, hM.ok.kpl, hM.ok.askl⟩) (Kp.set hM.zp.1)
    unfold mcells at this
    simp only [h1] at this
    exact this
  · simp (disch := first | omega | (show allOne _ = true; simp [allOne, Value.oneCell', S]) | (simp only [qz]; first | done | omega)) only [go_sem, hM.m, ldc_cells, mcells, stc_cells, set_set]
    refine vm_place hM hB M.f hM.ok.f _ ?_
    cases hp : placeF B M.T M.f with
    | none =>
      have e : MS.tell B M = M.fail 100 := by unfold MS.tell; rw [if_neg h1, hp]
      rw [e] at hR
      unfold placeV
      simp (disch := first | omega | (show allOne _ = true; simp [allOne, Value.oneCell', S]) | (simp only [qz]; first | done | omega)) only [go_sem]
      refine vm_fail hM 100 _ ?_
      intro h2 h3
      simp (disch := first | omega | (show allOne _ = true; simp [allOne, Value.oneCell', S]) | (simp only [qz]; first | done | omega)) only [go_sem]
      exact hR _ h2 h3
    | some x =>
      obtain ⟨b, a⟩ := x
      have e : MS.tell B M = M.enter M.f b a := by unfold MS.tell; rw [if_neg h1, hp]
      rw [e] at hR
      have hl := placeF_lt hp
      have := lenAt_lt hB b
      unfold placeV
      simp (disch := first | omega | (show allOne _ = true; simp [allOne, Value.oneCell', S]) | (simp only [qz]; first | done | omega)) only [go_sem, hM.m, ldc_cells, mcells]
      refine vm_enter hM M.f b a hM.ok.f (by omega) (by omega) _ ?_
      intro H' h2 h3
      simp (disch := first | omega | (show allOne _ = true; simp [allOne, Value.oneCell', S]) | (simp only [qz]; first | done | omega)) only [go_sem]
      exact hR _ h2 h3
end
end Go.HL
/-
  Walks: an env some times out; a row turned about; words of the stack.
-/
namespace Go.HL
open Go.RowKit Go.Proofs
set_option maxHeartbeats 4000000
set_option maxRecDepth 100000
set_option linter.unusedSimpArgs false
set_option linter.unusedVariables false
def outV : Option Nat → Value → Value
  | some w, _ => .tuple #[U w, .bool true]
  | none, v => .tuple #[v, .bool false]
theorem lenN_le {T : Things} (h : TOk T) (w : Nat) : lenN T w ≤ 255 := by
  unfold lenN
  cases hf : findT T w with
  | none => simp
  | some t =>
    simp only
    have ht : t ∈ T := by unfold findT at hf; split at hf; exact (atP_words T _ t hf).2.2.2; cases hf
    exact (h t ht).len
section
variable {Z : Zs} {H : HHeap} {p size : Nat} {vb : Value} {g gw gh : Nat} {vn vk va : Value} {M : MS} {B : List Bk}
theorem vm_out (hM : MIn Z H p size vb g gw gh vn vk va M) (n a : Nat) (hn : n < 1000000) (ha : a < 1000000) (R : Value → HHeap → Prop) (hR : ∀ x : Nat, R (outV (M.out n a) (U x)) H) :
    HCalls Tryz.prog 127 [ptr p 0, I (n : Nat), I (a : Nat)] H R := by
  have hw0 := hM.ok.e
  refine HCalls.of_hw Tryz.func127 rfl _ Tryz.ntmps127 _ (by rw [Tryz.results127]) ?_
  rw [hframe0_eq _ _ (by simp)]
  simp only [List.zipIdx_cons, List.zipIdx_nil, List.map_cons, List.map_nil, Nat.reduceAdd]
  simp (disch := first | omega | (show allOne _ = true; simp [allOne, Value.oneCell', S]) | (simp only [qz]; first | done | omega)) only [go_sem, hM.m, ldc_cells, mcells]
  refine Hwp.loop (fun k fr H' => ∃ i w, k = n - i ∧ i ≤ n ∧ H' = H ∧ w < 18446744073709551616 ∧ outF M.T (n - i) w = outF M.T n M.e ∧ FLe (hfr 56 [(15, I (i : Nat)), (8, U w), (14, I (n : Nat)), (0, ptr p 0), (2, I (a : Nat))]) fr) n ?_ ?_
  · exact ⟨0, M.e, rfl, by omega, rfl, hw0, rfl, fle_of (by simp [flook])⟩
  · rintro k fr H' ⟨i, w, rfl, h1, rfl, hw, ho, hle⟩
    refine Hwp.weaken hle (HW.sound _ _ _ _ ?_)
    by_cases hc : i < n
    · obtain ⟨m, hm⟩ : ∃ m, n - i = m + 1 := ⟨n - i - 1, by omega⟩
      rw [hm, outF] at ho
      simp (disch := first | omega | (show allOne _ = true; simp [allOne, Value.oneCell', S]) | (simp only [qz]; first | done | omega)) only [go_sem, hM.m, ldc_cells, mcells]
      refine arena_Kind _ _ _ _ _ _ hM.A w hw _ ?_
      by_cases h3 : kindN M.T w = 3
      · simp (disch := first | omega | (show allOne _ = true; simp [allOne, Value.oneCell', S]) | (simp only [qz]; first | done | omega)) only [go_sem, hM.m, ldc_cells, mcells, h3]
        refine arena_Len _ _ _ _ _ _ hM.A w hw _ ?_
        by_cases h4 : lenN M.T w = 0
        · rw [if_neg (by omega)] at ho
          have e : M.out n a = none := by unfold MS.out; rw [← ho]
          have := hR 0
          rw [e] at this
          simp (disch := first | omega | (show allOne _ = true; simp [allOne, Value.oneCell', S]) | (simp only [qz]; first | done | omega)) only [go_sem, h4]
          exact this
        · rw [if_pos ⟨h3, h4⟩] at ho
          simp (disch := first | omega | (show allOne _ = true; simp [allOne, Value.oneCell', S]) | (simp only [qz]; first | done | omega)) only [go_sem, hM.m, ldc_cells, mcells]
          refine vm_get hM w 0 hw _ ?_
          simp (disch := first | omega | (show allOne _ = true; simp [allOne, Value.oneCell', S]) | (simp only [qz]; first | done | omega)) only [go_sem]
          refine ⟨_, ?_, i + 1, _, rfl, by omega, gt_lt hM.A.ok w 0, by rw [show n - (i + 1) = m by omega]; exact ho, fle_of (by simp [flook])⟩
          omega
      · rw [if_neg (by omega)] at ho
        have e : M.out n a = none := by unfold MS.out; rw [← ho]
        have := hR 0
        rw [e] at this
        simp (disch := first | omega | (show allOne _ = true; simp [allOne, Value.oneCell', S]) | (simp only [qz]; first | done | omega)) only [go_sem]
        exact this
    · have e0 : n - i = 0 := by omega
      rw [e0, outF] at ho
      have e : M.out n a = if kindN M.T w = 3 ∧ a + 1 < lenN M.T w then some w else none := by unfold MS.out; rw [← ho]
      have := hR w
      rw [e] at this
      simp (disch := first | omega | (show allOne _ = true; simp [allOne, Value.oneCell', S]) | (simp only [qz]; first | done | omega)) only [go_sem, hM.m, ldc_cells, mcells]
      refine arena_Kind _ _ _ _ _ _ hM.A w hw _ ?_
      by_cases h3 : kindN M.T w = 3
      · simp (disch := first | omega | (show allOne _ = true; simp [allOne, Value.oneCell', S]) | (simp only [qz]; first | done | omega)) only [go_sem, hM.m, ldc_cells, mcells, h3]
        refine arena_Len _ _ _ _ _ _ hM.A w hw _ ?_
        have hle := lenN_le hM.A.ok w
        by_cases h4 : a + 1 < lenN M.T w
        · rw [if_pos ⟨h3, h4⟩] at this
          simp (disch := first | omega | (show allOne _ = true; simp [allOne, Value.oneCell', S]) | (simp only [qz]; first | done | omega)) only [go_sem]
          rw [decide_eq_true (by omega)]
          exact this
        · rw [if_neg (by omega)] at this
          simp (disch := first | omega | (show allOne _ = true; simp [allOne, Value.oneCell', S]) | (simp only [qz]; first | done | omega)) only [go_sem]
          rw [decide_eq_false (by omega)]
          exact this
      · rw [if_neg (by omega)] at this
        simp (disch := first | omega | (show allOne _ = true; simp [allOne, Value.oneCell', S]) | (simp only [qz]; first | done | omega)) only [go_sem, hM.m, ldc_cells, mcells]
        exact this
end
end Go.HL
/-
  Walks: a row turned about; words of the stack.
-/
namespace Go.HL
open Go.RowKit Go.Proofs
set_option maxHeartbeats 4000000
set_option maxRecDepth 100000
set_option linter.unusedSimpArgs false
set_option linter.unusedVariables false
theorem set_eq_self {H : HHeap} {b : Nat} {o : HObj} (h : H.get b = some o) : H.set b o = H := by
  unfold HHeap.set
  cases H with
  | mk n gt =>
    congr 1
    funext x
    by_cases e : x = b
    · rw [if_pos e, e]; exact h.symm
    · rw [if_neg e]
/-- A row in a block of its own, turned about. -/
theorem slices_Reverse (H : HHeap) (b c : Nat) (k : Option Nat) (l : List Nat) (hl : l.length < 1000000) (hc : l.length ≤ c) (hb : H.get b = some (.cells (l.map U) true)) (R : Value → HHeap → Prop)
    (hR : R (.tuple #[]) (H.set b (.cells (l.reverse.map U) true))) : HCalls Tryz.prog 167 [.slice (some ⟨b, 0, k⟩) l.length c] H R := by
  refine HCalls.of_hw Tryz.func167 rfl _ Tryz.ntmps167 _ (by rw [Tryz.results167]) ?_
  rw [hframe0_eq _ _ (by simp)]
  simp only [List.zipIdx_cons, List.zipIdx_nil, List.map_cons, List.map_nil, Nat.reduceAdd]
  simp (disch := first | omega | (show allOne _ = true; simp [allOne, Value.oneCell', S]) | (simp only [qz]; first | done | omega)) only [go_sem]
  refine Hwp.loop (fun m fr H' => ∃ (i : Nat) (l' : List Nat), m = l.length - i ∧ 2 * i ≤ l.length + 1 ∧ l'.length = l.length ∧ H' = H.set b (.cells (l'.map U) true) ∧
    (∀ j, j < l.length → l'[j]? = if j < i ∨ l.length - i ≤ j then l[l.length - 1 - j]? else l[j]?) ∧ FLe (hfr 28 [(2, I (i : Nat)), (3, I ((l.length : Int) - 1 - i)), (0, .slice (some ⟨b, 0, k⟩) l.length c)]) fr) l.length ?_ ?_
  · refine ⟨0, l, rfl, by omega, rfl, ?_, fun j hj => ?_, fle_of (by simp [flook])⟩
    · rw [set_eq_self hb]
    · rw [if_neg (by omega)]
  · rintro m fr H' ⟨i, l', rfl, h1, h2, rfl, hl', hle⟩
    refine Hwp.weaken hle (HW.sound _ _ _ _ ?_)
    by_cases hc' : (i : Int) < (l.length : Int) - 1 - i
    · obtain ⟨j, hj⟩ : ∃ j : Nat, (j : Int) = (l.length : Int) - 1 - i := ⟨l.length - 1 - i, by omega⟩
      rw [← hj]
      have hi : l'[i]? = some l'[i] := List.getElem?_eq_getElem (by omega)
      have hjj : l'[j]? = some l'[j] := List.getElem?_eq_getElem (by omega)
      generalize l'[i] = x at hi
      generalize l'[j] = y at hjj
      have gi : (l'.map U)[i]? = some (U x) := by rw [List.getElem?_map, hi]; rfl
      have gj : (l'.map U)[j]? = some (U y) := by rw [List.getElem?_map, hjj]; rfl
      have hxl : l[i]? = some x := by rw [← hi, hl' i (by omega), if_neg (by omega)]
      have hyl : l[j]? = some y := by rw [← hjj, hl' j (by omega), if_neg (by omega)]
      simp (disch := first | omega | (show allOne _ = true; simp [allOne, Value.oneCell', S]) | (simp only [qz]; first | done | omega)) only [go_sem]
      refine Hwp.drawn mixed [0, 0, 0, 0, 0, 0, 48, 112, 0, 0, 768, 1792, 4083, 8179, 16383, 32767] (.op 0 (.op 1 (.op 2 (.op 3 (.op 4 (.op 5 (.op 6 (.op 7 (.op 8 (.op 9 (.op 10 (.op 11 (.op 12 (.eff 13 (.op 14 (.eff 15 .done .stop)) .stop)))))))))))))) (by kernel_rfl) ?_
      simp (disch := first | omega | (show allOne _ = true; simp [allOne, Value.oneCell', S]) | (simp only [qz]; first | done | omega)) only [go_sem, get_set_same, ixa_ok, gi, gj, ldc_cells, stc_cells, set_set]
      refine ⟨_, ?_, i + 1, (l'.set i y).set j x, rfl, by omega, by simp [h2], ?_, fun k hk => ?_, fle_of (by simp [flook]; omega)⟩
      · omega
      · rw [List.map_set, List.map_set]
      · rw [List.getElem?_set, List.getElem?_set]
        by_cases k1 : j = k
        · subst k1
          rw [if_pos rfl, if_pos (by simp; omega), if_pos (by omega), show l.length - 1 - j = i by omega, hxl]
        · rw [if_neg k1]
          by_cases k2 : i = k
          · subst k2
            rw [if_pos rfl, if_pos (by omega), if_pos (by omega), show l.length - 1 - i = j by omega, hyl]
          · rw [if_neg k2, hl' k hk]
            by_cases k3 : k < i ∨ l.length - i ≤ k
            · rw [if_pos k3, if_pos (by omega)]
            · rw [if_neg k3, if_neg (by omega)]
    · have e : l' = l.reverse := by
        apply List.ext_getElem?
        intro k
        by_cases hk : k < l.length
        · rw [hl' k hk, List.getElem?_reverse hk]
          by_cases k3 : k < i ∨ l.length - i ≤ k
          · rw [if_pos k3]
          · rw [if_neg k3, show l.length - 1 - k = k by omega]
        · rw [List.getElem?_eq_none (by omega), List.getElem?_eq_none (by simp; omega)]
      rw [e]
      simp (disch := first | omega | (show allOne _ = true; simp [allOne, Value.oneCell', S]) | (simp only [qz]; first | done | omega)) only [go_sem]
      exact hR
theorem Gr.cellsW {Z : Zs} {H : HHeap} {b : Nat} {cs : List Value} {l : List Nat} (h1 : cs.length = l.length * 1) (h2 : ∀ i x, l[i]? = some x → rW.r Z H (flatW cs 0 1 i) x) : cs = l.map U := by
  apply List.ext_getElem?
  intro i
  rw [List.getElem?_map]
  by_cases hi : i < l.length
  · have := h2 i l[i] (List.getElem?_eq_getElem hi)
    have := rOne_at (f := U) (Z := Z) (H := H) (o := 0) this
    rw [Nat.zero_add, Nat.mul_one] at this
    rw [this, List.getElem?_eq_getElem hi]; rfl
  · rw [List.getElem?_eq_none (by omega), List.getElem?_eq_none (by omega)]; rfl
theorem flatW_U (Z : Zs) (H : HHeap) (l : List Nat) (i x : Nat) (h : l[i]? = some x) : rW.r Z H (flatW (l.map U) 0 1 i) x := by
  show flatW (l.map U) 0 1 i = [U x]
  unfold flatW
  rw [Nat.zero_add, Nat.mul_one, ← List.map_drop, ← List.map_take, List.drop_eq_getElem_cons (List.getElem?_eq_some_iff.1 h).1, (List.getElem?_eq_some_iff.1 h).2]; rfl
theorem Reverse_nil (H : HHeap) (a : Option Addr) (R : Value → HHeap → Prop) (hR : R (.tuple #[]) H) : HCalls Tryz.prog 167 [.slice a 0 0] H R := by
  refine HCalls.of_hw Tryz.func167 rfl _ Tryz.ntmps167 _ (by rw [Tryz.results167]) ?_
  rw [hframe0_eq _ _ (by simp)]
  simp only [List.zipIdx_cons, List.zipIdx_nil, List.map_cons, List.map_nil, Nat.reduceAdd]
  simp (disch := first | omega | (show allOne _ = true; simp [allOne, Value.oneCell', S]) | (simp only [qz]; first | done | omega)) only [go_sem]
  refine Hwp.loop (fun m fr H' => m = 0 ∧ H' = H ∧ FLe (hfr 28 [(2, I 0), (3, I (-1))]) fr) 0 ?_ ?_
  · exact ⟨rfl, rfl, fle_of (by simp [flook])⟩
  · rintro m fr H' ⟨rfl, rfl, hle⟩
    refine Hwp.weaken hle (HW.sound _ _ _ _ ?_)
    simp (disch := first | omega | (show allOne _ = true; simp [allOne, Value.oneCell', S]) | (simp only [qz]; first | done | omega)) only [go_sem]
    exact hR
theorem Reverse_Gr {Z : Zs} {H : HHeap} {v : Value} {l : List Nat} (hG : Gr rW Z H v l) (hl : l.length < 1000000) (R : Value → HHeap → Prop)
    (hR : ∀ H', Gr rW Z H' v l.reverse → (∀ b, b ∉ sblk v → H'.get b = H.get b) → H'.next = H.next → R (.tuple #[]) H') : HCalls Tryz.prog 167 [v] H R := by
  rcases hG with ⟨rfl, rfl⟩ | ⟨b, cs, rw, rfl, rfl, h3, h4⟩ | ⟨b, cs, h3, rfl, h4, h5, h6, h7⟩
  · exact Reverse_nil _ _ _ (hR H (.inl ⟨rfl, rfl⟩) (fun _ _ => rfl) rfl)
  · exact Reverse_nil _ _ _ (hR H (.inr (.inl ⟨b, cs, rw, rfl, rfl, h3, h4⟩)) (fun _ _ => rfl) rfl)
  · have e : cs = l.map U := Gr.cellsW (b := b) h6 h7
    subst e
    refine slices_Reverse _ _ _ _ _ hl (Nat.le_refl _) h5 _ (hR _ (.inr (.inr ⟨b, l.reverse.map U, by simpa using h3, by rw [List.length_reverse], h4, get_set_same _ _, by show _ = _ * 1; simp, fun i x hx => flatW_U _ _ _ _ _ hx⟩)) (fun c hc => get_set_ne _ _ _ (fun e => hc (by simp [sblk, e]))) rfl)
section
variable {Z : Zs} {H : HHeap} {p size : Nat} {vb : Value} {g gw gh : Nat} {vn vk va : Value} {M : MS} {B : List Bk}
def takeV : Option (List Nat × Nat) → Value → Value
  | some (_, s), v => .tuple #[v, U s, .bool true]
  | none, _ => .tuple #[.slice none 0 0, U 0, .bool false]
theorem takeF_lt {T : Things} (hT : TOk T) : ∀ (n s : Nat) (l : List Nat) (s' : Nat), s < 18446744073709551616 → takeF T n s = some (l, s') → l.length = n ∧ (∀ x ∈ l, x < 18446744073709551616) ∧ s' < 18446744073709551616
  | 0, s, l, s', hs, h => by rw [takeF] at h; cases h; exact ⟨rfl, by simp, hs⟩
  | n + 1, s, l, s', hs, h => by
    rw [takeF] at h
    split at h
    · cases h1 : takeF T n (gt T s 1) with
      | none => rw [h1] at h; cases h
      | some x =>
        obtain ⟨l1, s1⟩ := x
        rw [h1] at h
        cases h
        have := takeF_lt hT n _ _ _ (gt_lt hT s 1) h1
        refine ⟨by simp [this.1], fun x hx => ?_, this.2.2⟩
        rcases List.mem_cons.1 hx with rfl | hx
        · exact gt_lt hT s 0
        · exact this.2.1 x hx
    · cases h
theorem take_lt (hM : MIn Z H p size vb g gw gh vn vk va M) {n : Nat} {l : List Nat} {s : Nat} (h : M.take n = some (l, s)) : l.length = n ∧ (∀ x ∈ l, x < 18446744073709551616) ∧ s < 18446744073709551616 := by
  unfold MS.take at h
  cases h1 : takeF M.T n M.s with
  | none => rw [h1] at h; cases h
  | some x =>
    obtain ⟨l1, s1⟩ := x
    rw [h1] at h
    cases h
    have := takeF_lt hM.A.ok n _ _ _ hM.ok.s h1
    exact ⟨by simp [this.1], fun x hx => this.2.1 x (by simpa using hx), this.2.2⟩
theorem vm_take (hM : MIn Z H p size vb g gw gh vn vk va M) (hZ : ∀ b, Z b → b < H.next) (n : Nat) (hn : n < 1000000) (R : Value → HHeap → Prop)
    (hR : ∀ v H', Old H H' → (∀ l s, M.take n = some (l, s) → Gr rW Z H' v l ∧ ∀ b ∈ sblk v, H.next ≤ b ∧ b < H'.next) → R (takeV (M.take n) v) H') :
    HCalls Tryz.prog 129 [ptr p 0, I (n : Nat)] H R := by
  refine HCalls.ok fun hok => ?_
  have hw0 := hM.ok.s
  refine HCalls.of_hw Tryz.func129 rfl _ Tryz.ntmps129 _ (by rw [Tryz.results129]) ?_
  rw [hframe0_eq _ _ (by simp)]
  simp only [List.zipIdx_cons, List.zipIdx_nil, List.map_cons, List.map_nil, Nat.reduceAdd]
  simp (disch := first | omega | (show allOne _ = true; simp [allOne, Value.oneCell', S]) | (simp only [qz]; first | done | omega)) only [go_sem, hM.m, ldc_cells, mcells]
  refine Hwp.loop (fun k fr K => ∃ (i : Nat) (acc : List Nat) (s : Nat) (v : Value), k = n - i ∧ i ≤ n ∧ acc.length = i ∧ Old H K ∧ Gr rW Z K v acc ∧ (∀ b ∈ sblk v, H.next ≤ b ∧ b < K.next) ∧ s < 18446744073709551616 ∧ takeF M.T n M.s = (takeF M.T (n - i) s).map (fun x => (acc ++ x.1, x.2)) ∧
    FLe (hfr 35 [(15, I (i : Nat)), (14, I (n : Nat)), (7, v), (8, U s), (0, ptr p 0)]) fr) n ?_ ?_
  · exact ⟨0, [], M.s, _, rfl, by omega, rfl, Old.refl _, Gr.nil _ _ _, by simp [sblk], hw0, by simp, fle_of (by simp [flook])⟩
  · rintro k fr K ⟨i, acc, s, v, rfl, h1, ha, hO, hG, hb, hs, ht, hle⟩
    refine Hwp.weaken hle (HW.sound _ _ _ _ ?_)
    have hMK := hM.old hok hO hZ (fun _ h => h) (fun _ h => .inl h)
    have hZK : ∀ b, Z b → b < K.next := fun b hb => Nat.lt_of_lt_of_le (hZ b hb) hO.1
    by_cases hc : i < n
    · obtain ⟨m, hm⟩ : ∃ m, n - i = m + 1 := ⟨n - i - 1, by omega⟩
      rw [hm, takeF] at ht
      simp (disch := first | omega | (show allOne _ = true; simp [allOne, Value.oneCell', S]) | (simp only [qz]; first | done | omega)) only [go_sem, hMK.m, ldc_cells, mcells]
      refine vm_is hMK s 1 2 hs _ ?_
      by_cases h3 : isW M.T s 1 2 = true
      · rw [if_pos h3] at ht
        rw [h3]
        simp (disch := first | omega | (show allOne _ = true; simp [allOne, Value.oneCell', S]) | (simp only [qz]; first | done | omega)) only [go_sem]
        refine vm_get hMK s 0 hs _ ?_
        simp (disch := first | omega | (show allOne _ = true; simp [allOne, Value.oneCell', S]) | (simp only [qz]; first | done | omega)) only [go_sem]
        refine HGo_add1 (n := 1) (by' := 8) (x := gt M.T s 0) hG rfl (by omega) (get_push_same _) (Old.push _ _) hZK (fun b hm => (hb b hm).2) rfl (by omega) (by omega) ?_
        intro v' K' g1 g2 g3 g4
        have hO' : Old H K' := ⟨Nat.le_trans hO.1 g3, fun b hb' => by rw [g4 b (Nat.lt_of_lt_of_le hb' hO.1) (fun hm => by have := hb b hm; omega), hO.2 b hb']⟩
        have hMK' := hM.old hok hO' hZ (fun _ h => h) (fun _ h => .inl h)
        simp (disch := first | omega | (show allOne _ = true; simp [allOne, Value.oneCell', S]) | (simp only [qz]; first | done | omega)) only [go_sem]
        refine vm_get hMK' s 1 hs _ ?_
        simp (disch := first | omega | (show allOne _ = true; simp [allOne, Value.oneCell', S]) | (simp only [qz]; first | done | omega)) only [go_sem]
        refine ⟨_, ?_, i + 1, acc ++ [gt M.T s 0], _, v', rfl, by omega, by simp [ha], hO', g1, fun b hm => ⟨Nat.le_trans hO.1 (g2 b hm).1, (g2 b hm).2⟩, gt_lt hMK'.A.ok s 1, ?_, fle_of (by simp [flook])⟩
        · omega
        · rw [ht, show n - (i + 1) = m by omega]
          cases takeF M.T m (gt M.T s 1) with
          | none => rfl
          | some x => simp
      · have h3' : isW M.T s 1 2 = false := by simpa using h3
        rw [if_neg h3] at ht
        rw [h3']
        simp (disch := first | omega | (show allOne _ = true; simp [allOne, Value.oneCell', S]) | (simp only [qz]; first | done | omega)) only [go_sem]
        have e : M.take n = none := by unfold MS.take; rw [ht]; rfl
        have := hR (.slice none 0 0) K hO (fun l s h => by rw [e] at h; cases h)
        rw [e] at this
        exact this
    · have e0 : n - i = 0 := by omega
      rw [e0, takeF] at ht
      have e : M.take n = some (acc.reverse, s) := by unfold MS.take; rw [ht]; simp
      rw [e] at hR
      simp (disch := first | omega | (show allOne _ = true; simp [allOne, Value.oneCell', S]) | (simp only [qz]; first | done | omega)) only [go_sem]
      refine Reverse_Gr hG (by omega) _ ?_
      intro K' g1 g2 g3
      have hO' : Old H K' := ⟨by have := hO.1; omega, fun b hb' => by rw [g2 b (fun hm => by have := hb b hm; omega), hO.2 b hb']⟩
      have := hR v K' hO' (fun l s h => by cases h; exact ⟨g1, fun b hm => by have := hb b hm; omega⟩)
      simp (disch := first | omega | (show allOne _ = true; simp [allOne, Value.oneCell', S]) | (simp only [qz]; first | done | omega)) only [go_sem]
      exact this
end
end Go.HL
