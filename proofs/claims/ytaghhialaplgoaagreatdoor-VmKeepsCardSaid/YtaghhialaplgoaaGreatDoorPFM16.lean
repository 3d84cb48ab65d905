/-
  Walks: what is not reached is let go.
-/
import Derived.Test.YtaghhialaplgoaaGreatDoorPFM15
set_option linter.unusedVariables false
set_option linter.unusedSimpArgs false
namespace Go.HL
open Go.RowKit Go.Proofs
set_option maxHeartbeats 4000000
set_option maxRecDepth 100000
set_option linter.unusedSimpArgs false
set_option linter.unusedVariables false
theorem ptsA_ptw {H : HHeap} {b : Nat} : ∀ (l pre : List Nat), H.get b = some (.cells ((pre ++ l).map U) true) → PtW H (ptsA b pre.length l.length) l
  | [], _, _ => .nil
  | x :: l, pre, hg => by
    rw [List.length_cons, ptsA]
    refine .cons ⟨_, hg, by simp⟩ ?_
    have := ptsA_ptw l (pre ++ [x]) (by simpa using hg)
    simpa using this
theorem ptsS_ptw {H : HHeap} {b : Nat} : ∀ (l pre : List (Nat × Bool)), H.get b = some (.cells (scells (pre ++ l)) true) → PtW H (ptsS b pre.length l) (usedW l)
  | [], _, _ => .nil
  | (w, u) :: l, pre, hg => by
    have := ptsS_ptw l (pre ++ [(w, u)]) (by simpa using hg)
    rw [List.length_append, List.length_singleton] at this
    cases u with
    | true =>
      rw [ptsS, if_pos rfl]
      refine .cons ⟨_, hg, ?_⟩ this
      rw [scells_append, scells_cons, List.getElem?_append_right (by rw [scells_len]; omega), scells_len]
      simp
    | false =>
      rw [ptsS, if_neg (by simp)]
      exact this
section
variable {Z : Zs} {H : HHeap} {p size : Nat} {vb : Value} {g gw gh : Nat} {vn vk va : Value} {M : MS} {B : List Bk}
theorem MIn.ptw (h : MIn Z H p size vb g gw gh vn vk va M) : PtW H (mpts p vn vk va M) ([M.v, M.e, M.s, M.f] ++ M.ask ++ usedW M.nm ++ usedW M.kp) := by
  unfold mpts
  refine PtW.append (PtW.append (PtW.append ?_ ?_) ?_) ?_
  · exact .cons ⟨_, h.m, rfl⟩ (.cons ⟨_, h.m, rfl⟩ (.cons ⟨_, h.m, rfl⟩ (.cons ⟨_, h.m, rfl⟩ .nil)))
  · rcases h.ask with ⟨e, _⟩ | ⟨b, cs, rw, e, _⟩ | ⟨b, cs, e, hv, hz, hg, hl, hr⟩
    · rw [e]; exact .nil
    · rw [e]; exact .nil
    · have := Gr.cellsW (b := b) hl hr
      subst this
      have e2 : blkV va = b := by rw [hv]; rfl
      rw [e2]
      exact ptsA_ptw M.ask [] hg
  · obtain ⟨b, e, hg⟩ := h.nm
    have e2 : blkV vn = b := by rw [e]; rfl
    rw [e2]
    exact ptsS_ptw M.nm [] hg
  · rcases h.kp with ⟨e, _⟩ | ⟨b, cs, rw, e, _⟩ | ⟨b, cs, e, hv, hz, hg, hl, hr⟩
    · rw [e]; exact .nil
    · rw [e]; exact .nil
    · have := Gr.cellsS (b := b) hl hr
      subst this
      have e2 : blkV vk = b := by rw [hv]; rfl
      rw [e2]
      exact ptsS_ptw M.kp [] hg
theorem mpts_blk (h : MIn Z H p size vb g gw gh vn vk va M) : ∀ x ∈ mpts p vn vk va M, x.1 = p ∨ x.1 ∈ sblk vn ∨ x.1 ∈ sblk vk ∨ x.1 ∈ sblk va := by
  intro x hx
  unfold mpts at hx
  simp only [List.mem_append] at hx
  rcases hx with ((hx | hx) | hx) | hx
  · left
    simp at hx
    rcases hx with rfl | rfl | rfl | rfl <;> rfl
  · have e := ptsA_blk _ _ _ x hx
    rcases h.ask with ⟨h0, hv⟩ | ⟨b, cs, rw, h0, hv, _⟩ | ⟨b, cs, h0, hv, _⟩
    · rw [h0] at hx; simp [ptsA] at hx
    · rw [h0] at hx; simp [ptsA] at hx
    · right; right; right
      rw [e, hv]; simp [blkV, sblk]
  · have e := ptsS_blk _ _ _ x hx
    obtain ⟨b, hv, hg⟩ := h.nm
    right; left
    rw [e, hv]; simp [blkV, sblk]
  · have e := ptsS_blk _ _ _ x hx
    rcases h.kp with ⟨h0, hv⟩ | ⟨b, cs, rw, h0, hv, _⟩ | ⟨b, cs, h0, hv, _⟩
    · rw [h0] at hx; simp [ptsS] at hx
    · rw [h0] at hx; simp [ptsS] at hx
    · right; right; left
      rw [e, hv]; simp [blkV, sblk]
/-- A new arena. -/
theorem MIn.newA {H' : HHeap} {g' gw' gh' : Nat} {T : Things} (h : MIn Z H p size vb g gw gh vn vk va M) (ok : H.Ok) (hZ : ∀ b, Z b → b < H.next) (hO : Old H H') (hA : AtA H' g' gw' gh' size T) (hn : H.next ≤ g' ∧ H.next ≤ gw' ∧ H.next ≤ gh') :
    MIn Z (H'.set p (.cells (mcells vb g' vn vk va { M with T := T }) true)) p size vb g' gw' gh' vn vk va { M with T := T } := by
  have l := h.lt ok
  have h' := h.old ok hO hZ (fun _ h => h) (fun _ h => .inl h)
  exact {
    m := get_set_same _ _
    A := hA.frame fun b hb => get_set_ne _ _ _ (by rcases hb with rfl | rfl | rfl <;> omega)
    nm := by
      obtain ⟨b, e, hg⟩ := h'.nm
      exact ⟨b, e, by rw [get_set_ne _ _ _ (h.dn b (by simp [e, sblk])).1]; exact hg⟩
    kp := h'.kp.ext (fun b hb => ⟨hb, get_set_ne _ _ _ (by rintro rfl; exact h.zp.1 hb)⟩) fun b hb => ⟨get_set_ne _ _ _ (h.dk b hb).1, (h.kp.blk b hb).1⟩
    ask := h'.ask.ext (fun b hb => ⟨hb, get_set_ne _ _ _ (by rintro rfl; exact h.zp.1 hb)⟩) fun b hb => ⟨get_set_ne _ _ _ (h.da b hb).1, (h.ask.blk b hb).1⟩
    ok := ⟨h.ok.v, h.ok.e, h.ok.s, h.ok.f, h.ok.nm, h.ok.ask, h.ok.bl, h.ok.pc, h.ok.nml, h.ok.kpl, h.ok.askl⟩
    zp := ⟨h.zp.1, fun x => by have := hZ _ x; omega, fun x => by have := hZ _ x; omega, fun x => by have := hZ _ x; omega, h.zp.2.2.2.2⟩
    pg := ⟨by omega, by omega, by omega⟩
    dn := fun b hb => by have := l.2.2.2.2.1 b hb; exact ⟨(h.dn b hb).1, by omega, by omega, by omega⟩
    dk := fun b hb => by have := l.2.2.2.2.2.1 b hb; exact ⟨(h.dk b hb).1, by omega, by omega, by omega, (h.dk b hb).2.2.2.2⟩
    da := fun b hb => by have := l.2.2.2.2.2.2 b hb; exact ⟨(h.da b hb).1, by omega, by omega, by omega, (h.da b hb).2.2.2.2⟩ }
theorem Gr.rowAt {Z : Zs} {H : HHeap} {v : Value} {l : List Nat} (h : Gr rW Z H v l) (ok : H.Ok) (hne : l ≠ []) : RowAt H v (l.map U) := by
  rcases h with ⟨e, _⟩ | ⟨b, cs, rw, e, _⟩ | ⟨b, cs, e, hv, hz, hg, hl, hr⟩
  · exact absurd e hne
  · exact absurd e hne
  · have := Gr.cellsW (b := b) hl hr
    subst this
    exact ⟨_, l.length, by rw [hv, List.length_map], .inr ⟨b, 0, _, _, true, rfl, ok _ _ hg, hg, fun i v hv => by rw [Nat.zero_add]; exact hv⟩⟩
theorem wrs_snoc {xs : List (Nat × Nat)} {ws : List Nat} {H : HHeap} {i : Nat} {x : Nat × Nat} {w : Nat} (hx : xs[i]? = some x) (hw : ws[i]? = some w) : wrs H (xs.take (i + 1)) (ws.take (i + 1)) = wr1 (wrs H (xs.take i) (ws.take i)) x w := by
  have h1 := (List.getElem?_eq_some_iff.1 hx).1
  have h2 := (List.getElem?_eq_some_iff.1 hw).1
  rw [List.take_add_one, List.take_add_one, hx, hw, Option.toList_some, Option.toList_some, wrs_append _ _ _ _ _ (by rw [List.length_take, List.length_take]; omega)]
  rfl
theorem MIn.off {α : Type} {R : Rp α} {mv : Value} {pm : List α} {K : HHeap} (hM : MIn Z H p size vb g gw gh vn vk va M) (hok : H.Ok) (hZ : ∀ b, Z b → b < H.next) (hm : Rw R Z H mv pm) (dm : ∀ b ∈ sblk mv, b ≠ p ∧ b ≠ g ∧ b ≠ gw ∧ b ≠ gh ∧ b ∉ sblk vn ∧ b ∉ sblk vk ∧ b ∉ sblk va)
    (hk : ∀ b, b < H.next → b ∉ sblk mv → K.get b = H.get b) : MIn Z K p size vb g gw gh vn vk va M := by
  have hlt := hM.lt hok
  refine hM.frame (fun b hb => ⟨hb, hk b (hZ b hb) fun h => (hm.blk b h).1 hb⟩) fun b hb => ?_
  have hl : b < H.next ∧ ¬ Z b ∧ b ∉ sblk mv := by
    rcases hb with rfl | rfl | rfl | rfl | hb | hb | hb
    · exact ⟨hlt.1, hM.zp.1, fun h => (dm _ h).1 rfl⟩
    · exact ⟨hlt.2.1, hM.zp.2.1, fun h => (dm _ h).2.1 rfl⟩
    · exact ⟨hlt.2.2.1, hM.zp.2.2.1, fun h => (dm _ h).2.2.1 rfl⟩
    · exact ⟨hlt.2.2.2.1, hM.zp.2.2.2.1, fun h => (dm _ h).2.2.2.1 rfl⟩
    · exact ⟨hlt.2.2.2.2.1 b hb, hM.zp.2.2.2.2 b hb, fun h => (dm _ h).2.2.2.2.1 hb⟩
    · exact ⟨hlt.2.2.2.2.2.1 b hb, (hM.kp.blk b hb).1, fun h => (dm _ h).2.2.2.2.2.1 hb⟩
    · exact ⟨hlt.2.2.2.2.2.2 b hb, (hM.ask.blk b hb).1, fun h => (dm _ h).2.2.2.2.2.2 hb⟩
  exact ⟨hk b hl.1 hl.2.2, hl.2.1⟩
theorem MS.collect_eq (M : MS) (more : List Nat) : M.collect more = { M with T := outT M.T (bfs M.T (M.roots more)) }.onAll (tr M.T (bfs M.T (M.roots more))) := rfl
theorem vm_collect (hM : MIn Z H p size vb g gw gh vn vk va M) (hZ : ∀ b, Z b → b < H.next) (mv : Value) (pm : List (Nat × Nat)) (ws : List Nat) (hm : Rw rPt Z H mv pm) (hpm : pm.length ≤ 1000) (dm : ∀ b ∈ sblk mv, b ≠ p ∧ b ≠ g ∧ b ≠ gw ∧ b ≠ gh ∧ b ∉ sblk vn ∧ b ∉ sblk vk ∧ b ∉ sblk va)
    (hw : PtW H pm ws) (hws : ∀ w ∈ ws, w < 18446744073709551616) (hmb : ∀ x ∈ pm, ¬ Z x.1 ∧ x.1 ∉ sblk mv ∧ x.1 ≠ p ∧ x.1 ≠ g ∧ x.1 ≠ gw ∧ x.1 ≠ gh ∧ x.1 ∉ sblk vn ∧ x.1 ∉ sblk vk ∧ x.1 ∉ sblk va) (hmn : pm.Nodup) (R : Value → HHeap → Prop)
    (hR : ∀ H' g' gw' gh', MIn Z H' p size vb g' gw' gh' vn vk va (M.collect ws) → Kp Z H H' → PtW H' pm (M.moved ws) → (∀ x ∈ pm, ∀ n, CellsOf H x.1 n → CellsOf H' x.1 n) → (∀ x ∈ pm, x.1 ≠ g' ∧ x.1 ≠ gw' ∧ x.1 ≠ gh') → R (.tuple #[]) H') :
    HCalls Tryz.prog 31 [ptr p 0, mv] H R := by
  refine HCalls.ok fun hok => ?_
  have hlt := hM.lt hok
  have hmlt := hm.lt hok
  have hptw : PtW H (pm ++ mpts p vn vk va M) (M.roots ws) := by
    have := hw.append hM.ptw
    unfold MS.roots
    simpa [List.append_assoc] using this
  have hrl : (M.roots ws).length ≤ 1100000 := by
    have h1 := hw.len
    have h2 := hM.ok.nml
    have h3 := hM.ok.kpl
    have h4 := hM.ok.askl
    have h5 : (usedW M.nm).length ≤ M.nm.length := by unfold usedW; rw [List.length_map]; exact List.length_filter_le _ _
    have h6 : (usedW M.kp).length ≤ M.kp.length := by unfold usedW; rw [List.length_map]; exact List.length_filter_le _ _
    unfold MS.roots
    simp only [List.length_append, List.length_cons, List.length_nil]
    omega
  have hrw : ∀ w ∈ M.roots ws, w < 18446744073709551616 := by
    intro w hw'
    unfold MS.roots at hw'
    simp only [List.mem_append, List.mem_cons, List.not_mem_nil, or_false] at hw'
    rcases hw' with (((hw' | hw') | hw') | hw') | hw'
    · exact hws w hw'
    · rcases hw' with rfl | rfl | rfl | rfl
      · exact hM.ok.v
      · exact hM.ok.e
      · exact hM.ok.s
      · exact hM.ok.f
    · exact hM.ok.ask w hw'
    · unfold usedW at hw'; obtain ⟨y, hy, rfl⟩ := List.mem_map.1 hw'; exact hM.ok.nm y (List.mem_filter.1 hy).1
    · unfold usedW at hw'; obtain ⟨y, hy, rfl⟩ := List.mem_map.1 hw'; exact hM.kpw y (List.mem_filter.1 hy).1
  have hne : M.roots ws ≠ [] := by unfold MS.roots; simp
  have hpb : ∀ x ∈ pm ++ mpts p vn vk va M, x.1 < H.next ∧ x.1 ∉ sblk mv := by
    intro x hx
    obtain ⟨i, hi⟩ := List.mem_iff_getElem?.1 hx
    obtain ⟨w, _, cs, h1, _⟩ := hptw.at hi
    refine ⟨hok _ _ h1, ?_⟩
    rcases List.mem_append.1 hx with hx | hx
    · exact (hmb x hx).2.1
    · intro hs
      have := dm _ hs
      rcases mpts_blk hM x hx with h | h | h | h
      · exact this.1 h
      · exact this.2.2.2.2.1 h
      · exact this.2.2.2.2.2.1 h
      · exact this.2.2.2.2.2.2 h
  refine HCalls.of_hw Tryz.func31 rfl _ Tryz.ntmps31 _ (by rw [Tryz.results31]) ?_
  rw [hframe0_eq _ _ (by simp)]
  simp only [List.zipIdx_cons, List.zipIdx_nil, List.map_cons, List.map_nil, Nat.reduceAdd]
  obtain ⟨am, hmv⟩ := hm.len
  subst hmv
  simp (disch := first | omega | (show allOne _ = true; simp [allOne, Value.oneCell', S]) | (simp only [qz]; first | done | omega)) only [go_sem]
  refine vm_roots hM hZ _ pm hm hpm dm _ ?_
  intro v K g1 g2 g3 g4
  obtain ⟨pts, hpts⟩ : ∃ pts, pts = pm ++ mpts p vn vk va M := ⟨_, rfl⟩
  rw [← hpts] at g1 hptw hpb
  have hpl := hptw.len
  have hptK : PtW K pts (M.roots ws) := hptw.mono fun x hx => g4 _ (hpb x hx).1 (hpb x hx).2
  obtain ⟨av, hv⟩ := g1.len
  subst hv
  simp (disch := first | omega | (show allOne _ = true; simp [allOne, Value.oneCell', S]) | (simp only [qz]; first | done | omega)) only [go_sem]
  refine Hwp.loop (fun m fr K2 => ∃ (i : Nat) (fv : Value), m = pts.length - i ∧ i ≤ pts.length ∧ Gr rW Z K2 fv ((M.roots ws).take i) ∧ (∀ b ∈ sblk fv, K.next ≤ b ∧ b < K2.next) ∧ Old K K2 ∧
    FLe (hfr 57 [(17, I (i : Nat)), (16, I (pts.length : Nat)), (15, .slice av pts.length pts.length), (4, .slice av pts.length pts.length), (5, fv), (0, ptr p 0)]) fr) pts.length ?_ ?_
  · exact ⟨0, _, rfl, by omega, Gr.nil _ _ _, by simp [sblk], Old.refl _, fle_of (by simp [flook])⟩
  rintro m fr K2 ⟨i, fv, rfl, hi, f1, f2, f3, hle⟩
  refine Hwp.weaken hle (HW.sound _ _ _ _ ?_)
  by_cases hc : i < pts.length
  · obtain ⟨x, hx⟩ : ∃ x, pts[i]? = some x := ⟨_, List.getElem?_eq_getElem hc⟩
    obtain ⟨w, hwi, cs, hg, hcs⟩ := hptK.at hx
    obtain ⟨b, vs, e, _, hgv, _, hrr⟩ := g1.at hx
    injection e with e
    subst e
    have hvx := rOne_at (f := fun x : Nat × Nat => ptr x.1 x.2) (Z := Z) (H := K) hrr
    rw [Nat.mul_one, Nat.zero_add] at hvx
    have hbl := g2 b (by simp [sblk])
    have hgv2 := f3.2 b hbl.2
    rw [hgv] at hgv2
    have hxl := (hpb x (List.mem_of_getElem? hx)).1
    have hg2 := f3.2 x.1 (by omega)
    rw [hg] at hg2
    simp (disch := first | omega | (show allOne _ = true; simp [allOne, Value.oneCell', S]) | (simp only [qz]; first | done | omega)) only [go_sem, hgv2, hg2, ixa_ok, ldc_cells, hvx, hcs]
    refine HGo_add1 (n := 1) (by' := 8) (x := w) f1 rfl (by omega) (get_push_same _) (Old.push _ _) (fun b hb => by have := hZ b hb; have := f3.1; omega) (fun b hm => (f2 b hm).2) rfl (by rw [List.length_take]; omega) (by rw [List.length_take]; omega) ?_
    intro fv' K' k1 k2 k3 k4
    simp (disch := first | omega | (show allOne _ = true; simp [allOne, Value.oneCell', S]) | (simp only [qz]; first | done | omega)) only [go_sem]
    refine ⟨_, ?_, i + 1, fv', rfl, by omega, ?_, fun b hm => ?_, ?_, fle_of (by simp [flook])⟩
    · omega
    · rw [List.take_add_one, hwi]; exact k1
    · have := k2 b hm; have := f3.1; omega
    · exact ⟨Nat.le_trans f3.1 k3, fun b hb => by rw [k4 b (by have := f3.1; omega) (fun hm => by have := f2 b hm; omega), f3.2 b hb]⟩
  · have ei : i = pts.length := by omega
    subst ei
    rw [hpl, List.take_length] at f1
    have hMK : MIn Z K2 p size vb g gw gh vn vk va M := hM.off hok hZ hm dm fun b hb hs => by rw [f3.2 b (by omega), g4 b hb hs]
    clear hle hi hc
    simp (disch := first | omega | (show allOne _ = true; simp [allOne, Value.oneCell', S]) | (simp only [qz]; first | done | omega)) only [go_sem, hMK.m, ldc_cells, mcells]
    refine HCalls.ok fun hok2 => ?_
    have hlt2 := hMK.lt hok2
    refine move_Live _ _ _ _ _ _ hMK.A ⟨hlt2.2.1, hlt2.2.2.1, hlt2.2.2.2.1⟩ _ _ (f1.rowAt hok2 hne) hrw (by omega) _ ?_
    intro K3 g' gw' gh' tv q1 q2 q3 q4 q5 q6 q7
    have hO3 : Old K2 K3 := ⟨q4, q3⟩
    have hn3 := f3.1
    have hZ2 : ∀ b, Z b → b < K2.next := fun b hb => by have := hZ b hb; omega
    have hM4 := hMK.newA hok2 hZ2 hO3 q1 q5
    have hMK3 := hMK.old hok2 hO3 hZ2 (fun _ h => h) (fun _ h => .inl h)
    obtain ⟨t, ht⟩ : ∃ t, t = tr M.T (bfs M.T (M.roots ws)) := ⟨_, rfl⟩
    have htb : ∀ w ∈ M.roots ws, t w < 18446744073709551616 := by
      intro w hw'
      rw [ht]
      refine tr_lt (bfs_nodup _ _) (fun i hi => reached_lt ((bfs_mem _ _ i).1 hi)) ?_ (hrw w hw') (fun i hi => (bfs_mem _ _ i).2 (.root w i hw' hi))
      have := hM.A.room
      have := hM.A.big
      omega
    rw [← ht] at q2
    rcases q2 with ⟨e, _⟩ | ⟨tb, _, rfl, tbl, tbg⟩
    · simp at e; exact absurd e hne
    have htb2 := (q7 tb (by simp [vblk])).1
    obtain ⟨b, vs, e, _, hgv, _, _⟩ := g1.at (i := 0) (x := pts[0]'(by rw [hpl]; exact List.length_pos_iff.2 hne)) (List.getElem?_eq_getElem _)
    injection e with e
    subst e
    have hbl := g2 b (by simp [sblk])
    simp (disch := first | omega | (show allOne _ = true; simp [allOne, Value.oneCell', S]) | (simp only [qz]; first | done | omega)) only [go_sem, hMK3.m, ldc_cells, mcells, stc_cells]
    have e3 : mcells vb g' vn vk va { M with T := outT M.T (bfs M.T (M.roots ws)) } = [vb, ptr g' 0, vn, vk, I (M.st : Nat), I (M.bl : Nat), I (M.pc : Nat), U M.v, U M.e, U M.s, U M.f, I (M.er : Nat), I (M.op : Nat), va] := rfl
    rw [← e3]
    have hx3 : (K3.set p (.cells (mcells vb g' vn vk va { M with T := outT M.T (bfs M.T (M.roots ws)) }) true)).next = K3.next := HHeap.set_next _ _ _
    have ho3 : ∀ b, b ≠ p → (K3.set p (.cells (mcells vb g' vn vk va { M with T := outT M.T (bfs M.T (M.roots ws)) }) true)).get b = K3.get b := fun b hb => get_set_ne _ _ _ hb
    generalize K3.set p (.cells (mcells vb g' vn vk va { M with T := outT M.T (bfs M.T (M.roots ws)) }) true) = H3 at *
    clear e3
    have hgv3 : H3.get b = some (.cells vs true) := by rw [ho3 b (by omega), q3 b (by omega), f3.2 b hbl.2, hgv]
    have htb3 : H3.get tb = some (.cells (((M.roots ws).map t).map U) true) := by rw [ho3 tb (by omega), tbg]
    have hold : ∀ c, c < H.next → c ∉ sblk (.slice am pm.length pm.length) → c ≠ p → H3.get c = H.get c := fun c hc hs hp => by rw [ho3 c hp, q3 c (by omega), f3.2 c (by omega), g4 c hc hs]
    have hcell : ∀ x ∈ pts, ∃ n, CellsOf H3 x.1 n ∧ x.2 < n := by
      intro x hx
      obtain ⟨i, hi⟩ := List.mem_iff_getElem?.1 hx
      obtain ⟨w, _, cs, h1, h2⟩ := hptw.at hi
      have hl2 := (List.getElem?_eq_some_iff.1 h2).1
      by_cases e : x.1 = p
      · rw [e, hM.m] at h1
        cases h1
        exact ⟨14, by rw [e]; exact ⟨_, hM4.m, rfl⟩, hl2⟩
      · exact ⟨cs.length, ⟨cs, by rw [hold x.1 (hpb x hx).1 (hpb x hx).2 e, h1], rfl⟩, hl2⟩
    refine Hwp.loop (fun m fr K => ∃ (i : Nat), m = pts.length - i ∧ i ≤ pts.length ∧ K = wrs H3 (pts.take i) (((M.roots ws).map t).take i) ∧
      FLe (hfr 57 [(45, I (i : Nat)), (44, I (pts.length : Nat)), (43, .slice (some ⟨b, 0, some (2 * rPt.n)⟩) pts.length pts.length), (9, .slice (some ⟨tb, 0, some 2⟩) ((M.roots ws).map t).length ((M.roots ws).map t).length)]) fr) pts.length ?_ ?_
    · exact ⟨0, rfl, by omega, by rw [List.take_zero, wrs_nil], fle_of (by simp [flook])⟩
    clear q1
    rintro m fr K9 ⟨i, rfl, hi, rfl, hle⟩
    refine Hwp.weaken hle (HW.sound _ _ _ _ ?_)
    by_cases hc : i < pts.length
    · obtain ⟨x, hx⟩ : ∃ x, pts[i]? = some x := ⟨_, List.getElem?_eq_getElem hc⟩
      obtain ⟨w, hwi, _⟩ := hptK.at hx
      have hwi' : ((M.roots ws).map t)[i]? = some (t w) := by rw [List.getElem?_map, hwi]; rfl
      have hwU : (((M.roots ws).map t).map U)[i]? = some (U (t w)) := by rw [List.getElem?_map, hwi']; rfl
      obtain ⟨_, vs', e, _, hgv', _, hrr⟩ := g1.at hx
      injection e with e
      cases e
      rw [hgv] at hgv'
      cases hgv'
      have hvx := rOne_at (f := fun x : Nat × Nat => ptr x.1 x.2) (Z := Z) (H := K) hrr
      rw [Nat.mul_one, Nat.zero_add] at hvx
      have hpre : ∀ c, H.next ≤ c → (wrs H3 (pts.take i) (((M.roots ws).map t).take i)).get c = H3.get c := fun c hc => wrs_other _ _ _ _ fun y hy => by have := (hpb y (List.mem_of_mem_take hy)).1; omega
      have r1 := hpre b hbl.1
      have r2 := hpre tb (by omega)
      rw [hgv3] at r1
      rw [htb3] at r2
      obtain ⟨n, hcn, hn⟩ := hcell x (List.mem_of_getElem? hx)
      obtain ⟨cs, hcs, hcl⟩ := wrs_cellsOf (pts.take i) (((M.roots ws).map t).take i) hcn
      have hsn := wrs_snoc (H := H3) hx hwi'
      rw [wr1_cells hcs] at hsn
      generalize wrs H3 (pts.take i) (((M.roots ws).map t).take i) = K9 at *
      simp (disch := first | omega | (show allOne _ = true; simp [allOne, Value.oneCell', S]) | (simp only [qz]; first | done | omega)) only [go_sem, r1, r2, hcs, ixa_ok, ldc_cells, stc_cells, hvx, hwU]
      refine ⟨_, ?_, i + 1, rfl, by omega, hsn.symm, fle_of (by simp [flook])⟩
      omega
    · have ei : i = pts.length := by omega
      subst ei
      simp (disch := first | omega | (show allOne _ = true; simp [allOne, Value.oneCell', S]) | (simp only [qz]; first | done | omega)) only [go_sem]
      have e1 : pts.take pts.length = pts := List.take_length
      have e2 : ((M.roots ws).map t).take pts.length = (M.roots ws).map t := by rw [hpl, ← List.length_map (f := t), List.take_length]
      have e3 : (M.roots ws).map t = ws.map t ++ ([M.v, M.e, M.s, M.f] ++ M.ask ++ usedW M.nm ++ usedW M.kp).map t := by unfold MS.roots; simp [List.append_assoc]
      rw [e1, e2, e3, hpts, wrs_append _ _ _ _ _ (by rw [List.length_map]; exact hw.len)]
      have hb1 : ∀ x ∈ pm, x.1 < H.next := fun x hx => (hpb x (by rw [hpts]; simp [hx])).1
      have hM5 : MIn Z (wrs H3 pm (ws.map t)) p size vb g' gw' gh' vn vk va { M with T := outT M.T (bfs M.T (M.roots ws)) } := by
        refine hM4.frame (fun c hc => ⟨hc, wrs_other _ _ _ _ fun x hx => by rintro rfl; exact (hmb x hx).1 hc⟩) fun c hc => ?_
        have hz : ¬ Z c := by
          rcases hc with rfl | rfl | rfl | rfl | hc | hc | hc
          · exact hM4.zp.1
          · exact hM4.zp.2.1
          · exact hM4.zp.2.2.1
          · exact hM4.zp.2.2.2.1
          · exact hM4.zp.2.2.2.2 c hc
          · exact (hM4.kp.blk c hc).1
          · exact (hM4.ask.blk c hc).1
        refine ⟨wrs_other _ _ _ _ fun x hx => ?_, hz⟩
        have h1 := hmb x hx
        have h2 := hb1 x hx
        rcases hc with rfl | rfl | rfl | rfl | hc | hc | hc
        · exact h1.2.2.1.symm
        · omega
        · omega
        · omega
        · rintro rfl; exact h1.2.2.2.2.2.2.1 hc
        · rintro rfl; exact h1.2.2.2.2.2.2.2.1 hc
        · rintro rfl; exact h1.2.2.2.2.2.2.2.2 hc
      have hM6 := hM5.wrs t (fun x hx => htb x (by unfold MS.roots; simp only [List.mem_append] at hx ⊢; rcases hx with ((hx | hx) | hx) | hx <;> simp only [hx, true_or, or_true]))
      have hmo : ∀ x ∈ pm, ∀ y ∈ mpts p vn vk va M, x.1 ≠ y.1 := by
        intro x hx y hy e
        have h1 := hmb x hx
        rcases mpts_blk hM y hy with h | h | h | h
        · exact h1.2.2.1 (e.trans h)
        · exact h1.2.2.2.2.2.2.1 (e ▸ h)
        · exact h1.2.2.2.2.2.2.2.1 (e ▸ h)
        · exact h1.2.2.2.2.2.2.2.2 (e ▸ h)
      refine hR _ g' gw' gh' ?_ ⟨?_, fun c hc => ?_⟩ ?_ ?_ ?_
      · rw [MS.collect_eq, ← ht]
        exact hM6
      · rw [wrs_next, wrs_next, hx3]; omega
      · have hcz := hZ c hc
        rw [wrs_other _ _ _ _ fun x hx => by
            rintro rfl
            rcases mpts_blk hM x hx with h | h | h | h
            · exact hM.zp.1 (h ▸ hc)
            · exact hM.zp.2.2.2.2 _ h hc
            · exact (hM.kp.blk _ h).1 hc
            · exact (hM.ask.blk _ h).1 hc, wrs_other _ _ _ _ fun x hx => by rintro rfl; exact (hmb x hx).1 hc]
        exact hold c hcz (fun h => (hm.blk c h).1 hc) (by rintro rfl; exact hM.zp.1 hc)
      · have e4 : M.moved ws = ws.map t := by unfold MS.moved; rw [ht]
        rw [e4]
        exact (wrs_ptw pm (ws.map t) H3 hmn (by rw [List.length_map]; exact hw.len) fun x hx => hcell x (by rw [hpts]; simp [hx])).mono fun x hx => wrs_other _ _ _ _ fun y hy => hmo x hx y hy
      · intro x hx n hc
        refine wrs_cellsOf _ _ (wrs_cellsOf _ _ ?_)
        obtain ⟨cs, h1, h2⟩ := hc
        have h3 := hmb x hx
        exact ⟨cs, by rw [hold x.1 (hb1 x hx) h3.2.1 h3.2.2.1, h1], h2⟩
      · intro x hx
        have := hb1 x hx
        omega
end
end Go.HL
