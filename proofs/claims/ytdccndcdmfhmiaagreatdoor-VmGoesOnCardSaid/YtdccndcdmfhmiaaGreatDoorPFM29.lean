/-
  Walks: a word is called with words.
-/
import Derived.Test.YtdccndcdmfhmiaaGreatDoorPFM28
set_option linter.unusedVariables false
set_option linter.unusedSimpArgs false
namespace Go.HL
open Go.RowKit Go.Proofs
set_option maxHeartbeats 4000000
set_option maxRecDepth 100000
set_option linter.unusedSimpArgs false
set_option linter.unusedVariables false
/-- A word is called with words: what is wrong, and the machine; none: what is not spoken of. -/
def MS.begin (B : List Bk) (size : Nat) (M : MS) (fn : Nat) (l : List Nat) : Option (Nat × MS) :=
  if M.st = 1 ∨ M.st = 2 then some (133, M)
  else if 100 < l.length then some (1, M)
  else
    let M1 : MS := { M with v := 26, e := 2, s := 2, f := 2, er := 0, st := 1 }
    let c := callF B M1.T fn l.length
    if c.2 ≠ 0 then some (0, M1.fail c.2) else
    let r := M1.room size (if c.1 then 2 + l.length else 0) (fn :: l)
    if r.1 then (match r.2.2 with
      | w :: ws => (r.2.1.call B size w ws 2).map fun x => (0, x)
      | [] => none)
    else some (0, { r.2.1 with st := 5 })
section
variable {Z : Zs} {H : HHeap} {p size : Nat} {vb : Value} {g gw gh : Nat} {vn vk va : Value} {M : MS} {B : List Bk}
theorem ptsA_cells {H : HHeap} {b : Nat} : ∀ {n i : Nat} {ws : List Nat} {cs : List Value}, PtW H (ptsA b i n) ws → H.get b = some (.cells cs true) → ∀ j, j < n → cs[i + j]? = (ws[j]?).map U
  | 0, _, _, _, _, _, j, h => by omega
  | n + 1, i, ws, cs, h, hg, j, hj => by
    rw [ptsA] at h
    cases h with
    | cons h t =>
      rename_i w ws
      obtain ⟨c, h1, h2⟩ := h
      have h1 : H.get b = some (.cells c true) := h1
      rw [hg] at h1
      cases h1
      match j with
      | 0 => exact h2
      | j + 1 =>
        have := ptsA_cells t hg j (by omega)
        rw [show i + (j + 1) = i + 1 + j by omega, this]; rfl
theorem cells_all {cs : List Value} {ws : List Nat} (hl : cs.length = ws.length) (h : ∀ j, j < ws.length → cs[0 + j]? = (ws[j]?).map U) : cs = ws.map U := by
  apply List.ext_getElem?
  intro j
  rw [List.getElem?_map]
  by_cases hj : j < ws.length
  · rw [← h j hj, Nat.zero_add]
  · rw [List.getElem?_eq_none (by omega), List.getElem?_eq_none (by omega)]; rfl
theorem room_lt {size : Nat} {M : MS} {n : Nat} {ws : List Nat} (hu : usedOf M.T ≤ 65536) (hw : ∀ x ∈ ws, x < 18446744073709551616) : ∀ x ∈ (M.room size n ws).2.2, x < 18446744073709551616 := by
  unfold MS.room
  split
  · exact hw
  · intro x hx
    have hx : x ∈ M.moved ws := hx
    unfold MS.moved at hx
    obtain ⟨y, hy, rfl⟩ := List.mem_map.1 hx
    exact tr_lt (bfs_nodup _ _) (fun i hi => reached_lt ((bfs_mem _ _ i).1 hi)) hu (hw y hy) (fun i hi => (bfs_mem _ _ i).2 (.root y i (by unfold MS.roots; simp [hy]) hi))
theorem vm_busy (hM : MIn Z H p size vb g gw gh vn vk va M) (R : Value → HHeap → Prop) (hR : R (.bool (decide (M.st = 1 ∨ M.st = 2))) H) : HCalls Tryz.prog 33 [ptr p 0] H R := by
  refine HCalls.of_hw Tryz.func33 rfl _ Tryz.ntmps33 _ (by rw [Tryz.results33]) ?_
  rw [hframe0_eq _ _ (by simp)]
  simp only [List.zipIdx_cons, List.zipIdx_nil, List.map_cons, List.map_nil, Nat.reduceAdd]
  have h : M.st = 1 ∨ M.st = 2 ∨ (¬ M.st = 1 ∧ ¬ M.st = 2) := by omega
  rcases h with h | h | ⟨h, h'⟩
  · rw [decide_eq_true (by omega)] at hR
    simp (disch := first | omega | (show allOne _ = true; simp [allOne, Value.oneCell', S]) | (simp only [qz]; first | done | omega)) only [go_sem, hM.m, ldc_cells, mcells, h]
    exact hR
  · rw [decide_eq_true (by omega)] at hR
    simp (disch := first | omega | (show allOne _ = true; simp [allOne, Value.oneCell', S]) | (simp only [qz]; first | done | omega)) only [go_sem, hM.m, ldc_cells, mcells, h]
    exact hR
  · rw [decide_eq_false (by omega)] at hR
    simp (disch := first | omega | (show allOne _ = true; simp [allOne, Value.oneCell', S]) | (simp only [qz]; first | done | omega)) only [go_sem, hM.m, ldc_cells, mcells]
    rw [decide_eq_false (by omega)]
    exact hR
theorem vm_blank (H : HHeap) (R : Value → HHeap → Prop) (hR : ∀ H', Old H H' → R (.agg #[U 26, U 2, U 2, U 2]) H') : HCalls Tryz.prog 28 [] H R := by
  have hld : ∀ (K : HHeap) (b o : Nat), hload Tryz.prog K 78 (.pointer (some ⟨b, o, none⟩)) = lda (K.get b) o 4 := fun K b o => x_loadN (by kernel_rfl) (by kernel_rfl) b o
  refine HCalls.of_hw Tryz.func28 rfl _ Tryz.ntmps28 _ (by rw [Tryz.results28]) ?_
  rw [hframe0_eq _ _ (by simp)]
  simp only [List.zipIdx_cons, List.zipIdx_nil, List.map_cons, List.map_nil, Nat.reduceAdd]
  simp (disch := first | omega | (show allOne _ = true; simp [allOne, Value.oneCell', S]) | (simp only [qz]; first | done | omega)) only [go_sem, get_push_same, get_set_same, sta_cells, lda_cells, hld]
  exact hR _ (Old.push_set _ _ _)
theorem vm_Begin (hM : MIn Z H p size vb g gw gh vn vk va M) (hZ : ∀ b, Z b → b < H.next) (hB : Sl rBk Z H vb B) (hBl : B.length < 1000000) (fn : Nat) (hf : fn < 18446744073709551616) (sv : Value) (l : List Nat) (hl : ∀ x ∈ l, x < 18446744073709551616) (hll : l.length ≤ 1000)
    (Z0 : Zs) (hs : Sl rW Z0 H sv l) (hZ0 : ∀ b, Z0 b → b < H.next) (hz : ¬ Z0 p ∧ ¬ Z0 g ∧ ¬ Z0 gw ∧ ¬ Z0 gh ∧ (∀ b, Z0 b → b ∉ sblk vn ∧ b ∉ sblk vk ∧ b ∉ sblk va)) (e : Nat) (M' : MS) (hb : M.begin B size fn l = some (e, M')) (R : Value → HHeap → Prop)
    (hR : ∀ H' g' gw' gh', MIn Z H' p size vb g' gw' gh' vn vk va M' → Kp Z H H' → R (I (e : Nat)) H') :
    HCalls Tryz.prog 8 [ptr p 0, U fn, sv] H R := by
  refine HCalls.ok fun hok => ?_
  obtain ⟨av, cv, rfl⟩ := hs.len
  have hlt := hM.lt hok
  unfold MS.begin at hb
  have hO1 := Old.push H (.cells [U fn] true)
  have hx1 := HHeap.push_next H (.cells [U fn] true)
  have hg1 : (H.push (.cells [U fn] true)).get H.next = some (.cells [U fn] true) := get_push_same _
  have hbx : hbox H (U fn) = some (.pointer (some ⟨H.next, 0, none⟩), H.push (.cells [U fn] true)) := hbox_one rfl
  refine HCalls.of_hw Tryz.func8 rfl _ Tryz.ntmps8 _ (by rw [Tryz.results8]) ?_
  rw [hframe0_eq _ _ (by simp)]
  simp only [List.zipIdx_cons, List.zipIdx_nil, List.map_cons, List.map_nil, Nat.reduceAdd]
  simp (disch := first | omega | (show allOne _ = true; simp [allOne, Value.oneCell', S]) | (simp only [qz]; first | done | omega)) only [go_sem, hbx]
  clear hbx
  generalize H.push (.cells [U fn] true) = H1 at *
  have hM1 := hM.old hok hO1 hZ (fun _ h => h) (fun _ h => .inl h)
  have k1 : Kp Z H H1 := hO1.kp hZ
  refine vm_busy hM1 _ ?_
  have hcase : (M.st = 1 ∨ M.st = 2) ∨ (¬ (M.st = 1 ∨ M.st = 2) ∧ 100 < l.length) ∨ (¬ (M.st = 1 ∨ M.st = 2) ∧ ¬ 100 < l.length) := by omega
  rcases hcase with h1 | ⟨h1, h2⟩ | ⟨h1, h2⟩
  · rw [if_pos h1] at hb
    cases hb
    rw [decide_eq_true h1]
    simp (disch := first | omega | (show allOne _ = true; simp [allOne, Value.oneCell', S]) | (simp only [qz]; first | done | omega)) only [go_sem]
    exact hR H1 _ _ _ hM1 k1
  · rw [if_neg h1, if_pos h2] at hb
    cases hb
    rw [decide_eq_false h1]
    simp (disch := first | omega | (show allOne _ = true; simp [allOne, Value.oneCell', S]) | (simp only [qz]; first | done | omega)) only [go_sem]
    exact hR H1 _ _ _ hM1 k1
  rw [if_neg h1, if_neg h2] at hb
  rw [decide_eq_false h1]
  simp (disch := first | omega | (show allOne _ = true; simp [allOne, Value.oneCell', S]) | (simp only [qz]; first | done | omega)) only [go_sem]
  refine vm_blank _ _ ?_
  intro H2 hO2
  have hO12 := hO1.trans hO2
  have hM2 := hM.old hok hO12 hZ (fun _ h => h) (fun _ h => .inl h)
  have hsp : splice [vb, ptr g 0, vn, vk, I (M.st : Nat), I (M.bl : Nat), I (M.pc : Nat), U M.v, U M.e, U M.s, U M.f, I (M.er : Nat), I (M.op : Nat), va] 7 [U 26, U 2, U 2, U 2] = [vb, ptr g 0, vn, vk, I (M.st : Nat), I (M.bl : Nat), I (M.pc : Nat), U 26, U 2, U 2, U 2, I (M.er : Nat), I (M.op : Nat), va] := rfl
  have hpn : H.next ≠ p := by omega
  have hg3 : H2.get H.next = some (.cells [U fn] true) := by rw [hO2.2 _ (by omega), hg1]
  simp (disch := first | omega | (show allOne _ = true; simp [allOne, Value.oneCell', S]) | (simp only [qz]; first | done | omega)) only [go_sem, hM2.m, ldc_cells, mcells, stc_cells, sta_cells, set_set, hsp, get_set_ne, hg3]
  obtain ⟨M1, hM1e⟩ : ∃ M1 : MS, M1 = { M with v := 26, e := 2, s := 2, f := 2, er := 0, st := 1 } := ⟨_, rfl⟩
  have hM3 : MIn Z (H2.set p (.cells (mcells vb g vn vk va M1) true)) p size vb g gw gh vn vk va M1 := by
    rw [hM1e]
    exact hM2.put rfl rfl rfl rfl ⟨by show (26 : Nat) < _; omega, by show (2 : Nat) < _; omega, by show (2 : Nat) < _; omega, by show (2 : Nat) < _; omega, hM.ok.nm, hM.ok.ask, hM.ok.bl, hM.ok.pc, hM.ok.nml, hM.ok.kpl, hM.ok.askl⟩
  have k3 : Kp Z H (H2.set p (.cells (mcells vb g vn vk va M1) true)) := (hO12.kp hZ).trans (Kp.set hM2.zp.1)
  have hg4 : (H2.set p (.cells (mcells vb g vn vk va M1) true)).get H.next = some (.cells [U fn] true) := by rw [get_set_ne _ _ _ hpn, hg3]
  have hx3 : (H2.set p (.cells (mcells vb g vn vk va M1) true)).next = H2.next := HHeap.set_next _ _ _
  have ho3 : ∀ b, b ≠ p → b < H.next → (H2.set p (.cells (mcells vb g vn vk va M1) true)).get b = H.get b := fun b hb h => by rw [get_set_ne _ _ _ hb, hO12.2 b h]
  have em : [vb, ptr g 0, vn, vk, I (1 : Nat), I (M.bl : Nat), I (M.pc : Nat), U 26, U 2, U 2, U 2, I (0 : Nat), I (M.op : Nat), va] = mcells vb g vn vk va M1 := by rw [hM1e]; rfl
  have hbM : (let c := callF B M1.T fn l.length
    if c.2 ≠ 0 then some (0, M1.fail c.2) else
    let r := M1.room size (if c.1 then 2 + l.length else 0) (fn :: l)
    if r.1 then (match r.2.2 with
      | w :: ws => (r.2.1.call B size w ws 2).map fun x => (0, x)
      | [] => none)
    else some (0, { r.2.1 with st := 5 })) = some (e, M') := by rw [hM1e]; exact hb
  clear hb
  have em' : [vb, ptr g 0, vn, vk, .int .i64 1, I (M.bl : Nat), I (M.pc : Nat), U 26, U 2, U 2, U 2, .int .i64 0, I (M.op : Nat), va] = mcells vb g vn vk va M1 := by rw [hM1e]; rfl
  rw [em']
  clear em em'
  have hZ3 : ∀ b, Z b → b < (H2.set p (.cells (mcells vb g vn vk va M1) true)).next := fun b hb => by have := hZ b hb; have := hO12.1; rw [hx3]; omega
  generalize H2.set p (.cells (mcells vb g vn vk va M1) true) = H3 at *
  refine HCalls.ok fun hok3 => ?_
  refine vm_callable hM3 (hB.ext k3.ext) fn l.length hf (by omega) _ ?_
  cases hc : callF B M1.T fn l.length with
  | mk own er =>
  rw [hc] at hbM
  simp only at hbM
  have her : er = 0 ∨ ¬ er = 0 := by omega
  rcases her with rfl | her
  · rw [if_neg (by simp)] at hbM
    cases own with
    | true =>
      simp only [if_true] at hbM
      simp (disch := first | omega | (show allOne _ = true; simp [allOne, Value.oneCell', S]) | (simp only [qz]; first | done | omega)) only [go_sem, hg4, ldc_cells]
      refine slices_Clone (Z := Z0) (l := l) (hs.ext fun b hb => ⟨hb, ho3 b (by rintro rfl; exact hz.1 hb) (hZ0 b hb)⟩) (fun b hb => by have := hZ0 b hb; have := hO12.1; omega) (by omega) _ ?_
      intro v' H4 hG hfq hO4
      obtain ⟨a4, hv4⟩ := hG.len
      subst hv4
      have hO5 := Old.push H4 (.cells [ptr H.next 0] true)
      have hx5 := HHeap.push_next H4 (.cells [ptr H.next 0] true)
      have hg5 : (H4.push (.cells [ptr H.next 0] true)).get H4.next = some (.cells [ptr H.next 0] true) := get_push_same _
      simp (disch := first | omega | (show allOne _ = true; simp [allOne, Value.oneCell', S]) | (simp only [qz]; first | done | omega)) only [go_sem]
      generalize H4.push (.cells [ptr H.next 0] true) = H5 at *
      have hn2 := hO12.1
      have hn4 := hO4.1
      have hM5 := hM3.old hok3 (hO4.trans hO5) hZ3 (fun _ h => h) (fun _ h => .inl h)
      generalize hbv : blkV (.slice a4 l.length l.length) = bv at *
      refine Hwp.loop (fun m fr K => ∃ (i : Nat) (mv : Value), m = l.length - i ∧ i ≤ l.length ∧ Rw rPt Z K mv ((H.next, 0) :: ptsA bv 0 i) ∧ (∀ b ∈ sblk mv, H4.next ≤ b ∧ b < K.next) ∧ Old H4 K ∧
        FLe (hfr 76 [(54, I (i : Nat)), (53, I (l.length : Nat)), (2, .slice a4 l.length l.length), (10, mv), (9, I (2 + (l.length : Nat))), (4, ptr H.next 0), (0, ptr p 0)]) fr) l.length ?_ ?_
      · have hrw0 : Rw rPt Z H5 (.slice (some ⟨H4.next, 0, none⟩) 1 1) [(H.next, 0)] := .inr ⟨H4.next, [ptr H.next 0], true, by simp, rfl, fun hz => by have := hZ _ hz; omega, hg5, rfl, fun i x hx => by
          match i, hx with
          | 0, hx => cases hx; rfl
          | i + 1, hx => simp at hx⟩
        exact ⟨0, _, rfl, by omega, hrw0, by simp [sblk]; omega, hO5, fle_of (by simp [flook])⟩
      rintro m fr K ⟨i, mv, rfl, hi, g1, g2, g3, hle⟩
      refine Hwp.weaken hle (HW.sound _ _ _ _ ?_)
      have hZK : ∀ b, Z b → b < K.next := fun b hb => by have := hZ b hb; have := g3.1; omega
      by_cases hci : i < l.length
      · obtain ⟨b, cs4, e4, _, hg4', _, _⟩ := hG.at (List.getElem?_eq_getElem hci)
        injection e4 with e4
        subst e4
        have eb : b = bv := by rw [← hbv]; rfl
        subst eb
        simp (disch := first | omega | (show allOne _ = true; simp [allOne, Value.oneCell', S]) | (simp only [qz]; first | done | omega)) only [go_sem, ixa_ok]
        refine HGo_addR (n := 1) (by' := 8) (m := 1) (ys := [(b, i)]) g1 rfl (by omega) (get_push_same _) (Old.push _ _) hZK (fun b hb => (g2 b hb).2) (by simp) rfl rfl (fun j y hy => by
          match j, hy with
          | 0, hy => cases hy; show [_] = [_]; simp
          | j + 1, hy => simp at hy) (by rw [List.length_cons, ptsA_len]; omega) (by rw [List.length_cons, ptsA_len]; omega) ?_
        intro mv' K' k1 k2 k3' k4
        simp (disch := first | omega | (show allOne _ = true; simp [allOne, Value.oneCell', S]) | (simp only [qz]; first | done | omega)) only [go_sem]
        refine ⟨_, ?_, i + 1, mv', rfl, by omega, .inl ?_, fun b hb => ⟨by have := k2 b hb; have := g3.1; omega, (k2 b hb).2⟩, ⟨by have := g3.1; omega, fun b hb => by rw [k4 b (by have := g3.1; omega) (fun hm => by have := g2 b hm; omega), g3.2 b hb]⟩, fle_of (by simp [flook])⟩
        · omega
        · rw [ptsA_snoc, Nat.zero_add]; exact k1
      · have ei : i = l.length := by omega
        subst ei
        simp (disch := first | omega | (show allOne _ = true; simp [allOne, Value.oneCell', S]) | (simp only [qz]; first | done | omega)) only [go_sem]
        have hlt3 := hM3.lt hok3
        have hn5 := g3.1
        have hn6 := hO2.1
        have hMK := hM3.old hok3 (hO4.trans g3) hZ3 (fun _ h => h) (fun _ h => .inl h)
        have hgK : K.get H.next = some (.cells [U fn] true) := by rw [g3.2 _ (by omega), hO4.2 _ (by omega), hg4]
        have hPw : PtW K (ptsA bv 0 l.length) l ∧ (l ≠ [] → K.get bv = some (.cells (l.map U) true)) ∧ ∀ x ∈ ptsA bv 0 l.length, x.1 = bv ∧ H3.next ≤ bv ∧ bv < H4.next := by
          rcases hG with ⟨h0, _⟩ | ⟨b, cs4, rw4, h0, _⟩ | ⟨b, cs4, h0, hv4, _, hg4', hl4, hr4⟩
          · rw [h0]; exact ⟨.nil, fun h => absurd rfl h, by simp [ptsA]⟩
          · rw [h0]; exact ⟨.nil, fun h => absurd rfl h, by simp [ptsA]⟩
          · have e4 := Gr.cellsW (b := b) hl4 hr4
            subst e4
            have eb : bv = b := by rw [← hbv, hv4]; rfl
            have hb4 := hfq b (by rw [hv4]; simp [sblk])
            rw [eb]
            have hK4 := g3.2 b hb4.2
            rw [hg4'] at hK4
            exact ⟨ptsA_ptw l [] hK4, fun _ => hK4, fun x hx => ⟨ptsA_blk _ _ _ x hx, hb4⟩⟩
        have hPv : PtW K (ptsA bv 0 l.length) l ∧ ∀ x ∈ ptsA bv 0 l.length, x.1 = bv ∧ H3.next ≤ bv ∧ bv < H4.next := ⟨hPw.1, hPw.2.2⟩
        have hnd : ∀ (n i : Nat), (ptsA bv i n).Nodup ∧ ∀ x ∈ ptsA bv i n, i ≤ x.2 := by
          intro n
          induction n with
          | zero => intro i; simp [ptsA]
          | succ n ih =>
            intro i
            obtain ⟨h5, h6⟩ := ih (i + 1)
            rw [ptsA]
            exact ⟨List.nodup_cons.2 ⟨fun hm => by have := h6 _ hm; simp at this; omega, h5⟩, fun x hx => by rcases List.mem_cons.1 hx with rfl | hx; simp; have := h6 x hx; omega⟩
        rw [show (2 : Int) + (l.length : Nat) = ((2 + l.length : Nat) : Int) by omega]
        refine vm_room hMK hZK (2 + l.length) (by omega) mv ((H.next, 0) :: ptsA bv 0 l.length) (fn :: l) g1 (by rw [List.length_cons, ptsA_len]; omega)
          (fun b hb => by
            have := g2 b hb
            exact ⟨by omega, by omega, by omega, by omega, fun h => by have := hlt3.2.2.2.2.1 b h; omega, fun h => by have := hlt3.2.2.2.2.2.1 b h; omega, fun h => by have := hlt3.2.2.2.2.2.2 b h; omega⟩)
          (.cons ⟨_, hgK, rfl⟩ hPv.1) (by intro x hx; rcases List.mem_cons.1 hx with rfl | hx; exact hf; exact hl x hx) ?_ ?_ _ ?_
        · intro x hx
          have hx' : x.1 = H.next ∨ (H3.next ≤ x.1 ∧ x.1 < H4.next) := by
            rcases List.mem_cons.1 hx with rfl | hx
            · exact .inl rfl
            · have := hPv.2 x hx; exact .inr (by omega)
          refine ⟨fun hz => by have := hZ _ hz; omega, fun hm => by have := g2 _ hm; omega, by omega, by omega, by omega, by omega, fun h => ?_, fun h => ?_, fun h => ?_⟩
          · have := hlt.2.2.2.2.1 _ h; omega
          · have := hlt.2.2.2.2.2.1 _ h; omega
          · have := hlt.2.2.2.2.2.2 _ h; omega
        · refine List.nodup_cons.2 ⟨fun hm => ?_, (hnd l.length 0).1⟩
          have h9 := hPv.2 _ hm
          simp only at h9
          omega
        intro H6 g6 gw6 gh6 q1 q2 q3 q4 q5
        have kk : Kp Z H H6 := (k3.trans ((hO4.trans g3).kp hZ3)).trans q2
        cases hr : (M1.room size (2 + l.length) (fn :: l)).1 with
        | false =>
          rw [hr, if_neg (by simp)] at hbM
          generalize (M1.room size (2 + l.length) (fn :: l)).2.1 = N at *
          cases hbM
          simp (disch := first | omega | (show allOne _ = true; simp [allOne, Value.oneCell', S]) | (simp only [qz]; first | done | omega)) only [go_sem, q1.m, ldc_cells, mcells, stc_cells, set_set]
          exact hR _ _ _ _ (q1.put (M' := { N with st := 5 }) rfl rfl rfl rfl ⟨q1.ok.v, q1.ok.e, q1.ok.s, q1.ok.f, q1.ok.nm, q1.ok.ask, q1.ok.bl, q1.ok.pc, q1.ok.nml, q1.ok.kpl, q1.ok.askl⟩) (kk.trans (Kp.set q1.zp.1))
        | true =>
          rw [hr, if_pos rfl] at hbM
          generalize (M1.room size (2 + l.length) (fn :: l)).2.1 = N at *
          generalize hws : (M1.room size (2 + l.length) (fn :: l)).2.2 = ws at *
          cases q3 with
          | cons qh qt =>
          rename_i w0 ws0
          simp only at hbM
          cases hcall : N.call B size w0 ws0 2 with
          | none => rw [hcall] at hbM; cases hbM
          | some N' =>
          rw [hcall] at hbM
          have hNe : N' = M' ∧ e = 0 := by
            simp only [Option.map_some, Option.some.injEq, Prod.mk.injEq] at hbM
            exact ⟨hbM.2, hbM.1.symm⟩
          obtain ⟨rfl, rfl⟩ := hNe
          obtain ⟨c0, hc0, hc1⟩ := qh
          have hc0 : H6.get H.next = some (.cells c0 true) := hc0
          have hc1 : c0[0]? = some (U w0) := hc1
          have hlw := qt.len
          rw [ptsA_len] at hlw
          have hwb : ∀ x ∈ w0 :: ws0, x < 18446744073709551616 := by
            rw [← hws]
            exact room_lt (by have := hM3.A.room; have := hM3.A.big; omega) (by intro x hx; rcases List.mem_cons.1 hx with rfl | hx; exact hf; exact hl x hx)
          have hZ6 : ∀ b, Z b → b < H6.next := fun b hb => Nat.lt_of_lt_of_le (hZ b hb) kk.next
          have hn7 := q2.next
          have hS6 : Sl rW (fun x => x = bv ∧ l ≠ []) H6 (.slice a4 l.length l.length) ws0 := by
            rcases hG with ⟨h0, hv4⟩ | ⟨b, cs4, rw4, h0, hv4, _⟩ | ⟨b, cs4, h0, hv4, _⟩
            · have e0 : ws0 = [] := List.eq_nil_of_length_eq_zero (by rw [← hlw, h0]; rfl)
              rw [e0, hv4]
              exact Sl.nil _ _ _
            · have e0 : ws0 = [] := List.eq_nil_of_length_eq_zero (by rw [← hlw, h0]; rfl)
              rw [e0, hv4]
              exact ⟨_, 0, rfl, Nat.le_refl _, .inr ⟨b, 0, none, rfl, (by intro q e; cases e), .inl rfl⟩⟩
            · have eb : bv = b := by rw [← hbv, hv4]; rfl
              have hlpos : 0 < l.length := List.length_pos_iff.2 h0
              have hm0 : (bv, 0) ∈ (H.next, 0) :: ptsA bv 0 l.length := by
                obtain ⟨n, hn⟩ : ∃ n, l.length = n + 1 := ⟨l.length - 1, by omega⟩
                rw [hn, ptsA]; simp
              obtain ⟨c6, h6, h7⟩ := q4 _ hm0 l.length ⟨_, hPw.2.1 h0, by simp⟩
              have ec := cells_all (ws := ws0) (h7.trans hlw) (by rw [← hlw]; exact ptsA_cells qt h6)
              subst ec
              have := Sl.fresh2 (Z := fun _ => False) h6
              rw [← hlw] at this
              rw [hv4, ← eb]
              exact this.ext fun x hx => ⟨⟨hx.resolve_left (fun h => h), h0⟩, rfl⟩
          simp (disch := first | omega | (show allOne _ = true; simp [allOne, Value.oneCell', S]) | (simp only [qz]; first | done | omega)) only [go_sem, hc0, ldc_cells, hc1]
          refine vm_call q1 hZ6 (hB.ext kk.ext) hBl w0 (hwb w0 (by simp)) _ ws0 (fun x hx => hwb x (by simp [hx])) (by omega) ⟨_, hS6, fun b hb => ?_, fun h => ?_, fun h => ?_, fun h => ?_⟩ 2 (by omega) N' hcall _ ?_
          · obtain ⟨rfl, hne⟩ := hb
            have := hPv.2 (b, 0) (by
              obtain ⟨n, hn⟩ : ∃ n, l.length = n + 1 := ⟨l.length - 1, by have := List.length_pos_iff.2 hne; omega⟩
              rw [hn, ptsA]; simp)
            omega
          · obtain ⟨h, hne⟩ := h
            obtain ⟨n, hn⟩ : ∃ n, l.length = n + 1 := ⟨l.length - 1, by have := List.length_pos_iff.2 hne; omega⟩
            have := q5 (bv, 0) (by rw [hn, ptsA]; simp)
            exact this.1 h.symm
          · obtain ⟨h, hne⟩ := h
            obtain ⟨n, hn⟩ : ∃ n, l.length = n + 1 := ⟨l.length - 1, by have := List.length_pos_iff.2 hne; omega⟩
            have := q5 (bv, 0) (by rw [hn, ptsA]; simp)
            exact this.2.1 h.symm
          · obtain ⟨h, hne⟩ := h
            obtain ⟨n, hn⟩ : ∃ n, l.length = n + 1 := ⟨l.length - 1, by have := List.length_pos_iff.2 hne; omega⟩
            have := q5 (bv, 0) (by rw [hn, ptsA]; simp)
            exact this.2.2 h.symm
          intro H9 h9 k9
          simp (disch := first | omega | (show allOne _ = true; simp [allOne, Value.oneCell', S]) | (simp only [qz]; first | done | omega)) only [go_sem]
          exact hR _ _ _ _ h9 (kk.trans k9)

    | false =>
      simp only [Bool.false_eq_true, if_false] at hbM
      simp (disch := first | omega | (show allOne _ = true; simp [allOne, Value.oneCell', S]) | (simp only [qz]; first | done | omega)) only [go_sem, hg4, ldc_cells]
      refine slices_Clone (Z := Z0) (l := l) (hs.ext fun b hb => ⟨hb, ho3 b (by rintro rfl; exact hz.1 hb) (hZ0 b hb)⟩) (fun b hb => by have := hZ0 b hb; have := hO12.1; omega) (by omega) _ ?_
      intro v' H4 hG hfq hO4
      obtain ⟨a4, hv4⟩ := hG.len
      subst hv4
      have hO5 := Old.push H4 (.cells [ptr H.next 0] true)
      have hx5 := HHeap.push_next H4 (.cells [ptr H.next 0] true)
      have hg5 : (H4.push (.cells [ptr H.next 0] true)).get H4.next = some (.cells [ptr H.next 0] true) := get_push_same _
      simp (disch := first | omega | (show allOne _ = true; simp [allOne, Value.oneCell', S]) | (simp only [qz]; first | done | omega)) only [go_sem]
      generalize H4.push (.cells [ptr H.next 0] true) = H5 at *
      have hn2 := hO12.1
      have hn4 := hO4.1
      have hM5 := hM3.old hok3 (hO4.trans hO5) hZ3 (fun _ h => h) (fun _ h => .inl h)
      generalize hbv : blkV (.slice a4 l.length l.length) = bv at *
      refine Hwp.loop (fun m fr K => ∃ (i : Nat) (mv : Value), m = l.length - i ∧ i ≤ l.length ∧ Rw rPt Z K mv ((H.next, 0) :: ptsA bv 0 i) ∧ (∀ b ∈ sblk mv, H4.next ≤ b ∧ b < K.next) ∧ Old H4 K ∧
        FLe (hfr 76 [(54, I (i : Nat)), (53, I (l.length : Nat)), (2, .slice a4 l.length l.length), (10, mv), (9, I (0 : Nat)), (4, ptr H.next 0), (0, ptr p 0)]) fr) l.length ?_ ?_
      · have hrw0 : Rw rPt Z H5 (.slice (some ⟨H4.next, 0, none⟩) 1 1) [(H.next, 0)] := .inr ⟨H4.next, [ptr H.next 0], true, by simp, rfl, fun hz => by have := hZ _ hz; omega, hg5, rfl, fun i x hx => by
          match i, hx with
          | 0, hx => cases hx; rfl
          | i + 1, hx => simp at hx⟩
        exact ⟨0, _, rfl, by omega, hrw0, by simp [sblk]; omega, hO5, fle_of (by simp [flook])⟩
      rintro m fr K ⟨i, mv, rfl, hi, g1, g2, g3, hle⟩
      refine Hwp.weaken hle (HW.sound _ _ _ _ ?_)
      have hZK : ∀ b, Z b → b < K.next := fun b hb => by have := hZ b hb; have := g3.1; omega
      by_cases hci : i < l.length
      · obtain ⟨b, cs4, e4, _, hg4', _, _⟩ := hG.at (List.getElem?_eq_getElem hci)
        injection e4 with e4
        subst e4
        have eb : b = bv := by rw [← hbv]; rfl
        subst eb
        simp (disch := first | omega | (show allOne _ = true; simp [allOne, Value.oneCell', S]) | (simp only [qz]; first | done | omega)) only [go_sem, ixa_ok]
        refine HGo_addR (n := 1) (by' := 8) (m := 1) (ys := [(b, i)]) g1 rfl (by omega) (get_push_same _) (Old.push _ _) hZK (fun b hb => (g2 b hb).2) (by simp) rfl rfl (fun j y hy => by
          match j, hy with
          | 0, hy => cases hy; show [_] = [_]; simp
          | j + 1, hy => simp at hy) (by rw [List.length_cons, ptsA_len]; omega) (by rw [List.length_cons, ptsA_len]; omega) ?_
        intro mv' K' k1 k2 k3' k4
        simp (disch := first | omega | (show allOne _ = true; simp [allOne, Value.oneCell', S]) | (simp only [qz]; first | done | omega)) only [go_sem]
        refine ⟨_, ?_, i + 1, mv', rfl, by omega, .inl ?_, fun b hb => ⟨by have := k2 b hb; have := g3.1; omega, (k2 b hb).2⟩, ⟨by have := g3.1; omega, fun b hb => by rw [k4 b (by have := g3.1; omega) (fun hm => by have := g2 b hm; omega), g3.2 b hb]⟩, fle_of (by simp [flook])⟩
        · omega
        · rw [ptsA_snoc, Nat.zero_add]; exact k1
      · have ei : i = l.length := by omega
        subst ei
        simp (disch := first | omega | (show allOne _ = true; simp [allOne, Value.oneCell', S]) | (simp only [qz]; first | done | omega)) only [go_sem]
        have hlt3 := hM3.lt hok3
        have hn5 := g3.1
        have hn6 := hO2.1
        have hMK := hM3.old hok3 (hO4.trans g3) hZ3 (fun _ h => h) (fun _ h => .inl h)
        have hgK : K.get H.next = some (.cells [U fn] true) := by rw [g3.2 _ (by omega), hO4.2 _ (by omega), hg4]
        have hPw : PtW K (ptsA bv 0 l.length) l ∧ (l ≠ [] → K.get bv = some (.cells (l.map U) true)) ∧ ∀ x ∈ ptsA bv 0 l.length, x.1 = bv ∧ H3.next ≤ bv ∧ bv < H4.next := by
          rcases hG with ⟨h0, _⟩ | ⟨b, cs4, rw4, h0, _⟩ | ⟨b, cs4, h0, hv4, _, hg4', hl4, hr4⟩
          · rw [h0]; exact ⟨.nil, fun h => absurd rfl h, by simp [ptsA]⟩
          · rw [h0]; exact ⟨.nil, fun h => absurd rfl h, by simp [ptsA]⟩
          · have e4 := Gr.cellsW (b := b) hl4 hr4
            subst e4
            have eb : bv = b := by rw [← hbv, hv4]; rfl
            have hb4 := hfq b (by rw [hv4]; simp [sblk])
            rw [eb]
            have hK4 := g3.2 b hb4.2
            rw [hg4'] at hK4
            exact ⟨ptsA_ptw l [] hK4, fun _ => hK4, fun x hx => ⟨ptsA_blk _ _ _ x hx, hb4⟩⟩
        have hPv : PtW K (ptsA bv 0 l.length) l ∧ ∀ x ∈ ptsA bv 0 l.length, x.1 = bv ∧ H3.next ≤ bv ∧ bv < H4.next := ⟨hPw.1, hPw.2.2⟩
        have hnd : ∀ (n i : Nat), (ptsA bv i n).Nodup ∧ ∀ x ∈ ptsA bv i n, i ≤ x.2 := by
          intro n
          induction n with
          | zero => intro i; simp [ptsA]
          | succ n ih =>
            intro i
            obtain ⟨h5, h6⟩ := ih (i + 1)
            rw [ptsA]
            exact ⟨List.nodup_cons.2 ⟨fun hm => by have := h6 _ hm; simp at this; omega, h5⟩, fun x hx => by rcases List.mem_cons.1 hx with rfl | hx; simp; have := h6 x hx; omega⟩
        skip
        refine vm_room hMK hZK 0 (by omega) mv ((H.next, 0) :: ptsA bv 0 l.length) (fn :: l) g1 (by rw [List.length_cons, ptsA_len]; omega)
          (fun b hb => by
            have := g2 b hb
            exact ⟨by omega, by omega, by omega, by omega, fun h => by have := hlt3.2.2.2.2.1 b h; omega, fun h => by have := hlt3.2.2.2.2.2.1 b h; omega, fun h => by have := hlt3.2.2.2.2.2.2 b h; omega⟩)
          (.cons ⟨_, hgK, rfl⟩ hPv.1) (by intro x hx; rcases List.mem_cons.1 hx with rfl | hx; exact hf; exact hl x hx) ?_ ?_ _ ?_
        · intro x hx
          have hx' : x.1 = H.next ∨ (H3.next ≤ x.1 ∧ x.1 < H4.next) := by
            rcases List.mem_cons.1 hx with rfl | hx
            · exact .inl rfl
            · have := hPv.2 x hx; exact .inr (by omega)
          refine ⟨fun hz => by have := hZ _ hz; omega, fun hm => by have := g2 _ hm; omega, by omega, by omega, by omega, by omega, fun h => ?_, fun h => ?_, fun h => ?_⟩
          · have := hlt.2.2.2.2.1 _ h; omega
          · have := hlt.2.2.2.2.2.1 _ h; omega
          · have := hlt.2.2.2.2.2.2 _ h; omega
        · refine List.nodup_cons.2 ⟨fun hm => ?_, (hnd l.length 0).1⟩
          have h9 := hPv.2 _ hm
          simp only at h9
          omega
        intro H6 g6 gw6 gh6 q1 q2 q3 q4 q5
        have kk : Kp Z H H6 := (k3.trans ((hO4.trans g3).kp hZ3)).trans q2
        cases hr : (M1.room size 0 (fn :: l)).1 with
        | false =>
          rw [hr, if_neg (by simp)] at hbM
          generalize (M1.room size 0 (fn :: l)).2.1 = N at *
          cases hbM
          simp (disch := first | omega | (show allOne _ = true; simp [allOne, Value.oneCell', S]) | (simp only [qz]; first | done | omega)) only [go_sem, q1.m, ldc_cells, mcells, stc_cells, set_set]
          exact hR _ _ _ _ (q1.put (M' := { N with st := 5 }) rfl rfl rfl rfl ⟨q1.ok.v, q1.ok.e, q1.ok.s, q1.ok.f, q1.ok.nm, q1.ok.ask, q1.ok.bl, q1.ok.pc, q1.ok.nml, q1.ok.kpl, q1.ok.askl⟩) (kk.trans (Kp.set q1.zp.1))
        | true =>
          rw [hr, if_pos rfl] at hbM
          generalize (M1.room size 0 (fn :: l)).2.1 = N at *
          generalize hws : (M1.room size 0 (fn :: l)).2.2 = ws at *
          cases q3 with
          | cons qh qt =>
          rename_i w0 ws0
          simp only at hbM
          cases hcall : N.call B size w0 ws0 2 with
          | none => rw [hcall] at hbM; cases hbM
          | some N' =>
          rw [hcall] at hbM
          have hNe : N' = M' ∧ e = 0 := by
            simp only [Option.map_some, Option.some.injEq, Prod.mk.injEq] at hbM
            exact ⟨hbM.2, hbM.1.symm⟩
          obtain ⟨rfl, rfl⟩ := hNe
          obtain ⟨c0, hc0, hc1⟩ := qh
          have hc0 : H6.get H.next = some (.cells c0 true) := hc0
          have hc1 : c0[0]? = some (U w0) := hc1
          have hlw := qt.len
          rw [ptsA_len] at hlw
          have hwb : ∀ x ∈ w0 :: ws0, x < 18446744073709551616 := by
            rw [← hws]
            exact room_lt (by have := hM3.A.room; have := hM3.A.big; omega) (by intro x hx; rcases List.mem_cons.1 hx with rfl | hx; exact hf; exact hl x hx)
          have hZ6 : ∀ b, Z b → b < H6.next := fun b hb => Nat.lt_of_lt_of_le (hZ b hb) kk.next
          have hn7 := q2.next
          have hS6 : Sl rW (fun x => x = bv ∧ l ≠ []) H6 (.slice a4 l.length l.length) ws0 := by
            rcases hG with ⟨h0, hv4⟩ | ⟨b, cs4, rw4, h0, hv4, _⟩ | ⟨b, cs4, h0, hv4, _⟩
            · have e0 : ws0 = [] := List.eq_nil_of_length_eq_zero (by rw [← hlw, h0]; rfl)
              rw [e0, hv4]
              exact Sl.nil _ _ _
            · have e0 : ws0 = [] := List.eq_nil_of_length_eq_zero (by rw [← hlw, h0]; rfl)
              rw [e0, hv4]
              exact ⟨_, 0, rfl, Nat.le_refl _, .inr ⟨b, 0, none, rfl, (by intro q e; cases e), .inl rfl⟩⟩
            · have eb : bv = b := by rw [← hbv, hv4]; rfl
              have hlpos : 0 < l.length := List.length_pos_iff.2 h0
              have hm0 : (bv, 0) ∈ (H.next, 0) :: ptsA bv 0 l.length := by
                obtain ⟨n, hn⟩ : ∃ n, l.length = n + 1 := ⟨l.length - 1, by omega⟩
                rw [hn, ptsA]; simp
              obtain ⟨c6, h6, h7⟩ := q4 _ hm0 l.length ⟨_, hPw.2.1 h0, by simp⟩
              have ec := cells_all (ws := ws0) (h7.trans hlw) (by rw [← hlw]; exact ptsA_cells qt h6)
              subst ec
              have := Sl.fresh2 (Z := fun _ => False) h6
              rw [← hlw] at this
              rw [hv4, ← eb]
              exact this.ext fun x hx => ⟨⟨hx.resolve_left (fun h => h), h0⟩, rfl⟩
          simp (disch := first | omega | (show allOne _ = true; simp [allOne, Value.oneCell', S]) | (simp only [qz]; first | done | omega)) only [go_sem, hc0, ldc_cells, hc1]
          refine vm_call q1 hZ6 (hB.ext kk.ext) hBl w0 (hwb w0 (by simp)) _ ws0 (fun x hx => hwb x (by simp [hx])) (by omega) ⟨_, hS6, fun b hb => ?_, fun h => ?_, fun h => ?_, fun h => ?_⟩ 2 (by omega) N' hcall _ ?_
          · obtain ⟨rfl, hne⟩ := hb
            have := hPv.2 (b, 0) (by
              obtain ⟨n, hn⟩ : ∃ n, l.length = n + 1 := ⟨l.length - 1, by have := List.length_pos_iff.2 hne; omega⟩
              rw [hn, ptsA]; simp)
            omega
          · obtain ⟨h, hne⟩ := h
            obtain ⟨n, hn⟩ : ∃ n, l.length = n + 1 := ⟨l.length - 1, by have := List.length_pos_iff.2 hne; omega⟩
            have := q5 (bv, 0) (by rw [hn, ptsA]; simp)
            exact this.1 h.symm
          · obtain ⟨h, hne⟩ := h
            obtain ⟨n, hn⟩ : ∃ n, l.length = n + 1 := ⟨l.length - 1, by have := List.length_pos_iff.2 hne; omega⟩
            have := q5 (bv, 0) (by rw [hn, ptsA]; simp)
            exact this.2.1 h.symm
          · obtain ⟨h, hne⟩ := h
            obtain ⟨n, hn⟩ : ∃ n, l.length = n + 1 := ⟨l.length - 1, by have := List.length_pos_iff.2 hne; omega⟩
            have := q5 (bv, 0) (by rw [hn, ptsA]; simp)
            exact this.2.2 h.symm
          intro H9 h9 k9
          simp (disch := first | omega | (show allOne _ = true; simp [allOne, Value.oneCell', S]) | (simp only [qz]; first | done | omega)) only [go_sem]
          exact hR _ _ _ _ h9 (kk.trans k9)

  · rw [if_pos her] at hbM
    cases hbM
    simp (disch := first | omega | (show allOne _ = true; simp [allOne, Value.oneCell', S]) | (simp only [qz]; first | done | omega)) only [go_sem]
    refine vm_fail hM3 er _ ?_
    intro k5 k6
    simp (disch := first | omega | (show allOne _ = true; simp [allOne, Value.oneCell', S]) | (simp only [qz]; first | done | omega)) only [go_sem]
    exact hR _ _ _ _ k5 (k3.trans k6)
end
end Go.HL
