/-
  Joined: C6, C7.
-/
import Derived.Test.YtaghhialaplgoaaGreatDoorPFC5
import Derived.Test.YtaghhialaplgoaaGreatDoorPFA10
set_option linter.unusedVariables false
set_option linter.unusedSimpArgs false
/-
  Walks: helps for what is kept.
-/
namespace Go.HL
open Go.RowKit Go.Proofs
set_option maxHeartbeats 4000000
set_option maxRecDepth 100000
set_option linter.unusedSimpArgs false
set_option linter.unusedVariables false

theorem wcells_set {size : Nat} {T : Things} {n i x : Nat} {t : Thing} (h : T[n]? = some t) (hi : i < t.l.length) :
    (wcells size T).set (placeOf T n + 1 + i) (U x) = wcells size (T.set n ⟨t.kind, t.l.set i x⟩) := by
  have hlen := lens_set T n t ⟨t.kind, t.l.set i x⟩ h (by simp)
  have hu : usedOf (T.set n ⟨t.kind, t.l.set i x⟩) = usedOf T := usedOf_congr _ _ hlen
  have hp : placeOf T n + 1 + i < usedOf T := by
    have hn := (List.getElem?_eq_some_iff.1 h).1
    have e : atP T (placeOf T n) = some t := by rw [atP_ixP, ixP_place T n hn]; simpa using h
    have := (atP_words T _ t e).1
    unfold Thing.room at this; omega
  unfold wcells
  rw [hu, ← wordsOf_set T n i x t h hi, List.set_append_left _ _ (by simpa [wordsOf_length] using hp), List.map_set]
theorem AtA.set {H : HHeap} {g gw gh size : Nat} {T : Things} (hA : AtA H g gw gh size T) {n i x : Nat} {t : Thing} (h : T[n]? = some t) (hi : i < t.l.length) (hx : x < 18446744073709551616) :
    AtA (H.set gw (.cells ((wcells size T).set (placeOf T n + 1 + i) (U x)) true)) g gw gh size (T.set n ⟨t.kind, t.l.set i x⟩) := by
  have hlen := lens_set T n t ⟨t.kind, t.l.set i x⟩ h (by simp)
  have hu : usedOf (T.set n ⟨t.kind, t.l.set i x⟩) = usedOf T := usedOf_congr _ _ hlen
  have hh : headsOf (T.set n ⟨t.kind, t.l.set i x⟩) = headsOf T := headsOf_congr _ _ hlen
  have n1 := hA.ne1
  have n2 := hA.ne2
  have n3 := hA.ne3
  refine ⟨?_, ?_, ?_, by rw [hu]; exact hA.room, hA.big, hA.pos, ?_, n1, n2, n3⟩
  · simp (disch := first | omega | (simp only [nx_push, nx_set, nx_kill]; done) | (simp only [nx_push, nx_set, nx_kill]; omega)) only [get_push_ne, get_push_eq, get_set_ne, get_set_eq, get_kill_ne, nx_push, nx_set, nx_kill]; rw [hA.a]; simp only [acells, hu]
  · simp (disch := first | omega | (simp only [nx_push, nx_set, nx_kill]; done) | (simp only [nx_push, nx_set, nx_kill]; omega)) only [get_push_ne, get_push_eq, get_set_ne, get_set_eq, get_kill_ne, nx_push, nx_set, nx_kill]; rw [wcells_set h hi]
  · simp (disch := first | omega | (simp only [nx_push, nx_set, nx_kill]; done) | (simp only [nx_push, nx_set, nx_kill]; omega)) only [get_push_ne, get_push_eq, get_set_ne, get_set_eq, get_kill_ne, nx_push, nx_set, nx_kill]; rw [hA.h]; simp only [hcells, hh, hu]
  · intro u hu'
    rcases List.mem_or_eq_of_mem_set hu' with h1 | h1
    · exact hA.ok u h1
    · subst h1
      have hk := hA.ok t (List.mem_of_getElem? h)
      refine ⟨hk.k1, hk.k9, by simpa using hk.len, fun y hy => ?_⟩
      rcases List.mem_or_eq_of_mem_set hy with h2 | h2
      · exact hk.words y h2
      · rw [h2]; exact hx

theorem arena_Set1 (H : HHeap) (g gw gh size : Nat) (T : Things) (hA : AtA H g gw gh size T) (n i x : Nat) (t : Thing) (h : T[n]? = some t) (hi : i < t.l.length) (hx : x < 18446744073709551616) (R : Value → HHeap → Prop)
   (hR : R (I 0) (H.set gw (.cells ((wcells size T).set (placeOf T n + 1 + i) (U x)) true))) : HCalls Tryz.prog 79 [ptr g 0, U (wordAt (placeOf T n)), I i, U x] H R := by
  have hn := (List.getElem?_eq_some_iff.1 h).1
  have hroom := hA.room
  have hbig := hA.big
  have hf : findT T (wordAt (placeOf T n)) = some t := by rw [findT_findI, word_findI hn]; simpa using h
  have ha : atP T (placeOf T n) = some t := by rw [atP_ixP, ixP_place T n hn]; simpa using h
  have hp := (atP_words T _ t ha).1
  unfold Thing.room at hp
  have hd : wordAt (placeOf T n) / 8 = placeOf T n := by unfold wordAt; omega
  refine HCalls.of_hw Tryz.func79 rfl _ Tryz.ntmps79 _ (by rw [Tryz.results79]) ?_
  rw [hframe0_eq _ _ (by simp)]
  simp only [List.zipIdx_cons, List.zipIdx_nil, List.map_cons, List.map_nil, Nat.reduceAdd]
  simp (disch := first | omega | (show allOne _ = true; simp [allOne, Value.oneCell', S]) | (simp only [qz]; first | done | omega)) only [go_sem]
  refine arena_at _ _ _ _ _ _ hA _ (by unfold wordAt; omega) i _ ?_
  have hl := wcells_length hA.room
  rw [atV, hf]
  simp only
  rw [if_pos (by omega), hd]
  simp (disch := first | omega | (show allOne _ = true; simp [allOne, Value.oneCell', S]) | (simp only [qz]; first | done | omega)) only [go_sem, hA.w, stc_cells]
  exact hR

/-- A word more, behind a row that grew by append alone. -/
theorem append_one (H : HHeap) (v : Value) (l : List Nat) (x : Nat) (hv : MadeAt H v l) (hl : l.length ≤ 1073741824) :
    ∃ v' H', apd (H.push (.cells [U x] true)) 1 8 v ([U x], 1) = some (v', H') ∧ MadeAt H' v' (l ++ [x]) ∧ H.next ≤ H'.next ∧ (∀ b, b < H.next → b ∉ vblk v → H'.get b = H.get b) ∧ (∀ b ∈ vblk v', H.next ≤ b) := by
  rcases hv with ⟨rfl, rfl⟩ | ⟨mb, md, rfl, mbl, mbg⟩
  · refine ⟨.slice (some ⟨H.next + 1, 0, some 2⟩) 1 1, (H.push (.cells [U x] true)).push (.cells [U x] true), ?_, ?_, ?_, ?_, ?_⟩
    · rw [apd_nil _ _ _ _ (by omega) (by omega) (by omega)]; rfl
    · exact .inr ⟨H.next + 1, by simp, by simp, by simp (disch := first | omega | (simp only [nx_push, nx_set, nx_kill]; done) | (simp only [nx_push, nx_set, nx_kill]; omega)) only [get_push_ne, get_push_eq, get_set_ne, get_set_eq, get_kill_ne, nx_push, nx_set, nx_kill]; omega, by simp (disch := first | omega | (simp only [nx_push, nx_set, nx_kill]; done) | (simp only [nx_push, nx_set, nx_kill]; omega)) only [get_push_ne, get_push_eq, get_set_ne, get_set_eq, get_kill_ne, nx_push, nx_set, nx_kill]; rfl⟩
    · simp (disch := first | omega | (simp only [nx_push, nx_set, nx_kill]; done) | (simp only [nx_push, nx_set, nx_kill]; omega)) only [get_push_ne, get_push_eq, get_set_ne, get_set_eq, get_kill_ne, nx_push, nx_set, nx_kill]; omega
    · intro b hb _; simp (disch := first | omega | (simp only [nx_push, nx_set, nx_kill]; done) | (simp only [nx_push, nx_set, nx_kill]; omega)) only [get_push_ne, get_push_eq, get_set_ne, get_set_eq, get_kill_ne, nx_push, nx_set, nx_kill]
    · intro b hb; simp [vblk] at hb; omega
  · refine ⟨.slice (some ⟨H.next + 1, 0, some 2⟩) (l.length + 1) (l.length + 1), ((H.push (.cells [U x] true)).kill mb).push (.cells (l.map U ++ [U x]) true), ?_, ?_, ?_, ?_, ?_⟩
    · rw [apd_some _ _ _ _ _ _ _ _ _ (by omega) (by omega) (by omega)]
      have : (H.push (HObj.cells [U x] true)).get mb = some (.cells (l.map U) true) := by simp (disch := first | omega | (simp only [nx_push, nx_set, nx_kill]; done) | (simp only [nx_push, nx_set, nx_kill]; omega)) only [get_push_ne, get_push_eq, get_set_ne, get_set_eq, get_kill_ne, nx_push, nx_set, nx_kill]; exact mbg
      rw [this, apo_grow1 _ _ _ _ _ (by omega) (by simp)]
      simp (disch := first | omega | (simp only [nx_push, nx_set, nx_kill]; done) | (simp only [nx_push, nx_set, nx_kill]; omega)) only [get_push_ne, get_push_eq, get_set_ne, get_set_eq, get_kill_ne, nx_push, nx_set, nx_kill]
    · exact .inr ⟨H.next + 1, by simp, by simp, by simp (disch := first | omega | (simp only [nx_push, nx_set, nx_kill]; done) | (simp only [nx_push, nx_set, nx_kill]; omega)) only [get_push_ne, get_push_eq, get_set_ne, get_set_eq, get_kill_ne, nx_push, nx_set, nx_kill]; omega, by simp (disch := first | omega | (simp only [nx_push, nx_set, nx_kill]; done) | (simp only [nx_push, nx_set, nx_kill]; omega)) only [get_push_ne, get_push_eq, get_set_ne, get_set_eq, get_kill_ne, nx_push, nx_set, nx_kill]; simp⟩
    · simp (disch := first | omega | (simp only [nx_push, nx_set, nx_kill]; done) | (simp only [nx_push, nx_set, nx_kill]; omega)) only [get_push_ne, get_push_eq, get_set_ne, get_set_eq, get_kill_ne, nx_push, nx_set, nx_kill]; omega
    · intro b hb hb2
      have : b ≠ mb := fun e => hb2 (by simp [vblk, e])
      simp (disch := first | omega | (simp only [nx_push, nx_set, nx_kill]; done) | (simp only [nx_push, nx_set, nx_kill]; omega)) only [get_push_ne, get_push_eq, get_set_ne, get_set_eq, get_kill_ne, nx_push, nx_set, nx_kill]
    · intro b hb; simp [vblk] at hb; omega

/-- A row of values that is only read. -/
def RowAt (H : HHeap) (s : Value) (vs : List Value) : Prop :=
  ∃ a c, s = .slice a vs.length c ∧ ((vs = [] ∧ (a = none → c = 0)) ∨ ∃ b o k cs rw, a = some ⟨b, o, k⟩ ∧ b < H.next ∧ H.get b = some (.cells cs rw) ∧ ∀ (i : Nat) v, vs[i]? = some v → cs[o + i]? = some v)
end Go.HL
/-
  Walks: what is kept.
-/
namespace Go.HL
open Go.RowKit Go.Proofs
set_option maxHeartbeats 4000000
set_option maxRecDepth 100000
set_option linter.unusedSimpArgs false
set_option linter.unusedVariables false

/-- How it stands while roots are brought. -/
structure LiveI (H0 H : HHeap) (m g' gw' gh' mm g size : Nat) (T : Things) (F ord : List Nat) (p q : Nat) (mv ov : Value) (out : List Nat) : Prop where
  lv : LvAt H m g' gw' gh' mm g size T F ord p q mv
  out : MadeAt H ov out
  keep : ∀ b, b < H0.next → H.get b = H0.get b
  next : H0.next ≤ H.next
  new : H0.next ≤ m ∧ H0.next ≤ g' ∧ H0.next ≤ gw' ∧ H0.next ≤ gh' ∧ H0.next ≤ mm
  mnew : ∀ b ∈ vblk mv, H0.next ≤ b
  onew : ∀ b ∈ vblk ov, H0.next ≤ b ∧ b ≠ m ∧ b ≠ g' ∧ b ≠ gw' ∧ b ≠ gh' ∧ b ≠ mm ∧ b ∉ vblk mv

theorem stepAll_append (T : Things) (ord a b : List Nat) : stepAll T ord (a ++ b) = stepAll T (stepAll T ord a) b := by unfold stepAll; rw [List.foldl_append]
theorem bfs_prefix (T : Things) (roots : List Nat) {i w : Nat} (h : roots[i]? = some w) : stepAll T [] (roots.take (i + 1)) = stepO T (stepAll T [] (roots.take i)) w ∧ ∃ l, bfs T roots = stepO T (stepAll T [] (roots.take i)) w ++ l := by
  have e : stepAll T [] (roots.take (i + 1)) = stepO T (stepAll T [] (roots.take i)) w := by
    rw [List.take_add_one, h, stepAll_append]; rfl
  refine ⟨e, ?_⟩
  obtain ⟨l, hl⟩ := scan_sub (T := T) (T.length + 1) 0 (stepAll T [] roots)
  obtain ⟨l', hl'⟩ := stepAll_sub (T := T) (roots.drop (i + 1)) (stepAll T [] (roots.take (i + 1)))
  refine ⟨l' ++ l, ?_⟩
  unfold bfs
  rw [hl]
  conv => lhs; rw [← List.take_append_drop (i + 1) roots]
  rw [stepAll_append, hl', e, List.append_assoc]
theorem stepAll_lt {T : Things} (ws ord : List Nat) (h : ∀ x ∈ ord, x < T.length) : ∀ x ∈ stepAll T ord ws, x < T.length := by
  intro x hx
  rw [stepAll_mem] at hx
  rcases hx with hx | ⟨w, _, hx⟩
  · exact h x hx
  · exact findI_lt hx
theorem MadeAt.frame {H H' : HHeap} {v : Value} {l : List Nat} (h : MadeAt H v l) (hn : H.next ≤ H'.next) (f : ∀ b ∈ vblk v, H'.get b = H.get b) : MadeAt H' v l := by
  rcases h with h | ⟨b, h1, h2, h3, h4⟩
  · exact .inl h
  · exact .inr ⟨b, h1, h2, by omega, by rw [f b (by rw [h2]; simp [vblk])]; exact h4⟩
theorem MadeAt.lt {H : HHeap} {v : Value} {l : List Nat} (h : MadeAt H v l) : ∀ b ∈ vblk v, b < H.next := by
  rcases h with ⟨_, rfl⟩ | ⟨b, h1, rfl, h3, h4⟩
  · simp [vblk]
  · intro c hc; simp [vblk] at hc; omega
theorem MvAt.frame {H H' : HHeap} {m g' gw' gh' mm g size : Nat} {T' : Things} {went : List (Nat × Nat)} {made : List Nat} {mv : Value} (h : MvAt H m g' gw' gh' mm g size T' went made mv) (hn : H.next ≤ H'.next)
    (f : ∀ b, b = m ∨ b = g' ∨ b = gw' ∨ b = gh' ∨ b = mm ∨ b ∈ vblk mv → H'.get b = H.get b) : MvAt H' m g' gw' gh' mm g size T' went made mv := by
  obtain ⟨l1, l2, l3, l4, l5⟩ := h.lt
  exact ⟨by rw [f _ (by simp)]; exact h.s, h.to.frame (fun b hb => f b (by rcases hb with rfl | rfl | rfl <;> simp)), by rw [f _ (by simp)]; exact h.map, h.mades.frame hn (fun b hb => f b (by simp [hb])), h.d1, h.d2, ⟨by omega, by omega, by omega, by omega, by omega⟩, h.mlen, h.mvn⟩

theorem tr_lt {T : Things} {F : List Nat} (hnd : F.Nodup) (hlt : ∀ x ∈ F, x < T.length) (hu : usedOf T ≤ 65536) {w : Nat} (hw : w < 18446744073709551616) (hF : ∀ i, findI T w = some i → i ∈ F) : tr T F w < 18446744073709551616 := by
  unfold tr
  cases h : findI T w with
  | none => simp only; split <;> omega
  | some i =>
    simp only
    obtain ⟨n, hn⟩ := List.getElem?_of_mem (hF i h)
    rw [placeIn_get (l := []) (by simp) hnd hn]
    have := sumR_le T (F.take n) (hnd.sublist (List.take_sublist _ _)) (fun x hx => hlt x (List.mem_of_mem_take hx))
    unfold wordAt; omega

theorem move_Live (H : HHeap) (g gw gh size : Nat) (T : Things) (hA : AtA H g gw gh size T) (hAlt : g < H.next ∧ gw < H.next ∧ gh < H.next) (s : Value) (roots : List Nat) (hs : RowAt H s (roots.map U)) (hrw : ∀ w ∈ roots, w < 18446744073709551616) (hrl : roots.length ≤ 1073741824)
    (R : Value → HHeap → Prop)
    (hR : ∀ H' g' gw' gh' v, AtA H' g' gw' gh' size (outT T (bfs T roots)) → MadeAt H' v (roots.map (tr T (bfs T roots))) → (∀ b, b < H.next → H'.get b = H.get b) → H.next ≤ H'.next →
      (H.next ≤ g' ∧ H.next ≤ gw' ∧ H.next ≤ gh') → (g' < H'.next ∧ gw' < H'.next ∧ gh' < H'.next) → (∀ b ∈ vblk v, H.next ≤ b ∧ b ≠ g' ∧ b ≠ gw' ∧ b ≠ gh') → R (.tuple #[ptr g' 0, v]) H') : HCalls Tryz.prog 53 [ptr g 0, s] H R := by
  have hbig := hA.big
  have hpos := hA.pos
  obtain ⟨a1, a2, a3⟩ := hAlt
  refine HCalls.of_hw Tryz.func53 rfl _ Tryz.ntmps53 _ (by rw [Tryz.results53]) ?_
  rw [hframe0_eq _ _ (by simp)]
  simp only [List.zipIdx_cons, List.zipIdx_nil, List.map_cons, List.map_nil, Nat.reduceAdd]
  simp (disch := first | omega | (show allOne _ = true; simp [allOne, Value.oneCell', S]) | (simp only [qz]; first | done | omega)) only [go_sem]
  refine arena_Size _ _ _ _ _ _ hA _ ?_
  simp (disch := first | omega | (show allOne _ = true; simp [allOne, Value.oneCell', S]) | (simp only [qz]; first | done | omega)) only [go_sem]
  refine arena_New size hpos hbig _ _ ?_
  intro H1 g' gw' gh' b1 b2 b3 b4 b5 b6 b7 hA1
  have hn1 := hA1.ne1
  have hn2 := hA1.ne2
  have hn3 := hA1.ne3
  obtain ⟨sa, sc, rfl, hsv⟩ := hs
  simp (disch := first | omega | (show allOne _ = true; simp [allOne, Value.oneCell', S]) | (simp only [qz]; first | done | omega)) only [go_sem, hbox_agg]
  refine Hwp.loop (fun n fr H' => ∃ i mv ov, n = roots.length - i ∧ i ≤ roots.length ∧ LiveI H H' (H1.next + 1) g' gw' gh' H1.next g size T (bfs T roots) (stepAll T [] (roots.take i)) 0 0 mv ov ((roots.take i).map (tr T (bfs T roots))) ∧
     FLe (hfr 85 [(33, I i), (32, I roots.length), (31, .slice sa (roots.map U).length sc), (9, ov), (8, ptr (H1.next + 1) 0), (6, ptr g' 0), (0, ptr g 0), (1, .slice sa (roots.map U).length sc)]) fr) roots.length ?_ ?_
  · refine ⟨0, .slice none 0 0, .slice none 0 0, by omega, by omega, ?_, fle_of (by simp [flook])⟩
    refine ⟨⟨?_, ?_, ?_, .inl ⟨rfl, rfl⟩, ?_, ?_, ?_, rfl, ?_⟩, .inl ⟨by simp, rfl⟩, ?_, ?_, ?_, ?_, ?_⟩
    · simp (disch := first | omega | (simp only [nx_push, nx_set, nx_kill]; done) | (simp only [nx_push, nx_set, nx_kill]; omega)) only [get_push_ne, get_push_eq, get_set_ne, get_set_eq, get_kill_ne, nx_push, nx_set, nx_kill]
    · exact hA1.frame (by rintro b (rfl | rfl | rfl) <;> simp (disch := first | omega | (simp only [nx_push, nx_set, nx_kill]; done) | (simp only [nx_push, nx_set, nx_kill]; omega)) only [get_push_ne, get_push_eq, get_set_ne, get_set_eq, get_kill_ne, nx_push, nx_set, nx_kill])
    · simp (disch := first | omega | (simp only [nx_push, nx_set, nx_kill]; done) | (simp only [nx_push, nx_set, nx_kill]; omega)) only [get_push_ne, get_push_eq, get_set_ne, get_set_eq, get_kill_ne, nx_push, nx_set, nx_kill]; rfl
    · omega
    · omega
    · simp (disch := first | omega | (simp only [nx_push, nx_set, nx_kill]; done) | (simp only [nx_push, nx_set, nx_kill]; omega)) only [get_push_ne, get_push_eq, get_set_ne, get_set_eq, get_kill_ne, nx_push, nx_set, nx_kill]; omega
    · simp [vblk]
    · intro b hb; simp (disch := first | omega | (simp only [nx_push, nx_set, nx_kill]; done) | (simp only [nx_push, nx_set, nx_kill]; omega)) only [get_push_ne, get_push_eq, get_set_ne, get_set_eq, get_kill_ne, nx_push, nx_set, nx_kill]; exact b7 b hb
    · simp (disch := first | omega | (simp only [nx_push, nx_set, nx_kill]; done) | (simp only [nx_push, nx_set, nx_kill]; omega)) only [get_push_ne, get_push_eq, get_set_ne, get_set_eq, get_kill_ne, nx_push, nx_set, nx_kill]; omega
    · omega
    · simp [vblk]
    · simp [vblk]
  · rintro n fr H' ⟨i, mv, ov, rfl, hi, hI, hle⟩
    refine Hwp.weaken hle (HW.sound _ _ _ _ ?_)
    by_cases hc : i < roots.length
    · obtain ⟨w, hw⟩ : ∃ w, roots[i]? = some w := ⟨_, List.getElem?_eq_getElem hc⟩
      have hwm : w ∈ roots := List.mem_of_getElem? hw
      obtain ⟨e1, e2⟩ := bfs_prefix T roots hw
      rcases hsv with hsv | ⟨b, o, k, cs, rw', rfl, hbl, hbg, hbv⟩
      · have : roots.length = 0 := by simpa using hsv.1
        omega
      · have hcb := hbv i (U w) (by rw [List.getElem?_map, hw]; rfl)
        have hgb := hI.keep b hbl
        rw [hbg] at hgb
        simp (disch := first | omega | (show allOne _ = true; simp [allOne, Value.oneCell', S]) | (simp only [qz]; first | done | omega)) only [go_sem, ixa_ok, ldc_cells, hgb, hcb]
        have hA2 : AtA H' g gw gh size T := hA.frame (by rintro b (rfl | rfl | rfl) <;> exact hI.keep _ (by omega))
        have hnx := hI.next
        obtain ⟨c1, c2, c3, c4, c5⟩ := hI.new
        refine bringO H' _ _ _ _ _ g gw gh size size T _ _ 0 0 mv hI.lv hA2 ⟨by omega, by omega, by omega⟩ w (hrw w hwm) e2 (stepAll_nodup _ _ List.nodup_nil) (stepAll_lt _ _ (by simp)) (by omega) hA.room _ ?_
        intro H2 mv2 hlv2 hst
        have hov : MadeAt H2 ov ((roots.take i).map (tr T (bfs T roots))) := hI.out.frame hst.next (fun c hc => by
          obtain ⟨o1, o2, o3, o4, o5, o6, o7⟩ := hI.onew c hc
          exact hst.same c (hI.out.lt c hc) o2 o3 o4 o5 o6 o7)
        obtain ⟨ov3, H3, q1, q2, q3, q4, q5⟩ := append_one H2 ov _ (tr T (bfs T roots) w) hov (by simp; omega)
        simp (disch := first | omega | (show allOne _ = true; simp [allOne, Value.oneCell', S]) | (simp only [qz]; first | done | omega)) only [go_sem, hsource_slice, hsrc_cells, List.drop_zero, List.take_succ_cons, List.take_zero, q1, ldc_cells]
        have hovn : ∀ c ∈ vblk ov, c ∉ vblk mv2 ∧ c ≠ H1.next + 1 ∧ c ≠ g' ∧ c ≠ gw' ∧ c ≠ gh' ∧ c ≠ H1.next := fun c hc => by
          obtain ⟨o1, o2, o3, o4, o5, o6, o7⟩ := hI.onew c hc
          refine ⟨fun hm => ?_, o2, o3, o4, o5, o6⟩
          rcases hst.mine c hm with hh | hh
          · exact o7 hh
          · have := hI.out.lt c hc; omega
        have hmlt := hlv2.mades.lt
        obtain ⟨l1, l2, l3, l4, l5⟩ := hlv2.lt
        have hn2 := hst.next
        refine ⟨_, ?_, i + 1, mv2, ov3, rfl, by omega, ?_, fle_of (by simp [flook])⟩
        · omega
        · rw [e1]
          refine ⟨hlv2.frame q3 (fun c hc => q4 c ?_ ?_), ?_, ?_, by omega, ⟨c1, c2, c3, c4, c5⟩, ?_, ?_⟩
          · rcases hc with rfl | rfl | rfl | rfl | rfl | hc <;> first | assumption | exact hmlt c hc
          · intro hm
            obtain ⟨o0, o2, o3, o4, o5, o6⟩ := hovn c hm
            rcases hc with hc | hc | hc | hc | hc | hc <;> contradiction
          · rw [List.take_add_one, hw]; simpa using q2
          · intro c hc
            rw [q4 c (by omega) (fun hm => by have := (hI.onew c hm).1; omega), hst.same c (by omega) (by omega) (by omega) (by omega) (by omega) (by omega) (fun hm => by have := hI.mnew c hm; omega)]
            exact hI.keep c hc
          · intro c hc
            rcases hst.mine c hc with hh | hh
            · exact hI.mnew c hh
            · omega
          · intro c hc
            have := q5 c hc
            exact ⟨by omega, by omega, by omega, by omega, by omega, by omega, fun hm => by have := hmlt c hm; omega⟩
    · simp (disch := first | omega | (show allOne _ = true; simp [allOne, Value.oneCell', S]) | (simp only [qz]; first | done | omega)) only [go_sem]
      have hi' : i = roots.length := by omega
      subst hi'
      rw [List.take_of_length_le (by omega)] at hI
      refine Hwp.loop (fun n fr H' => ∃ p ord mv, n = T.length + 1 - p ∧ p ≤ ord.length ∧ ScanInv T roots p ord ∧ bfs T roots = scan T (T.length + 1 - p) p ord ∧ LiveI H H' (H1.next + 1) g' gw' gh' H1.next g size T (bfs T roots) ord p 0 mv ov (roots.map (tr T (bfs T roots))) ∧
         FLe (hfr 85 [(12, I p), (9, ov), (8, ptr (H1.next + 1) 0), (6, ptr g' 0)]) fr) (T.length + 1) ?_ ?_
      · exact ⟨0, _, mv, by omega, by omega, ScanInv.start T roots, rfl, hI, fle_of (by simp [flook])⟩
      · clear hI hle mv hi hc
        rintro n fr H' ⟨p, ord, mv, rfl, hp, hS, hF, hI, hle⟩
        refine Hwp.weaken hle (HW.sound _ _ _ _ ?_)
        have hol := hS.le
        have fin : ord.length ≤ p → R (.tuple #[ptr g' 0, ov]) H' := by
          intro hpo
          have hpe : p = ord.length := by omega
          have hFo : bfs T roots = ord := by rw [hF]; exact scan_stop hpo
          have hto := hI.lv.to
          rw [midT_done T (bfs T roots) p 0 ord 0 (by omega), ← hFo] at hto
          obtain ⟨c1, c2, c3, c4, c5⟩ := hI.new
          obtain ⟨l1, l2, l3, l4, l5⟩ := hI.lv.lt
          exact hR H' g' gw' gh' ov hto hI.out hI.keep hI.next ⟨c2, c3, c4⟩ ⟨l2, l3, l4⟩ (fun b hb => by
            obtain ⟨o1, o2, o3, o4, o5, o6, o7⟩ := hI.onew b hb
            exact ⟨o1, o3, o4, o5⟩)
        have hml : (madeO T (bfs T roots) ord).length = ord.length := by simp [madeO]
        have hls := hI.lv.s
        rcases hI.lv.mades with ⟨md, hmv⟩ | ⟨mb, md, hmv, mbl, mbg⟩
        · rw [md] at hml
          have hp0 : p = 0 := by simp at hml; omega
          subst hmv; subst hp0
          simp (disch := first | omega | (show allOne _ = true; simp [allOne, Value.oneCell', S]) | (simp only [qz]; first | done | omega)) only [go_sem, hls, ldc_cells]
          exact fin (by simp at hml; omega)
        · subst hmv
          by_cases hpo : p < ord.length
          · obtain ⟨i, hi⟩ : ∃ i, ord[p]? = some i := ⟨_, List.getElem?_eq_getElem hpo⟩
            have hil : i < T.length := reached_lt (hS.sound i (List.mem_of_getElem? hi))
            obtain ⟨t, hti⟩ : ∃ t, T[i]? = some t := ⟨_, List.getElem?_eq_getElem hil⟩
            have htok := hA.ok t (List.mem_of_getElem? hti)
            have hwi : wordsI T i = t.l := by unfold wordsI; rw [hti]
            have hmg : ((madeO T (bfs T roots) ord).map U)[p]? = some (U (wordAt (placeIn T (bfs T roots) i))) := by
              rw [List.getElem?_map, madeO, List.getElem?_map, hi]; rfl
            obtain ⟨Fl, hFl⟩ := scan_sub (T := T) (T.length + 1 - p) p ord
            rw [← hF] at hFl
            have hfind := midT_find (T := T) hFl hS.nodup p 0 hi
            rw [midThing_new hti (.inr ⟨rfl, rfl⟩)] at hfind
            have hwN : wordsN (midT T (bfs T roots) p 0 0 ord) (wordAt (placeIn T (bfs T roots) i)) = t.l := by unfold wordsN; rw [hfind]
            have hlN : lenN (midT T (bfs T roots) p 0 0 ord) (wordAt (placeIn T (bfs T roots) i)) = t.l.length := by unfold lenN; rw [hfind]
            obtain ⟨l1, l2, l3, l4, l5⟩ := hI.lv.lt
            have hpl : placeIn T (bfs T roots) i ≤ 65536 := by
              rw [placeIn_get hFl hS.nodup hi]
              have := sumR_le T (ord.take p) (hS.nodup.sublist (List.take_sublist _ _)) (fun x hx => reached_lt (hS.sound x (List.mem_of_mem_take hx)))
              have := hA.room
              omega
            simp (disch := first | omega | (show allOne _ = true; simp [allOne, Value.oneCell', S]) | (simp only [qz]; first | done | omega)) only [go_sem, hls, ldc_cells, mbg, ixa_ok, hmg]
            refine move_words _ _ _ _ _ _ hI.lv.to ⟨l2, l3, l4⟩ _ (by unfold wordAt; omega) _ ?_
            rw [hwN, hlN]
            have hlen := htok.len
            have hTl := length_le_used T
            have hTr := hA.room
            simp (disch := first | omega | (show allOne _ = true; simp [allOne, Value.oneCell', S]) | (simp only [qz]; first | done | omega)) only [go_sem]
            have hnx := hI.next
            obtain ⟨c1, c2, c3, c4, c5⟩ := hI.new
            have hFi : bfs T roots = scan T (T.length - p) (p + 1) (stepAll T ord (wordsI T i)) := by
              rw [hF, show T.length + 1 - p = (T.length - p) + 1 by omega, scan_step hi]
            obtain ⟨Fl2, hFl2⟩ := scan_sub (T := T) (T.length - p) (p + 1) (stepAll T ord (wordsI T i))
            rw [← hFi] at hFl2
            refine Hwp.loop (fun n fr H'' => ∃ q ord' mv', n = t.l.length - q ∧ q ≤ t.l.length ∧ ord' = stepAll T ord (t.l.take q) ∧ LiveI H H'' (H1.next + 1) g' gw' gh' H1.next g size T (bfs T roots) ord' p q mv' ov (roots.map (tr T (bfs T roots))) ∧
              H''.get H'.next = some (.cells (t.l.map U) true) ∧ H'.next < H''.next ∧ H'.next ∉ vblk mv' ∧ H'.next ∉ vblk ov ∧
              FLe (hfr 85 [(63, I q), (62, I t.l.length), (61, .slice (some ⟨H'.next, 0, none⟩) t.l.length t.l.length), (12, I p), (9, ov), (8, ptr (H1.next + 1) 0), (6, ptr g' 0)]) fr) t.l.length ?_ ?_
            · refine ⟨0, ord, _, by omega, by omega, by simp [stepAll], ⟨hI.lv.frame (by simp (disch := first | omega | (simp only [nx_push, nx_set, nx_kill]; done) | (simp only [nx_push, nx_set, nx_kill]; omega)) only [get_push_ne, get_push_eq, get_set_ne, get_set_eq, get_kill_ne, nx_push, nx_set, nx_kill]; omega) ?_, hI.out.frame (by simp (disch := first | omega | (simp only [nx_push, nx_set, nx_kill]; done) | (simp only [nx_push, nx_set, nx_kill]; omega)) only [get_push_ne, get_push_eq, get_set_ne, get_set_eq, get_kill_ne, nx_push, nx_set, nx_kill]; omega) ?_, ?_, by simp (disch := first | omega | (simp only [nx_push, nx_set, nx_kill]; done) | (simp only [nx_push, nx_set, nx_kill]; omega)) only [get_push_ne, get_push_eq, get_set_ne, get_set_eq, get_kill_ne, nx_push, nx_set, nx_kill]; omega, hI.new, hI.mnew, hI.onew⟩, by simp (disch := first | omega | (simp only [nx_push, nx_set, nx_kill]; done) | (simp only [nx_push, nx_set, nx_kill]; omega)) only [get_push_ne, get_push_eq, get_set_ne, get_set_eq, get_kill_ne, nx_push, nx_set, nx_kill], by simp (disch := first | omega | (simp only [nx_push, nx_set, nx_kill]; done) | (simp only [nx_push, nx_set, nx_kill]; omega)) only [get_push_ne, get_push_eq, get_set_ne, get_set_eq, get_kill_ne, nx_push, nx_set, nx_kill]; omega, ?_, ?_, fle_of (by simp [flook])⟩
              · intro c hc
                have : c < H'.next := by
                  rcases hc with rfl | rfl | rfl | rfl | rfl | hc
                  · exact l1
                  · exact l2
                  · exact l3
                  · exact l4
                  · exact l5
                  · exact hI.lv.mades.lt c hc
                simp (disch := first | omega | (simp only [nx_push, nx_set, nx_kill]; done) | (simp only [nx_push, nx_set, nx_kill]; omega)) only [get_push_ne, get_push_eq, get_set_ne, get_set_eq, get_kill_ne, nx_push, nx_set, nx_kill]
              · intro c hc
                have := hI.out.lt c hc
                simp (disch := first | omega | (simp only [nx_push, nx_set, nx_kill]; done) | (simp only [nx_push, nx_set, nx_kill]; omega)) only [get_push_ne, get_push_eq, get_set_ne, get_set_eq, get_kill_ne, nx_push, nx_set, nx_kill]
              · intro c hc
                simp (disch := first | omega | (simp only [nx_push, nx_set, nx_kill]; done) | (simp only [nx_push, nx_set, nx_kill]; omega)) only [get_push_ne, get_push_eq, get_set_ne, get_set_eq, get_kill_ne, nx_push, nx_set, nx_kill]; exact hI.keep c hc
              · intro hm; have := hI.lv.mades.lt _ hm; omega
              · intro hm; have := hI.out.lt _ hm; omega
            · rintro n fr H'' ⟨q, ord', mv', rfl, hq, rfl, hJ, hwb, hwn, hw1, hw2, hle2⟩
              refine Hwp.weaken hle2 (HW.sound _ _ _ _ ?_)
              by_cases hqc : q < t.l.length
              · obtain ⟨w, hw⟩ : ∃ w, t.l[q]? = some w := ⟨_, List.getElem?_eq_getElem hqc⟩
                have hwlt := htok.words w (List.mem_of_getElem? hw)
                have hwg : (t.l.map U)[q]? = some (U w) := by rw [List.getElem?_map, hw]; rfl
                simp (disch := first | omega | (show allOne _ = true; simp [allOne, Value.oneCell', S]) | (simp only [qz]; first | done | omega)) only [go_sem, ixa_ok, ldc_cells, hwb, hwg]
                have hA3 : AtA H'' g gw gh size T := hA.frame (by rintro b (rfl | rfl | rfl) <;> exact hJ.keep _ (by omega))
                have hnx2 := hJ.next
                obtain ⟨sl, hsl⟩ := stepAll_sub (T := T) (t.l.take q) ord
                have est : stepAll T ord (t.l.take (q + 1)) = stepO T (stepAll T ord (t.l.take q)) w := by
                  rw [List.take_add_one, hw, stepAll_append]; rfl
                have hpre : ∃ l, bfs T roots = stepO T (stepAll T ord (t.l.take q)) w ++ l := by
                  obtain ⟨l', hl'⟩ := stepAll_sub (T := T) (t.l.drop (q + 1)) (stepAll T ord (t.l.take (q + 1)))
                  rw [← stepAll_append, List.take_append_drop, est] at hl'
                  exact ⟨l' ++ Fl2, by rw [hFl2, hwi, hl', List.append_assoc]⟩
                have hordlt : ∀ x ∈ stepAll T ord (t.l.take q), x < T.length := stepAll_lt _ _ (fun x hx => reached_lt (hS.sound x hx))
                have hordnd : (stepAll T ord (t.l.take q)).Nodup := stepAll_nodup _ _ hS.nodup
                refine bringO H'' _ _ _ _ _ g gw gh size size T _ _ p q mv' hJ.lv hA3 ⟨by omega, by omega, by omega⟩ w hwlt hpre hordnd hordlt (.inl (by rw [hsl, List.length_append]; omega)) hA.room _ ?_
                intro H3 mv3 hlv3 hst
                rw [← est] at hlv3 hpre
                obtain ⟨s3, hs3⟩ := stepAll_sub (T := T) (t.l.take (q + 1)) ord
                have hgi : (stepAll T ord (t.l.take (q + 1)))[p]? = some i := by rw [hs3, List.getElem?_append_left hpo]; exact hi
                have hls3 := hlv3.s
                have hmg3 : ((madeO T (bfs T roots) (stepAll T ord (t.l.take (q + 1)))).map U)[p]? = some (U (wordAt (placeIn T (bfs T roots) i))) := by
                  rw [List.getElem?_map, madeO, List.getElem?_map, hgi]; rfl
                rcases hlv3.mades with ⟨md3, _⟩ | ⟨mb3, md3, hmv3, mbl3, mbg3⟩
                · rw [md3] at hmg3; simp at hmg3
                · subst hmv3
                  have hml3 : p < (madeO T (bfs T roots) (stepAll T ord (t.l.take (q + 1)))).length := by
                    have := (List.getElem?_eq_some_iff.1 hmg3).1
                    simpa using this
                  simp (disch := first | omega | (show allOne _ = true; simp [allOne, Value.oneCell', S]) | (simp only [qz]; first | done | omega)) only [go_sem, hls3, ldc_cells, mbg3, ixa_ok, hmg3]
                  obtain ⟨pl, hpl3⟩ := hpre
                  have hnd3 : (stepAll T ord (t.l.take (q + 1))).Nodup := stepAll_nodup _ _ hS.nodup
                  have hpe : placeIn T (bfs T roots) i = placeOf (midT T (bfs T roots) p q 0 (stepAll T ord (t.l.take (q + 1)))) p := by
                    rw [placeOf_midT]; exact placeIn_get hpl3 hnd3 hgi
                  have hmt := midT_get T (bfs T roots) p q _ 0 p i hgi
                  rw [Nat.zero_add] at hmt
                  have hmlen : (midThing T (bfs T roots) p q p i).l.length = t.l.length := by
                    unfold midThing; rw [hti]; simp; omega
                  have htrl : tr T (bfs T roots) w < 18446744073709551616 := by
                    refine tr_lt (bfs_nodup T roots) (fun x hx => reached_lt ((bfs_mem T roots x).1 hx)) (by omega) hwlt (fun j hj => ?_)
                    rw [bfs_mem]
                    exact .next i w j (hS.sound i (List.mem_of_getElem? hi)) (by rw [hwi]; exact List.mem_of_getElem? hw) hj
                  rw [hpe]
                  refine arena_Set1 H3 g' gw' gh' size _ hlv3.to p q _ _ hmt (by omega) htrl _ ?_
                  have hset := hlv3.to.set hmt (i := q) (by omega) htrl
                  rw [midT_set T (bfs T roots) p q hti hw _ 0 p hgi (by omega)] at hset
                  obtain ⟨m1, m2, m3, m4, m5⟩ := hlv3.lt
                  obtain ⟨d1, d2, d3, d4⟩ := hlv3.d1
                  obtain ⟨e1, e2, e3⟩ := hlv3.d2
                  have hn1 := hlv3.to.ne1
                  have hn2 := hlv3.to.ne2
                  have hn3 := hlv3.to.ne3
                  have hst1 := hst.next
                  have hmvn := hlv3.mvn
                  have hmlt3 := hlv3.mades.lt
                  have hlive : LiveI H (H3.set gw' (.cells ((wcells size (midT T (bfs T roots) p q 0 (stepAll T ord (t.l.take (q + 1))))).set (placeOf (midT T (bfs T roots) p q 0 (stepAll T ord (t.l.take (q + 1)))) p + 1 + q) (U (tr T (bfs T roots) w))) true)) (H1.next + 1) g' gw' gh' H1.next g size T (bfs T roots) (stepAll T ord (t.l.take (q + 1))) p (q + 1) (.slice (some ⟨mb3, 0, some 2⟩) (madeO T (bfs T roots) (stepAll T ord (t.l.take (q + 1)))).length (madeO T (bfs T roots) (stepAll T ord (t.l.take (q + 1)))).length) ov (roots.map (tr T (bfs T roots))) := by
                    refine ⟨⟨?_, hset, ?_, hlv3.mades.frame (by simp (disch := first | omega | (simp only [nx_push, nx_set, nx_kill]; done) | (simp only [nx_push, nx_set, nx_kill]; omega)) only [get_push_ne, get_push_eq, get_set_ne, get_set_eq, get_kill_ne, nx_push, nx_set, nx_kill]; omega) ?_, ⟨d1, d2, d3, d4⟩, ⟨e1, e2, e3⟩, ?_, ?_, hlv3.mvn⟩, ?_, ?_, ?_, hJ.new, ?_, ?_⟩
                    · simp (disch := first | omega | (simp only [nx_push, nx_set, nx_kill]; done) | (simp only [nx_push, nx_set, nx_kill]; omega)) only [get_push_ne, get_push_eq, get_set_ne, get_set_eq, get_kill_ne, nx_push, nx_set, nx_kill]; exact hlv3.s
                    · simp (disch := first | omega | (simp only [nx_push, nx_set, nx_kill]; done) | (simp only [nx_push, nx_set, nx_kill]; omega)) only [get_push_ne, get_push_eq, get_set_ne, get_set_eq, get_kill_ne, nx_push, nx_set, nx_kill]; exact hlv3.map
                    · intro c hc
                      have := hmvn c hc
                      simp (disch := first | omega | (simp only [nx_push, nx_set, nx_kill]; done) | (simp only [nx_push, nx_set, nx_kill]; omega)) only [get_push_ne, get_push_eq, get_set_ne, get_set_eq, get_kill_ne, nx_push, nx_set, nx_kill]
                    · simp (disch := first | omega | (simp only [nx_push, nx_set, nx_kill]; done) | (simp only [nx_push, nx_set, nx_kill]; omega)) only [get_push_ne, get_push_eq, get_set_ne, get_set_eq, get_kill_ne, nx_push, nx_set, nx_kill]; exact ⟨m1, m2, m3, m4, m5⟩
                    · have := hlv3.mlen
                      rw [midT_length] at this ⊢; exact this
                    · refine (hJ.out.frame hst.next (fun c hc => ?_)).frame (by simp (disch := first | omega | (simp only [nx_push, nx_set, nx_kill]; done) | (simp only [nx_push, nx_set, nx_kill]; omega)) only [get_push_ne, get_push_eq, get_set_ne, get_set_eq, get_kill_ne, nx_push, nx_set, nx_kill]; omega) (fun c hc => ?_)
                      · obtain ⟨o1, o2, o3, o4, o5, o6, o7⟩ := hJ.onew c hc
                        exact hst.same c (hJ.out.lt c hc) o2 o3 o4 o5 o6 o7
                      · obtain ⟨o1, o2, o3, o4, o5, o6, o7⟩ := hJ.onew c hc
                        simp (disch := first | omega | (simp only [nx_push, nx_set, nx_kill]; done) | (simp only [nx_push, nx_set, nx_kill]; omega)) only [get_push_ne, get_push_eq, get_set_ne, get_set_eq, get_kill_ne, nx_push, nx_set, nx_kill]
                    · intro c hc
                      simp (disch := first | omega | (simp only [nx_push, nx_set, nx_kill]; done) | (simp only [nx_push, nx_set, nx_kill]; omega)) only [get_push_ne, get_push_eq, get_set_ne, get_set_eq, get_kill_ne, nx_push, nx_set, nx_kill]
                      rw [hst.same c (by omega) (by omega) (by omega) (by omega) (by omega) (by omega) (fun hm => by have := hJ.mnew c hm; omega)]
                      exact hJ.keep c hc
                    · simp (disch := first | omega | (simp only [nx_push, nx_set, nx_kill]; done) | (simp only [nx_push, nx_set, nx_kill]; omega)) only [get_push_ne, get_push_eq, get_set_ne, get_set_eq, get_kill_ne, nx_push, nx_set, nx_kill]; omega
                    · intro c hc
                      rcases hst.mine c hc with hh | hh
                      · exact hJ.mnew c hh
                      · omega
                    · intro c hc
                      obtain ⟨o1, o2, o3, o4, o5, o6, o7⟩ := hJ.onew c hc
                      refine ⟨o1, o2, o3, o4, o5, o6, fun hm => ?_⟩
                      rcases hst.mine c hm with hh | hh
                      · exact o7 hh
                      · have := hJ.out.lt c hc; omega
                  simp (disch := first | omega | (show allOne _ = true; simp [allOne, Value.oneCell', S]) | (simp only [qz]; first | done | omega)) only [go_sem]
                  refine ⟨_, ?_, q + 1, _, _, rfl, by omega, rfl, hlive, ?_, ?_, ?_, hw2, fle_of (by simp [flook])⟩
                  · omega
                  · try simp (disch := first | omega | (simp only [nx_push, nx_set, nx_kill]; done) | (simp only [nx_push, nx_set, nx_kill]; omega)) only [get_push_ne, get_push_eq, get_set_ne, get_set_eq, get_kill_ne, nx_push, nx_set, nx_kill]
                    rw [hst.same _ hwn (by omega) (by omega) (by omega) (by omega) (by omega) hw1]; exact hwb
                  · (try simp (disch := first | omega | (simp only [nx_push, nx_set, nx_kill]; done) | (simp only [nx_push, nx_set, nx_kill]; omega)) only [get_push_ne, get_push_eq, get_set_ne, get_set_eq, get_kill_ne, nx_push, nx_set, nx_kill]); omega
                  · intro hm
                    rcases hst.mine _ hm with hh | hh
                    · exact hw1 hh
                    · omega
              · simp (disch := first | omega | (show allOne _ = true; simp [allOne, Value.oneCell', S]) | (simp only [qz]; first | done | omega)) only [go_sem]
                have hq' : q = t.l.length := by omega
                subst hq'
                rw [List.take_of_length_le (by omega), show stepAll T ord t.l = stepAll T ord (wordsI T i) by rw [hwi]] at hJ
                obtain ⟨l, hl⟩ := stepAll_sub (T := T) (wordsI T i) ord
                refine ⟨_, ?_, p + 1, _, mv', rfl, ?_, hS.next hi, ?_, ⟨?_, hJ.out, hJ.keep, hJ.next, hJ.new, hJ.mnew, hJ.onew⟩, fle_of (by simp [flook])⟩
                · omega
                · rw [hl, List.length_append]; omega
                · rw [hFi]; congr 1; omega
                · have hlv := hJ.lv
                  have e : midT T (bfs T roots) p t.l.length 0 (stepAll T ord (wordsI T i)) = midT T (bfs T roots) (p + 1) 0 0 (stepAll T ord (wordsI T i)) := by
                    refine midT_turn _ _ _ _ _ _ (fun n j hn e => ?_)
                    have : n = p := by omega
                    subst this
                    rw [hl, List.getElem?_append_left hpo, hi] at hn
                    cases hn; rw [hwi]
                  show MvAt _ _ _ _ _ _ _ _ _ _ _ _
                  rw [← e]; exact hlv
          · simp (disch := first | omega | (show allOne _ = true; simp [allOne, Value.oneCell', S]) | (simp only [qz]; first | done | omega)) only [go_sem, hls, ldc_cells]
            exact fin (by omega)
end Go.HL
