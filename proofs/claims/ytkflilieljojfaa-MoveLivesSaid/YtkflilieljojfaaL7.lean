/-
  Joined: D9, D4, D5, D6.
-/
import Derived.Test.YtkflilieljojfaaL6
/-
  Walks: what the document keeps.
-/
namespace Go.HL
open Go.RowKit Go.Proofs
set_option maxHeartbeats 4000000
set_option maxRecDepth 100000
set_option linter.unusedSimpArgs false
set_option linter.unusedVariables false

theorem rcells_congr : ∀ (p : Nat) (T T' : Things) (lvs : List Value), T.map (fun t => (t.kind, t.l.length)) = T'.map (fun t => (t.kind, t.l.length)) → rcells p T lvs = rcells p T' lvs
  | _, [], [], _, _ => rfl
  | _, [], _ :: _, _, h => by simp at h
  | _, _ :: _, [], _, h => by simp at h
  | p, t :: T, t' :: T', [], h => rfl
  | p, t :: T, t' :: T', v :: lvs, h => by
    simp only [List.map_cons, List.cons.injEq, Prod.mk.injEq] at h
    rw [rcells, rcells, Thing.room, Thing.room, h.1.1, h.1.2, rcells_congr _ T T' lvs h.2]
theorem kinds_set (T : Things) (n : Nat) (t u : Thing) (h : T[n]? = some t) (hk : u.kind = t.kind) (hu : u.l.length = t.l.length) : (T.set n u).map (fun t => (t.kind, t.l.length)) = T.map (fun t => (t.kind, t.l.length)) := by
  rw [List.map_set]
  apply List.ext_getElem?
  intro i
  rw [List.getElem?_set]
  split
  · rename_i e; subst e
    rw [List.getElem?_map, h]; simp [hu, hk, (List.getElem?_eq_some_iff.1 h).1]
  · rfl
theorem flat_apart : ∀ (lvs : List Value) (i j : Nat) (x y : Value), (lvs.flatMap sblk).Nodup → i ≠ j → lvs[i]? = some x → lvs[j]? = some y → ∀ b ∈ sblk x, b ∉ sblk y
  | [], i, j, x, y, _, _, h, _ => by simp at h
  | v :: lvs, i, j, x, y, hn, hij, hx, hy => by
    rw [List.flatMap_cons, List.nodup_append] at hn
    obtain ⟨n1, n2, n3⟩ := hn
    intro b hb hc
    cases i with
    | zero =>
      simp at hx; subst hx
      cases j with
      | zero => exact absurd rfl hij
      | succ j => exact n3 b hb b (List.mem_flatMap.2 ⟨y, List.mem_of_getElem? (by simpa using hy), hc⟩) rfl
    | succ i =>
      cases j with
      | zero =>
        simp at hy; subst hy
        exact n3 b hc b (List.mem_flatMap.2 ⟨x, List.mem_of_getElem? (by simpa using hx), hb⟩) rfl
      | succ j => exact flat_apart lvs i j x y n2 (by omega) (by simpa using hx) (by simpa using hy) b hb hc
/-- A word of a thing is set. -/
theorem RefAt.setL {H : HHeap} {gr size : Nat} {T : Things} {tv : Value} {lvs : List Value} (h : RefAt H gr size T tv lvs) {n i x b : Nat} {t : Thing} (ht : T[n]? = some t) (hi : i < t.l.length) (hx : x < 18446744073709551616)
    (hl : lvs[n]? = some (.slice (some ⟨b, 0, some 2⟩) t.l.length t.l.length)) : RefAt (H.set b (.cells ((t.l.map U).set i (U x)) true)) gr size (T.set n ⟨t.kind, t.l.set i x⟩) tv lvs := by
  have hlen := lens_set T n t ⟨t.kind, t.l.set i x⟩ ht (by simp)
  have hks := kinds_set T n t ⟨t.kind, t.l.set i x⟩ ht rfl (by simp)
  have hu : usedOf (T.set n ⟨t.kind, t.l.set i x⟩) = usedOf T := usedOf_congr _ _ hlen
  have hbin : b ∈ lvs.flatMap sblk := List.mem_flatMap.2 ⟨_, List.mem_of_getElem? hl, by simp [sblk]⟩
  have hnd := h.nd
  unfold rblks at hnd
  rw [List.nodup_cons, List.mem_append, List.nodup_append] at hnd
  obtain ⟨nd1, nd2, nd3, nd4⟩ := hnd
  have hbg : b ≠ gr := fun e => nd1 (.inr (e ▸ hbin))
  have hbt : b ∉ sblk tv := fun hm => nd4 b hm b hbin rfl
  refine ⟨?_, ?_, by rw [h.len]; simp, ?_, h.nd, ?_⟩
  · simp (disch := first | omega | (simp only [nx_push, nx_set, nx_kill]; done) | (simp only [nx_push, nx_set, nx_kill]; omega)) only [get_push_ne, get_push_eq, get_set_ne, get_set_eq, get_kill_ne, nx_push, nx_set, nx_kill]; rw [hu]; exact h.s
  · have := h.t.frame (H' := H.set b (.cells ((t.l.map U).set i (U x)) true)) (fun c hc => by
      have : c ≠ b := fun e => hbt (e ▸ hc)
      simp (disch := first | omega | (simp only [nx_push, nx_set, nx_kill]; done) | (simp only [nx_push, nx_set, nx_kill]; omega)) only [get_push_ne, get_push_eq, get_set_ne, get_set_eq, get_kill_ne, nx_push, nx_set, nx_kill])
    rw [rcells_congr 0 _ T lvs hks, List.length_set]; exact this
  · intro j u lv hj hlv
    by_cases e : n = j
    · subst e
      rw [hl] at hlv; cases hlv
      rw [List.getElem?_set, if_pos rfl] at hj
      split at hj
      · cases hj
        refine .inr ⟨b, fun e => ?_, by simp, ?_⟩
        · have := congrArg List.length e; simp at this; rw [this] at hi; simp at hi
        · simp (disch := first | omega | (simp only [nx_push, nx_set, nx_kill]; done) | (simp only [nx_push, nx_set, nx_kill]; omega)) only [get_push_ne, get_push_eq, get_set_ne, get_set_eq, get_kill_ne, nx_push, nx_set, nx_kill]; rw [List.map_set]
      · cases hj
    · rw [List.getElem?_set_ne e] at hj
      refine (h.l j u lv hj hlv).frame (by simp (disch := first | omega | (simp only [nx_push, nx_set, nx_kill]; done) | (simp only [nx_push, nx_set, nx_kill]; omega)) only [get_push_ne, get_push_eq, get_set_ne, get_set_eq, get_kill_ne, nx_push, nx_set, nx_kill]; omega) fun c hc => ?_
      have : c ≠ b := fun e2 => flat_apart lvs j n lv _ nd3 (Ne.symm e) hlv hl c hc (by simp [sblk, e2])
      simp (disch := first | omega | (simp only [nx_push, nx_set, nx_kill]; done) | (simp only [nx_push, nx_set, nx_kill]; omega)) only [get_push_ne, get_push_eq, get_set_ne, get_set_eq, get_kill_ne, nx_push, nx_set, nx_kill]
  · intro u hu'
    rcases List.mem_or_eq_of_mem_set hu' with h1 | h1
    · exact h.ok u h1
    · subst h1
      have hk := h.ok t (List.mem_of_getElem? ht)
      refine ⟨hk.k1, hk.k9, by simpa using hk.len, fun y hy => ?_⟩
      rcases List.mem_or_eq_of_mem_set hy with h2 | h2
      · exact hk.words y h2
      · rw [h2]; exact hx

/-- How it stands while the document keeps. -/
structure RLive (H0 H : HHeap) (ga gb bw size : Nat) (T : Things) (F ord : List Nat) (p q : Nat) (tva tvb : Value) (lva lvb : List Value) (ov : Value) (out : List Nat) : Prop where
  br : RBr H ga gb bw size T F ord p q tva tvb lva lvb
  out : MadeAt H ov out
  keep : ∀ b, b < H0.next → H.get b = H0.get b
  next : H0.next ≤ H.next
  new : H0.next ≤ bw ∧ ∀ x ∈ rblks gb tvb lvb, H0.next ≤ x
  onew : ∀ b ∈ vblk ov, H0.next ≤ b ∧ b ∉ rblks gb tvb lvb ∧ b ≠ bw

theorem r03_Live (H : HHeap) (ga size : Nat) (T : Things) (tva : Value) (lva : List Value) (hA : RefAt H ga size T tva lva) (hsz : size ≤ 65536) (hpos : 1 ≤ size) (hu : usedOf T ≤ size) (s : Value) (roots : List Nat) (hs : RowAt H s (roots.map U)) (hrw : ∀ w ∈ roots, w < 18446744073709551616) (hrl : roots.length ≤ 1000000)
    (R : Value → HHeap → Prop)
    (hR : ∀ H' gb tvb lvb v, RefAt H' gb size (outT T (bfs T roots)) tvb lvb → MadeAt H' v (roots.map (tr T (bfs T roots))) → (∀ b, b < H.next → H'.get b = H.get b) → H.next ≤ H'.next → (∀ x ∈ rblks gb tvb lvb, H.next ≤ x) → R (.tuple #[ptr gb 0, v]) H') : HCalls Try.prog 13 [ptr ga 0, s] H R := by
  refine HCalls.ok fun hok => ?_
  have hal := hA.lt hok
  have hTl := length_le_used T
  obtain ⟨sa, sc, hs1, hsv⟩ := id hs
  have hslen : (roots.map U).length = roots.length := by simp
  rw [hslen] at hs1
  subst hs1
  have hss := hA.s
  obtain ⟨taa, htva⟩ := hA.t.len
  subst htva
  have hu0 : (T.length : Int) * 8 ≤ 1099511627776 := by omega
  refine HCalls.of_hw Try.func13 rfl _ Try.ntmps13 _ (by rw [Try.results13]) ?_
  rw [hframe0_eq _ _ (by simp)]
  simp only [List.zipIdx_cons, List.zipIdx_nil, List.map_cons, List.map_nil, Nat.reduceAdd]
  have hgal := hal ga (by simp [rblks])
  have hcl := bfs_closed T roots
  have hbF : ∀ w ∈ roots, ∀ i, findI T w = some i → i ∈ bfs T roots := fun w hw i hi => bfs_root hw hi
  simp (disch := first | omega | (show allOne _ = true; simp [allOne, Value.oneCell']) | (simp only [List.length_cons, List.length_nil, List.length_set, List.length_map, List.length_replicate, List.length_append, List.length_take, List.length_drop, Int.toNat_natCast, Int.toNat_of_nonneg, nx_push, nx_set, nx_kill]; done) | (simp only [List.length_cons, List.length_nil, List.length_set, List.length_map, List.length_replicate, List.length_append, List.length_take, List.length_drop, Int.toNat_natCast, Int.toNat_of_nonneg, nx_push, nx_set, nx_kill]; omega)) only [go_sem, reduceCtorEq, Nat.reduceAdd, Nat.reduceSub, Nat.reduceMul, Nat.reduceLT, Nat.reduceLeDiff, Nat.reduceEqDiff, Nat.reduceBEq, Nat.reduceBNe, Int.reduceBEq, Int.reduceEq, Int.reduceLT, Int.reduceLE, Int.reduceAdd, Int.reduceSub, ↓reduceIte, Int.reduceToNat, Nat.reduceShiftRight, Nat.reduceAnd, hss, ldc_cells, hbox_agg, mks_ok]
  have hw0 : List.replicate T.length (Value.int .u64 0) = wentC T (bfs T roots) [] := by
    unfold wentC
    apply List.ext_getElem?
    intro i
    by_cases h : i < T.length <;> simp [h]
  rw [hw0]
  refine Hwp.loop (fun n fr H' => ∃ i tvb lvb ov, n = roots.length - i ∧ i ≤ roots.length ∧ RLive H H' ga H.next (H.next + 1) size T (bfs T roots) (stepAll T [] (roots.take i)) 0 0 (.slice taa T.length T.length) tvb lva lvb ov ((roots.take i).map (tr T (bfs T roots))) ∧
     FLe (hfr 92 [(9, I i), (8, ov), (7, .slice (some ⟨H.next + 1, 0, none⟩) T.length T.length), (6, ptr H.next 0), (1, .slice sa roots.length sc), (0, ptr ga 0)]) fr) roots.length ?_ ?_
  · refine ⟨0, .slice none 0 0, [], .slice none 0 0, by omega, by omega, ⟨⟨?_, ?_, ?_, ?_, ?_⟩, .inl ⟨by simp, rfl⟩, ?_, ?_, ?_, ?_⟩, fle_of (by simp [flook])⟩
    · exact hA.frame (by simp; omega) fun b hb => by have := hal b hb; simp (disch := first | omega | (simp only [nx_push, nx_set, nx_kill]; done) | (simp only [nx_push, nx_set, nx_kill]; omega)) only [get_push_ne, get_push_eq, get_set_ne, get_set_eq, get_kill_ne, nx_push, nx_set, nx_kill]
    · exact ⟨by simp (disch := first | omega | (simp only [nx_push, nx_set, nx_kill]; done) | (simp only [nx_push, nx_set, nx_kill]; omega)) only [get_push_ne, get_push_eq, get_set_ne, get_set_eq, get_kill_ne, nx_push, nx_set, nx_kill]; rfl, GrAt.nil _ _, rfl, by simp [midT, stepAll], by simp [rblks, sblk], by simp [midT, TOk, stepAll]⟩
    · simp (disch := first | omega | (simp only [nx_push, nx_set, nx_kill]; done) | (simp only [nx_push, nx_set, nx_kill]; omega)) only [get_push_ne, get_push_eq, get_set_ne, get_set_eq, get_kill_ne, nx_push, nx_set, nx_kill]; rfl
    · intro x hx; have := hal x hx; exact ⟨by simp [rblks, sblk]; omega, by omega⟩
    · simp [rblks, sblk]
    · intro b hb; simp (disch := first | omega | (simp only [nx_push, nx_set, nx_kill]; done) | (simp only [nx_push, nx_set, nx_kill]; omega)) only [get_push_ne, get_push_eq, get_set_ne, get_set_eq, get_kill_ne, nx_push, nx_set, nx_kill]
    · simp (disch := first | omega | (simp only [nx_push, nx_set, nx_kill]; done) | (simp only [nx_push, nx_set, nx_kill]; omega)) only [get_push_ne, get_push_eq, get_set_ne, get_set_eq, get_kill_ne, nx_push, nx_set, nx_kill]; omega
    · exact ⟨by omega, by simp [rblks, sblk]⟩
    · simp [vblk]
  · rintro n fr H' ⟨i, tvb, lvb, ov, rfl, hi, hI, hle⟩
    refine Hwp.weaken hle (HW.sound _ _ _ _ ?_)
    by_cases hc : i < roots.length
    · obtain ⟨w, hw⟩ : ∃ w, roots[i]? = some w := ⟨_, List.getElem?_eq_getElem hc⟩
      have hwm : w ∈ roots := List.mem_of_getElem? hw
      obtain ⟨e1, e2⟩ := bfs_prefix T roots hw
      obtain ⟨b0, o0, k0, c0, cs0, rw0, z1, z2, z3⟩ := hs.get (i := i) (v := U w) (by rw [List.getElem?_map, hw]; rfl)
      rw [hslen] at z1
      cases z1
      have hb0l := hok _ _ z2
      have z2' : H'.get b0 = some (.cells cs0 rw0) := by rw [hI.keep b0 hb0l]; exact z2
      simp (disch := first | omega | (show allOne _ = true; simp [allOne, Value.oneCell']) | (simp only [List.length_cons, List.length_nil, List.length_set, List.length_map, List.length_replicate, List.length_append, List.length_take, List.length_drop, Int.toNat_natCast, Int.toNat_of_nonneg, nx_push, nx_set, nx_kill]; done) | (simp only [List.length_cons, List.length_nil, List.length_set, List.length_map, List.length_replicate, List.length_append, List.length_take, List.length_drop, Int.toNat_natCast, Int.toNat_of_nonneg, nx_push, nx_set, nx_kill]; omega)) only [go_sem, reduceCtorEq, Nat.reduceAdd, Nat.reduceSub, Nat.reduceMul, Nat.reduceLT, Nat.reduceLeDiff, Nat.reduceEqDiff, Nat.reduceBEq, Nat.reduceBNe, Int.reduceBEq, Int.reduceEq, Int.reduceLT, Int.reduceLE, Int.reduceAdd, Int.reduceSub, ↓reduceIte, Int.reduceToNat, Nat.reduceShiftRight, Nat.reduceAnd, ixa_ok, ldc_cells, z2', z3]
      refine HCalls.gotOk (RBr.bring hI.br hsz hu w (hrw w hwm) e2 (stepAll_nodup _ _ List.nodup_nil) (stepAll_lt _ _ (by simp)) (by omega) _ ?_)
      intro H2 tvb2 lvb2 hbr2 hn2 hf2 hbk2 hok2 _
      rw [← e1] at hbr2
      have hov : MadeAt H2 ov ((roots.take i).map (tr T (bfs T roots))) := hI.out.frame hn2 (fun c hc => by
        obtain ⟨o1, o2, o3⟩ := hI.onew c hc
        exact hf2 c (hI.out.lt c hc) o2 o3)
      obtain ⟨ov3, H3, q1, q2, q3, q4, q5⟩ := append_one H2 ov _ (tr T (bfs T roots) w) hov (by simp; omega)
      simp (disch := first | omega | (show allOne _ = true; simp [allOne, Value.oneCell']) | (simp only [List.length_cons, List.length_nil, List.length_set, List.length_map, List.length_replicate, List.length_append, List.length_take, List.length_drop, Int.toNat_natCast, Int.toNat_of_nonneg, nx_push, nx_set, nx_kill]; done) | (simp only [List.length_cons, List.length_nil, List.length_set, List.length_map, List.length_replicate, List.length_append, List.length_take, List.length_drop, Int.toNat_natCast, Int.toNat_of_nonneg, nx_push, nx_set, nx_kill]; omega)) only [go_sem, reduceCtorEq, Nat.reduceAdd, Nat.reduceSub, Nat.reduceMul, Nat.reduceLT, Nat.reduceLeDiff, Nat.reduceEqDiff, Nat.reduceBEq, Nat.reduceBNe, Int.reduceBEq, Int.reduceEq, Int.reduceLT, Int.reduceLE, Int.reduceAdd, Int.reduceSub, ↓reduceIte, Int.reduceToNat, Nat.reduceShiftRight, Nat.reduceAnd, hsource_slice, hsrc_cells, List.drop_zero, List.take_succ_cons, List.take_zero, q1, ldc_cells]
      have hnx := hI.next
      obtain ⟨c1, c2⟩ := hI.new
      have hbl := hbr2.b.lt hok2
      have hwl := hok2 _ _ hbr2.w
      have hovn : ∀ c ∈ vblk ov, c ∉ rblks H.next tvb2 lvb2 := fun c hc hm => by
        obtain ⟨o1, o2, o3⟩ := hI.onew c hc
        rcases hbk2 c hm with h | h
        · exact o2 h
        · have := hI.out.lt c hc; omega
      refine ⟨_, ?_, i + 1, tvb2, lvb2, ov3, rfl, by omega, ⟨⟨?_, ?_, ?_, hbr2.ab, hbr2.bb⟩, ?_, ?_, by omega, ⟨c1, ?_⟩, ?_⟩, fle_of (by simp [flook])⟩
      · omega
      · exact hbr2.a.frame q3 fun b hb => q4 b (by have := hal b hb; omega) (fun hm => by have := (hI.onew b hm).1; have := hal b hb; omega)
      · exact hbr2.b.frame q3 fun b hb => q4 b (hbl b hb) (fun hm => hovn b hm hb)
      · rw [q4 _ hwl (fun hm => (hI.onew _ hm).2.2 rfl)]; exact hbr2.w
      · rw [List.take_add_one, hw]; simpa using q2
      · intro c hc
        rw [q4 c (by omega) (fun hm => by have := (hI.onew c hm).1; omega), hf2 c (by omega) (fun hm => by have := c2 c hm; omega) (by omega)]
        exact hI.keep c hc
      · intro x hx
        rcases hbk2 x hx with h | h
        · exact c2 x h
        · omega
      · intro c hc
        have := q5 c hc
        exact ⟨by omega, fun hm => by have := hbl c hm; omega, by omega⟩
    · simp (disch := first | omega | (show allOne _ = true; simp [allOne, Value.oneCell']) | (simp only [List.length_cons, List.length_nil, List.length_set, List.length_map, List.length_replicate, List.length_append, List.length_take, List.length_drop, Int.toNat_natCast, Int.toNat_of_nonneg, nx_push, nx_set, nx_kill]; done) | (simp only [List.length_cons, List.length_nil, List.length_set, List.length_map, List.length_replicate, List.length_append, List.length_take, List.length_drop, Int.toNat_natCast, Int.toNat_of_nonneg, nx_push, nx_set, nx_kill]; omega)) only [go_sem, reduceCtorEq, Nat.reduceAdd, Nat.reduceSub, Nat.reduceMul, Nat.reduceLT, Nat.reduceLeDiff, Nat.reduceEqDiff, Nat.reduceBEq, Nat.reduceBNe, Int.reduceBEq, Int.reduceEq, Int.reduceLT, Int.reduceLE, Int.reduceAdd, Int.reduceSub, ↓reduceIte, Int.reduceToNat, Nat.reduceShiftRight, Nat.reduceAnd]
      have hi' : i = roots.length := by omega
      subst hi'
      rw [List.take_of_length_le (by omega)] at hI
      clear hle hc hi
      refine Hwp.loop (fun n fr H' => ∃ p ord tvb lvb, n = T.length + 1 - p ∧ p ≤ ord.length ∧ ScanInv T roots p ord ∧ bfs T roots = scan T (T.length + 1 - p) p ord ∧ RLive H H' ga H.next (H.next + 1) size T (bfs T roots) ord p 0 (.slice taa T.length T.length) tvb lva lvb ov (roots.map (tr T (bfs T roots))) ∧
         FLe (hfr 92 [(10, I p), (8, ov), (7, .slice (some ⟨H.next + 1, 0, none⟩) T.length T.length), (6, ptr H.next 0), (0, ptr ga 0)]) fr) (T.length + 1) ?_ ?_
      · exact ⟨0, _, tvb, lvb, by omega, by omega, ScanInv.start T roots, rfl, hI, fle_of (by simp [flook])⟩
      · clear hI tvb lvb
        rintro n fr H' ⟨p, ord, tvb, lvb, rfl, hp, hS, hF, hI, hle⟩
        refine Hwp.weaken hle (HW.sound _ _ _ _ ?_)
        have hol := hS.le
        have hbs := hI.br.b.s
        obtain ⟨ba, hbl⟩ := hI.br.b.t.len
        rw [midT_length] at hbl
        subst hbl
        by_cases hpo : p < ord.length
        · obtain ⟨i, hi⟩ : ∃ i, ord[p]? = some i := ⟨_, List.getElem?_eq_getElem hpo⟩
          have hil : i < T.length := reached_lt (hS.sound i (List.mem_of_getElem? hi))
          obtain ⟨t, hti⟩ : ∃ t, T[i]? = some t := ⟨_, List.getElem?_eq_getElem hil⟩
          have htok := hA.ok t (List.mem_of_getElem? hti)
          have hlen := htok.len
          have hwi : wordsI T i = t.l := by unfold wordsI; rw [hti]
          have hFi : bfs T roots = scan T (T.length - p) (p + 1) (stepAll T ord (wordsI T i)) := by
            rw [hF, show T.length + 1 - p = (T.length - p) + 1 by omega, scan_step hi]
          obtain ⟨Fl2, hFl2⟩ := scan_sub (T := T) (T.length - p) (p + 1) (stepAll T ord (wordsI T i))
          rw [← hFi] at hFl2
          simp (disch := first | omega | (show allOne _ = true; simp [allOne, Value.oneCell']) | (simp only [List.length_cons, List.length_nil, List.length_set, List.length_map, List.length_replicate, List.length_append, List.length_take, List.length_drop, Int.toNat_natCast, Int.toNat_of_nonneg, nx_push, nx_set, nx_kill]; done) | (simp only [List.length_cons, List.length_nil, List.length_set, List.length_map, List.length_replicate, List.length_append, List.length_take, List.length_drop, Int.toNat_natCast, Int.toNat_of_nonneg, nx_push, nx_set, nx_kill]; omega)) only [go_sem, reduceCtorEq, Nat.reduceAdd, Nat.reduceSub, Nat.reduceMul, Nat.reduceLT, Nat.reduceLeDiff, Nat.reduceEqDiff, Nat.reduceBEq, Nat.reduceBNe, Int.reduceBEq, Int.reduceEq, Int.reduceLT, Int.reduceLE, Int.reduceAdd, Int.reduceSub, ↓reduceIte, Int.reduceToNat, Nat.reduceShiftRight, Nat.reduceAnd, hbs, ldc_cells]
          refine Hwp.loop (fun n fr H'' => ∃ q ord' tvb lvb, n = t.l.length - q ∧ q ≤ t.l.length ∧ ord' = stepAll T ord (t.l.take q) ∧ RLive H H'' ga H.next (H.next + 1) size T (bfs T roots) ord' p q (.slice taa T.length T.length) tvb lva lvb ov (roots.map (tr T (bfs T roots))) ∧
              FLe (hfr 92 [(11, I q), (10, I p), (8, ov), (7, .slice (some ⟨H.next + 1, 0, none⟩) T.length T.length), (6, ptr H.next 0), (0, ptr ga 0)]) fr) t.l.length ?_ ?_
          · exact ⟨0, ord, _, lvb, by omega, by omega, by simp [stepAll], hI, fle_of (by simp [flook])⟩
          · clear hI hbs
            rintro n fr H2 ⟨q, ord', tvb, lvb, rfl, hq, rfl, hJ, hle2⟩
            refine Hwp.ok fun hok2 => Hwp.weaken hle2 (HW.sound _ _ _ _ ?_)
            have hbs := hJ.br.b.s
            obtain ⟨sl, hsl⟩ := stepAll_sub (T := T) (t.l.take q) ord
            have hgi : (stepAll T ord (t.l.take q))[p]? = some i := by rw [hsl, List.getElem?_append_left hpo]; exact hi
            have hmt := midT_get T (bfs T roots) p q _ 0 p i hgi
            rw [Nat.zero_add] at hmt
            have hml : (midThing T (bfs T roots) p q p i).l.length = t.l.length := by unfold midThing; rw [hti]; simp; omega
            obtain ⟨bb, lv, f1, f2, f3, f4, f5, f6, f7⟩ := hJ.br.b.thing hmt
            have hrl : (rcells 0 (midT T (bfs T roots) p q 0 (stepAll T ord (t.l.take q))) lvb).length = (midT T (bfs T roots) p q 0 (stepAll T ord (t.l.take q))).length * 3 := rcells_length _ _ _ hJ.br.b.len
            rw [midT_length] at f1 hrl
            subst f1
            have hord1 : (stepAll T ord (t.l.take q)).length ≤ T.length := nodup_le _ (stepAll_nodup _ _ hS.nodup) (stepAll_lt _ _ (fun x hx => reached_lt (hS.sound x hx)))
            have hpl : p < (stepAll T ord (t.l.take q)).length := (List.getElem?_eq_some_iff.1 hgi).1
            obtain ⟨la, hla⟩ := f4.form
            rw [hml] at hla
            subst hla
            by_cases hqc : q < t.l.length
            · obtain ⟨w, hw⟩ : ∃ w, t.l[q]? = some w := ⟨_, List.getElem?_eq_getElem hqc⟩
              have hwlt := htok.words w (List.mem_of_getElem? hw)
              have hmw : (midThing T (bfs T roots) p q p i).l[q]? = some w := by
                unfold midThing; rw [hti]
                simp only [Nat.lt_irrefl, if_false, if_true]
                rw [List.getElem?_append_right (by simp; omega), List.length_map, List.length_take, Nat.min_eq_left hq, Nat.sub_self, List.getElem?_drop, Nat.add_zero]; exact hw
              obtain ⟨lb, hlb1, hlb2⟩ : ∃ lb, la = some ⟨lb, 0, some 2⟩ ∧ H2.get lb = some (.cells ((midThing T (bfs T roots) p q p i).l.map U) true) := by
                rcases f4 with ⟨h1, _⟩ | ⟨lb, h1, h2, h3⟩
                · rw [h1] at hmw; simp at hmw
                · rw [hml] at h2; cases h2; exact ⟨lb, rfl, h3⟩
              subst hlb1
              have hlw : ((midThing T (bfs T roots) p q p i).l.map U)[q]? = some (U w) := by rw [List.getElem?_map, hmw]; rfl
              have est : stepAll T ord (t.l.take (q + 1)) = stepO T (stepAll T ord (t.l.take q)) w := by
                rw [List.take_add_one, hw, stepAll_append]; rfl
              have hpre : ∃ l, bfs T roots = stepO T (stepAll T ord (t.l.take q)) w ++ l := by
                obtain ⟨l', hl'⟩ := stepAll_sub (T := T) (t.l.drop (q + 1)) (stepAll T ord (t.l.take (q + 1)))
                rw [← stepAll_append, List.take_append_drop, est] at hl'
                exact ⟨l' ++ Fl2, by rw [hFl2, hwi, hl', List.append_assoc]⟩
              simp (disch := first | omega | (show allOne _ = true; simp [allOne, Value.oneCell']) | (simp only [List.length_cons, List.length_nil, List.length_set, List.length_map, List.length_replicate, List.length_append, List.length_take, List.length_drop, Int.toNat_natCast, Int.toNat_of_nonneg, nx_push, nx_set, nx_kill]; done) | (simp only [List.length_cons, List.length_nil, List.length_set, List.length_map, List.length_replicate, List.length_append, List.length_take, List.length_drop, Int.toNat_natCast, Int.toNat_of_nonneg, nx_push, nx_set, nx_kill]; omega)) only [go_sem, reduceCtorEq, Nat.reduceAdd, Nat.reduceSub, Nat.reduceMul, Nat.reduceLT, Nat.reduceLeDiff, Nat.reduceEqDiff, Nat.reduceBEq, Nat.reduceBNe, Int.reduceBEq, Int.reduceEq, Int.reduceLT, Int.reduceLE, Int.reduceAdd, Int.reduceSub, ↓reduceIte, Int.reduceToNat, Nat.reduceShiftRight, Nat.reduceAnd, hbs, ldc_cells, ixa_ok, f2, f7, hlb2, hlw]
              refine HCalls.gotOk (RBr.bring hJ.br hsz hu w hwlt hpre (stepAll_nodup _ _ hS.nodup) (stepAll_lt _ _ (fun x hx => reached_lt (hS.sound x hx))) (.inl hpl) _ ?_)
              intro H3 tvb3 lvb3 hbr3 hn3 hf3 hbk3 hok3 _
              simp (disch := first | omega | (show allOne _ = true; simp [allOne, Value.oneCell']) | (simp only [List.length_cons, List.length_nil, List.length_set, List.length_map, List.length_replicate, List.length_append, List.length_take, List.length_drop, Int.toNat_natCast, Int.toNat_of_nonneg, nx_push, nx_set, nx_kill]; done) | (simp only [List.length_cons, List.length_nil, List.length_set, List.length_map, List.length_replicate, List.length_append, List.length_take, List.length_drop, Int.toNat_natCast, Int.toNat_of_nonneg, nx_push, nx_set, nx_kill]; omega)) only [go_sem, reduceCtorEq, Nat.reduceAdd, Nat.reduceSub, Nat.reduceMul, Nat.reduceLT, Nat.reduceLeDiff, Nat.reduceEqDiff, Nat.reduceBEq, Nat.reduceBNe, Int.reduceBEq, Int.reduceEq, Int.reduceLT, Int.reduceLE, Int.reduceAdd, Int.reduceSub, ↓reduceIte, Int.reduceToNat, Nat.reduceShiftRight, Nat.reduceAnd]
              rw [← est] at hbr3
              obtain ⟨s3, hs3⟩ := stepAll_sub (T := T) (t.l.take (q + 1)) ord
              have hgi3 : (stepAll T ord (t.l.take (q + 1)))[p]? = some i := by rw [hs3, List.getElem?_append_left hpo]; exact hi
              have hmt3 := midT_get T (bfs T roots) p q _ 0 p i hgi3
              rw [Nat.zero_add] at hmt3
              have hbs3 := hbr3.b.s
              obtain ⟨bb3, lv3, g1, g2, g3, g4, g5, g6, g7⟩ := hbr3.b.thing hmt3
              have hrl3 : (rcells 0 (midT T (bfs T roots) p q 0 (stepAll T ord (t.l.take (q + 1)))) lvb3).length = (midT T (bfs T roots) p q 0 (stepAll T ord (t.l.take (q + 1)))).length * 3 := rcells_length _ _ _ hbr3.b.len
              rw [midT_length] at g1 hrl3
              have hpl3 : p < (stepAll T ord (t.l.take (q + 1))).length := (List.getElem?_eq_some_iff.1 hgi3).1
              obtain ⟨lb3, hlv3, hlb3⟩ : ∃ lb, lv3 = .slice (some ⟨lb, 0, some 2⟩) t.l.length t.l.length ∧ H3.get lb = some (.cells ((midThing T (bfs T roots) p q p i).l.map U) true) := by
                rcases g4 with ⟨h1, _⟩ | ⟨lb, h1, h2, h3⟩
                · rw [h1] at hmw; simp at hmw
                · rw [hml] at h2; exact ⟨lb, h2, h3⟩
              subst g1 hlv3
              have htrl : tr T (bfs T roots) w < 18446744073709551616 := by
                refine tr_lt (bfs_nodup T roots) hcl.lt (by omega) hwlt (fun j hj => ?_)
                rw [bfs_mem]
                exact .next i w j (hS.sound i (List.mem_of_getElem? hi)) (by rw [hwi]; exact List.mem_of_getElem? hw) hj
              have hset := hbr3.b.setL hmt3 (i := q) (by omega) htrl (by rw [hml]; exact g3)
              rw [midT_set T (bfs T roots) p q hti hw _ 0 p hgi3 (by omega)] at hset
              have hml3 : ((midThing T (bfs T roots) p q p i).l.map U).length = t.l.length := by simp [hml]
              simp (disch := first | omega | (show allOne _ = true; simp [allOne, Value.oneCell']) | (simp only [List.length_cons, List.length_nil, List.length_set, List.length_map, List.length_replicate, List.length_append, List.length_take, List.length_drop, Int.toNat_natCast, Int.toNat_of_nonneg, nx_push, nx_set, nx_kill]; done) | (simp only [List.length_cons, List.length_nil, List.length_set, List.length_map, List.length_replicate, List.length_append, List.length_take, List.length_drop, Int.toNat_natCast, Int.toNat_of_nonneg, nx_push, nx_set, nx_kill]; omega)) only [go_sem, reduceCtorEq, Nat.reduceAdd, Nat.reduceSub, Nat.reduceMul, Nat.reduceLT, Nat.reduceLeDiff, Nat.reduceEqDiff, Nat.reduceBEq, Nat.reduceBNe, Int.reduceBEq, Int.reduceEq, Int.reduceLT, Int.reduceLE, Int.reduceAdd, Int.reduceSub, ↓reduceIte, Int.reduceToNat, Nat.reduceShiftRight, Nat.reduceAnd, hbs3, ldc_cells, ixa_ok, g2, g7, hlb3, stc_cells]
              have hlbin : lb3 ∈ rblks H.next (.slice (some ⟨bb3, 0, some 6⟩) (stepAll T ord (t.l.take (q + 1))).length (stepAll T ord (t.l.take (q + 1))).length) lvb3 := by
                simp only [rblks, List.mem_cons, List.mem_append, List.mem_flatMap]
                exact .inr (.inr ⟨_, List.mem_of_getElem? g3, by simp [sblk]⟩)
              obtain ⟨c1, c2⟩ := hJ.new
              have hnx := hJ.next
              have hc3 : ∀ x ∈ rblks H.next (.slice (some ⟨bb3, 0, some 6⟩) (stepAll T ord (t.l.take (q + 1))).length (stepAll T ord (t.l.take (q + 1))).length) lvb3, H.next ≤ x := fun x hx => by
                rcases hbk3 x hx with h | h
                · exact c2 x h
                · omega
              have hlbn := hc3 lb3 hlbin
              have hlbw : lb3 ≠ H.next + 1 := fun e => hbr3.bb (e ▸ hlbin)
              have hovn : ∀ c ∈ vblk ov, c ∉ rblks H.next (.slice (some ⟨bb3, 0, some 6⟩) (stepAll T ord (t.l.take (q + 1))).length (stepAll T ord (t.l.take (q + 1))).length) lvb3 := fun c hc hm => by
                obtain ⟨o1, o2, o3⟩ := hJ.onew c hc
                rcases hbk3 c hm with h | h
                · exact o2 h
                · have := hJ.out.lt c hc; omega
              refine ⟨_, ?_, q + 1, _, _, lvb3, rfl, by omega, rfl, ⟨⟨?_, hset, ?_, hbr3.ab, hbr3.bb⟩, ?_, ?_, by simp (disch := first | omega | (simp only [nx_push, nx_set, nx_kill]; done) | (simp only [nx_push, nx_set, nx_kill]; omega)) only [get_push_ne, get_push_eq, get_set_ne, get_set_eq, get_kill_ne, nx_push, nx_set, nx_kill]; omega, ⟨c1, hc3⟩, ?_⟩, fle_of (by simp [flook])⟩
              · omega
              · exact hbr3.a.frame (by simp (disch := first | omega | (simp only [nx_push, nx_set, nx_kill]; done) | (simp only [nx_push, nx_set, nx_kill]; omega)) only [get_push_ne, get_push_eq, get_set_ne, get_set_eq, get_kill_ne, nx_push, nx_set, nx_kill]; omega) fun x hx => by have := hal x hx; simp (disch := first | omega | (simp only [nx_push, nx_set, nx_kill]; done) | (simp only [nx_push, nx_set, nx_kill]; omega)) only [get_push_ne, get_push_eq, get_set_ne, get_set_eq, get_kill_ne, nx_push, nx_set, nx_kill]
              · simp (disch := first | omega | (simp only [nx_push, nx_set, nx_kill]; done) | (simp only [nx_push, nx_set, nx_kill]; omega)) only [get_push_ne, get_push_eq, get_set_ne, get_set_eq, get_kill_ne, nx_push, nx_set, nx_kill]; exact hbr3.w
              · refine (hJ.out.frame hn3 (fun c hc => ?_)).frame (by simp (disch := first | omega | (simp only [nx_push, nx_set, nx_kill]; done) | (simp only [nx_push, nx_set, nx_kill]; omega)) only [get_push_ne, get_push_eq, get_set_ne, get_set_eq, get_kill_ne, nx_push, nx_set, nx_kill]; omega) (fun c hc => ?_)
                · obtain ⟨o1, o2, o3⟩ := hJ.onew c hc
                  exact hf3 c (hJ.out.lt c hc) o2 o3
                · have : c ≠ lb3 := fun e => hovn c hc (e ▸ hlbin)
                  simp (disch := first | omega | (simp only [nx_push, nx_set, nx_kill]; done) | (simp only [nx_push, nx_set, nx_kill]; omega)) only [get_push_ne, get_push_eq, get_set_ne, get_set_eq, get_kill_ne, nx_push, nx_set, nx_kill]
              · intro c hc
                simp (disch := first | omega | (simp only [nx_push, nx_set, nx_kill]; done) | (simp only [nx_push, nx_set, nx_kill]; omega)) only [get_push_ne, get_push_eq, get_set_ne, get_set_eq, get_kill_ne, nx_push, nx_set, nx_kill]
                rw [hf3 c (by omega) (fun hm => by have := c2 c hm; omega) (by omega)]
                exact hJ.keep c hc
              · intro c hc
                obtain ⟨o1, o2, o3⟩ := hJ.onew c hc
                exact ⟨o1, hovn c hc, o3⟩
            · have hqq : q = t.l.length := by omega
              subst hqq
              simp (disch := first | omega | (show allOne _ = true; simp [allOne, Value.oneCell']) | (simp only [List.length_cons, List.length_nil, List.length_set, List.length_map, List.length_replicate, List.length_append, List.length_take, List.length_drop, Int.toNat_natCast, Int.toNat_of_nonneg, nx_push, nx_set, nx_kill]; done) | (simp only [List.length_cons, List.length_nil, List.length_set, List.length_map, List.length_replicate, List.length_append, List.length_take, List.length_drop, Int.toNat_natCast, Int.toNat_of_nonneg, nx_push, nx_set, nx_kill]; omega)) only [go_sem, reduceCtorEq, Nat.reduceAdd, Nat.reduceSub, Nat.reduceMul, Nat.reduceLT, Nat.reduceLeDiff, Nat.reduceEqDiff, Nat.reduceBEq, Nat.reduceBNe, Int.reduceBEq, Int.reduceEq, Int.reduceLT, Int.reduceLE, Int.reduceAdd, Int.reduceSub, ↓reduceIte, Int.reduceToNat, Nat.reduceShiftRight, Nat.reduceAnd, hbs, ldc_cells, ixa_ok, f2, f7]
              rw [List.take_of_length_le (by omega), show stepAll T ord t.l = stepAll T ord (wordsI T i) by rw [hwi]] at hJ
              obtain ⟨l, hl⟩ := stepAll_sub (T := T) (wordsI T i) ord
              have e : midT T (bfs T roots) p t.l.length 0 (stepAll T ord (wordsI T i)) = midT T (bfs T roots) (p + 1) 0 0 (stepAll T ord (wordsI T i)) := by
                refine midT_turn _ _ _ _ _ _ (fun n j hn e => ?_)
                have : n = p := by omega
                subst this
                rw [hl, List.getElem?_append_left hpo, hi] at hn
                cases hn; rw [hwi]
              refine ⟨_, ?_, p + 1, _, _, lvb, rfl, ?_, hS.next hi, ?_, ⟨⟨hJ.br.a, ?_, hJ.br.w, hJ.br.ab, hJ.br.bb⟩, hJ.out, hJ.keep, hJ.next, hJ.new, hJ.onew⟩, fle_of (by simp [flook])⟩
              · omega
              · rw [hl, List.length_append]; omega
              · rw [hFi]; congr 1; omega
              · rw [← e]; exact hJ.br.b
        · simp (disch := first | omega | (show allOne _ = true; simp [allOne, Value.oneCell']) | (simp only [List.length_cons, List.length_nil, List.length_set, List.length_map, List.length_replicate, List.length_append, List.length_take, List.length_drop, Int.toNat_natCast, Int.toNat_of_nonneg, nx_push, nx_set, nx_kill]; done) | (simp only [List.length_cons, List.length_nil, List.length_set, List.length_map, List.length_replicate, List.length_append, List.length_take, List.length_drop, Int.toNat_natCast, Int.toNat_of_nonneg, nx_push, nx_set, nx_kill]; omega)) only [go_sem, reduceCtorEq, Nat.reduceAdd, Nat.reduceSub, Nat.reduceMul, Nat.reduceLT, Nat.reduceLeDiff, Nat.reduceEqDiff, Nat.reduceBEq, Nat.reduceBNe, Int.reduceBEq, Int.reduceEq, Int.reduceLT, Int.reduceLE, Int.reduceAdd, Int.reduceSub, ↓reduceIte, Int.reduceToNat, Nat.reduceShiftRight, Nat.reduceAnd, hbs, ldc_cells]
          have hpe : p = ord.length := by omega
          have hFo : bfs T roots = ord := by rw [hF]; exact scan_stop (by omega)
          have hto := hI.br.b
          rw [midT_done T (bfs T roots) p 0 ord 0 (by omega)] at hto
          rw [← hFo] at hto
          exact hR H' H.next _ lvb ov hto hI.out hI.keep hI.next (by
            have := hI.new.2
            rw [← hFo] at this
            exact this)
end Go.HL
/-
  Walks: laws, on: what is done twice.
-/
namespace Go.HL
open Go.RowKit Go.Proofs
set_option maxHeartbeats 4000000
set_option maxRecDepth 100000
set_option linter.unusedSimpArgs false
set_option linter.unusedVariables false

/-- What was brought, and how it is gone on with. -/
structure Moved (T : Things) (roots : List Nat) (T' : Things) (l' : List Nat) : Prop where
  used : usedOf T' = sumR T (bfs T roots)
  le : usedOf T' ≤ usedOf T
  len : l'.length = roots.length
  lt : ∀ w ∈ l', w < 18446744073709551616
  range : bfs T' l' = List.range T'.length
  out : outT T' (bfs T' l') = T'
  same : l'.map (tr T' (bfs T' l')) = l'
  clean : ∀ w ∈ l', Clean T' w
  cleanT : ∀ t ∈ T', ∀ w ∈ t.l, Clean T' w

theorem moved {T : Things} {roots : List Nat} (hu : usedOf T ≤ 65536) (hr : ∀ w ∈ roots, w < 18446744073709551616) : Moved T roots (outT T (bfs T roots)) (roots.map (tr T (bfs T roots))) := by
  have hcl := bfs_closed T roots
  have hrF : ∀ w ∈ roots, ∀ i, findI T w = some i → i ∈ bfs T roots := fun w hw i hi => bfs_root hw hi
  have hle : sumR T (bfs T roots) ≤ usedOf T := sumR_le T _ (bfs_nodup _ _) hcl.lt
  have hbf : bfs (outT T (bfs T roots)) (roots.map (tr T (bfs T roots))) = List.range (outT T (bfs T roots)).length := by
    rw [tr_bfs hcl hu hrF, idxOf_range (bfs_nodup _ _), outT_length]
  have hc : ∀ w ∈ roots.map (tr T (bfs T roots)), Clean (outT T (bfs T roots)) w := by
    intro w hw
    obtain ⟨x, hx, rfl⟩ := List.mem_map.1 hw
    exact tr_clean hcl hu (hrF x hx)
  refine ⟨outT_used _ _, by rw [outT_used]; exact hle, by simp, ?_, hbf, ?_, ?_, hc, outT_clean hcl hu⟩
  · intro w hw
    obtain ⟨x, hx, rfl⟩ := List.mem_map.1 hw
    exact tr_lt (bfs_nodup _ _) hcl.lt hu (hr x hx) (hrF x hx)
  · rw [hbf]; exact live_id (outT_clean hcl hu)
  · rw [hbf]
    conv => rhs; rw [← List.map_id (roots.map (tr T (bfs T roots)))]
    apply List.map_congr_left
    intro w hw
    have := tr_stay (T := outT T (bfs T roots)) (n := (outT T (bfs T roots)).length) [] (Nat.le_refl _) (hc w hw) (fun i hi => findI_lt hi)
    rw [List.append_nil] at this
    rw [this]; rfl
theorem MadeAt.rowS {H : HHeap} {v : Value} {l : List Nat} (h : MadeAt H v l) : RowS H v (l.map U) := by
  rcases h with ⟨h1, h2⟩ | ⟨b, h1, h2, h3, h4⟩
  · subst h1; subst h2; exact RowS.of_gr (GrAt.nil _ _)
  · exact RowS.of_gr (n := l.length) ⟨by simp, .inr ⟨b, fun e => h1 (List.eq_nil_of_length_eq_zero e), h2, h4⟩⟩
theorem kindN_i (T : Things) (w : Nat) : ∃ k, kindN T w = k := ⟨_, rfl⟩
theorem getV_form (T : Things) (w : Nat) (i : Int) : ∃ x e : Nat, getV T w i = .tuple #[U x, I e] := by
  unfold getV
  split
  · split
    · exact ⟨_, 0, rfl⟩
    · exact ⟨0, 1, rfl⟩
  · exact ⟨0, 2, rfl⟩

theorem law_MoveTwice (H : HHeap) (v : Value) (roots0 : List Nat) (hv : HeapArg H v roots0) (R : Value → HHeap → Prop) (hR : ∀ H', R (.bool true) H') : HCalls Try.prog 5 [v] H R := by
  refine HCalls.ok fun hok => ?_
  have hv1 := hv
  obtain ⟨⟨size, tv0, rv0, kk, cells, rfl, _, ⟨_, _, ta, tc, rfl, _⟩, ⟨_, _, ra, rc, rfl, _⟩, _⟩, _⟩ := hv1
  refine HCalls.of_hw Try.func5 rfl _ Try.ntmps5 _ (by rw [Try.results5]) ?_
  rw [hframe0_eq _ _ (by simp)]
  simp only [List.zipIdx_cons, List.zipIdx_nil, List.map_cons, List.map_nil, Nat.reduceAdd]
  simp (disch := first | omega | (show allOne _ = true; simp [allOne, Value.oneCell']) | (simp only [List.length_cons, List.length_nil, List.length_set, List.length_map, List.length_replicate, List.length_append, List.length_take, List.length_drop, Int.toNat_natCast, Int.toNat_of_nonneg, nx_push, nx_set, nx_kill]; done) | (simp only [List.length_cons, List.length_nil, List.length_set, List.length_map, List.length_replicate, List.length_append, List.length_take, List.length_drop, Int.toNat_natCast, Int.toNat_of_nonneg, nx_push, nx_set, nx_kill]; omega)) only [go_sem, reduceCtorEq, Nat.reduceAdd, Nat.reduceSub, Nat.reduceMul, Nat.reduceLT, Nat.reduceLeDiff, Nat.reduceEqDiff, Nat.reduceBEq, Nat.reduceBNe, Int.reduceBEq, Int.reduceEq, Int.reduceLT, Int.reduceLE, Int.reduceAdd, Int.reduceSub, ↓reduceIte, Int.reduceToNat, Nat.reduceShiftRight, Nat.reduceAnd, hbox_agg]
  refine law_shown _ _ ?_
  intro H0 hk0 hn0
  rw [nx_push] at hk0 hn0
  have hb0 : H0.get H.next = some (.cells [I size, .slice ta kk tc, .slice ra roots0.length rc] true) := by rw [hk0 _ (by omega)]; simp (disch := first | omega | (simp only [nx_push, nx_set, nx_kill]; done) | (simp only [nx_push, nx_set, nx_kill]; omega)) only [get_push_ne, get_push_eq, get_set_ne, get_set_eq, get_kill_ne, nx_push, nx_set, nx_kill]
  have hv0 : HeapArg H0 (.agg #[I size, .slice ta kk tc, .slice ra roots0.length rc]) roots0 := hv.old hok (fun b hb => by rw [hk0 b (by omega)]; simp (disch := first | omega | (simp only [nx_push, nx_set, nx_kill]; done) | (simp only [nx_push, nx_set, nx_kill]; omega)) only [get_push_ne, get_push_eq, get_set_ne, get_set_eq, get_kill_ne, nx_push, nx_set, nx_kill])
  have h3 : ∀ x y z : Value, ([x, y, z].drop 0).take 3 = [x, y, z] := fun _ _ _ => rfl
  simp (disch := first | omega | (show allOne _ = true; simp [allOne, Value.oneCell']) | (simp only [List.length_cons, List.length_nil, List.length_set, List.length_map, List.length_replicate, List.length_append, List.length_take, List.length_drop, Int.toNat_natCast, Int.toNat_of_nonneg, nx_push, nx_set, nx_kill]; done) | (simp only [List.length_cons, List.length_nil, List.length_set, List.length_map, List.length_replicate, List.length_append, List.length_take, List.length_drop, Int.toNat_natCast, Int.toNat_of_nonneg, nx_push, nx_set, nx_kill]; omega)) only [go_sem, reduceCtorEq, Nat.reduceAdd, Nat.reduceSub, Nat.reduceMul, Nat.reduceLT, Nat.reduceLeDiff, Nat.reduceEqDiff, Nat.reduceBEq, Nat.reduceBNe, Int.reduceBEq, Int.reduceEq, Int.reduceLT, Int.reduceLE, Int.reduceAdd, Int.reduceSub, ↓reduceIte, Int.reduceToNat, Nat.reduceShiftRight, Nat.reduceAnd, hb0, lda_cells, h3]
  refine law_build _ _ roots0 hv0 _ ?_
  intro H1 n g gw gh gr T tv lvs rv n1 n2 hA hRf hrv hk1 hn1 hg hsep
  simp (disch := first | omega | (show allOne _ = true; simp [allOne, Value.oneCell']) | (simp only [List.length_cons, List.length_nil, List.length_set, List.length_map, List.length_replicate, List.length_append, List.length_take, List.length_drop, Int.toNat_natCast, Int.toNat_of_nonneg, nx_push, nx_set, nx_kill]; done) | (simp only [List.length_cons, List.length_nil, List.length_set, List.length_map, List.length_replicate, List.length_append, List.length_take, List.length_drop, Int.toNat_natCast, Int.toNat_of_nonneg, nx_push, nx_set, nx_kill]; omega)) only [go_sem, reduceCtorEq, Nat.reduceAdd, Nat.reduceSub, Nat.reduceMul, Nat.reduceLT, Nat.reduceLeDiff, Nat.reduceEqDiff, Nat.reduceBEq, Nat.reduceBNe, Int.reduceBEq, Int.reduceEq, Int.reduceLT, Int.reduceLE, Int.reduceAdd, Int.reduceSub, ↓reduceIte, Int.reduceToNat, Nat.reduceShiftRight, Nat.reduceAnd]
  generalize hrs : roots0.take 20 = roots at hrv
  have hrt : ∀ x ∈ roots, x < 18446744073709551616 := fun x hx => hv.lt x (by rw [← hrs] at hx; exact List.mem_of_mem_take hx)
  have hr20 : roots.length ≤ 20 := by rw [← hrs]; simp; omega
  have hru := hA.room
  have hbig : usedOf T ≤ 65536 := by omega
  refine HCalls.ok fun hok1 => ?_
  refine move_Live _ _ _ _ _ _ hA (hA.lt hok1) _ _ (hrv.row hok1) hrt (by omega) _ ?_
  intro H5 g' gw' gh' v5 hB hV hk5 hn5 hnew hlt5 hvb
  simp (disch := first | omega | (show allOne _ = true; simp [allOne, Value.oneCell']) | (simp only [List.length_cons, List.length_nil, List.length_set, List.length_map, List.length_replicate, List.length_append, List.length_take, List.length_drop, Int.toNat_natCast, Int.toNat_of_nonneg, nx_push, nx_set, nx_kill]; done) | (simp only [List.length_cons, List.length_nil, List.length_set, List.length_map, List.length_replicate, List.length_append, List.length_take, List.length_drop, Int.toNat_natCast, Int.toNat_of_nonneg, nx_push, nx_set, nx_kill]; omega)) only [go_sem, reduceCtorEq, Nat.reduceAdd, Nat.reduceSub, Nat.reduceMul, Nat.reduceLT, Nat.reduceLeDiff, Nat.reduceEqDiff, Nat.reduceBEq, Nat.reduceBNe, Int.reduceBEq, Int.reduceEq, Int.reduceLT, Int.reduceLE, Int.reduceAdd, Int.reduceSub, ↓reduceIte, Int.reduceToNat, Nat.reduceShiftRight, Nat.reduceAnd]
  have hM := moved hbig hrt
  generalize outT T (bfs T roots) = T' at hB hM
  generalize roots.map (tr T (bfs T roots)) = l' at hV hM
  have hvs := hV.rowS
  have hA5 : AtA H5 g gw gh n T := hA.frame (by rintro b (rfl | rfl | rfl) <;> exact hk5 _ (hok1 _ _ (by first | exact hA.a | exact hA.w | exact hA.h)))
  refine HCalls.ok fun hok5 => ?_
  refine move_Live _ _ _ _ _ _ hB hlt5 _ _ (hvs.row hok5) hM.lt (by rw [hM.len]; omega) _ ?_
  intro H6 g6 gw6 gh6 v6 hC hV6 hk6 hn6 hnew6 hlt6 hvb6
  rw [hM.out] at hC
  rw [hM.same] at hV6
  have hvs5 : RowS H6 v5 (l'.map U) := hvs.old hok5 hk6
  have hvs6 := hV6.rowS
  have hB6 : AtA H6 g' gw' gh' n T' := hB.frame (by rintro b (rfl | rfl | rfl) <;> exact hk6 _ (by omega))
  have hA6 : AtA H6 g gw gh n T := hA5.frame (by rintro b (rfl | rfl | rfl) <;> exact hk6 _ (hok5 _ _ (by first | exact hA5.a | exact hA5.w | exact hA5.h)))
  simp (disch := first | omega | (show allOne _ = true; simp [allOne, Value.oneCell']) | (simp only [List.length_cons, List.length_nil, List.length_set, List.length_map, List.length_replicate, List.length_append, List.length_take, List.length_drop, Int.toNat_natCast, Int.toNat_of_nonneg, nx_push, nx_set, nx_kill]; done) | (simp only [List.length_cons, List.length_nil, List.length_set, List.length_map, List.length_replicate, List.length_append, List.length_take, List.length_drop, Int.toNat_natCast, Int.toNat_of_nonneg, nx_push, nx_set, nx_kill]; omega)) only [go_sem, reduceCtorEq, Nat.reduceAdd, Nat.reduceSub, Nat.reduceMul, Nat.reduceLT, Nat.reduceLeDiff, Nat.reduceEqDiff, Nat.reduceBEq, Nat.reduceBNe, Int.reduceBEq, Int.reduceEq, Int.reduceLT, Int.reduceLE, Int.reduceAdd, Int.reduceSub, ↓reduceIte, Int.reduceToNat, Nat.reduceShiftRight, Nat.reduceAnd]
  refine HCalls.ok fun hok6 => ?_
  refine law_words _ _ _ l' l' (hvs5.row hok6) (hvs6.row hok6) (by rw [hM.len]; omega) _ ?_
  rw [show decide (l' = l') = true by simp]
  simp (disch := first | omega | (show allOne _ = true; simp [allOne, Value.oneCell']) | (simp only [List.length_cons, List.length_nil, List.length_set, List.length_map, List.length_replicate, List.length_append, List.length_take, List.length_drop, Int.toNat_natCast, Int.toNat_of_nonneg, nx_push, nx_set, nx_kill]; done) | (simp only [List.length_cons, List.length_nil, List.length_set, List.length_map, List.length_replicate, List.length_append, List.length_take, List.length_drop, Int.toNat_natCast, Int.toNat_of_nonneg, nx_push, nx_set, nx_kill]; omega)) only [go_sem, reduceCtorEq, Nat.reduceAdd, Nat.reduceSub, Nat.reduceMul, Nat.reduceLT, Nat.reduceLeDiff, Nat.reduceEqDiff, Nat.reduceBEq, Nat.reduceBNe, Int.reduceBEq, Int.reduceEq, Int.reduceLT, Int.reduceLE, Int.reduceAdd, Int.reduceSub, ↓reduceIte, Int.reduceToNat, Nat.reduceShiftRight, Nat.reduceAnd]
  refine arena_Used _ _ _ _ _ _ hC _ ?_
  simp (disch := first | omega | (show allOne _ = true; simp [allOne, Value.oneCell']) | (simp only [List.length_cons, List.length_nil, List.length_set, List.length_map, List.length_replicate, List.length_append, List.length_take, List.length_drop, Int.toNat_natCast, Int.toNat_of_nonneg, nx_push, nx_set, nx_kill]; done) | (simp only [List.length_cons, List.length_nil, List.length_set, List.length_map, List.length_replicate, List.length_append, List.length_take, List.length_drop, Int.toNat_natCast, Int.toNat_of_nonneg, nx_push, nx_set, nx_kill]; omega)) only [go_sem, reduceCtorEq, Nat.reduceAdd, Nat.reduceSub, Nat.reduceMul, Nat.reduceLT, Nat.reduceLeDiff, Nat.reduceEqDiff, Nat.reduceBEq, Nat.reduceBNe, Int.reduceBEq, Int.reduceEq, Int.reduceLT, Int.reduceLE, Int.reduceAdd, Int.reduceSub, ↓reduceIte, Int.reduceToNat, Nat.reduceShiftRight, Nat.reduceAnd]
  refine arena_Used _ _ _ _ _ _ hB6 _ ?_
  simp (disch := first | omega | (show allOne _ = true; simp [allOne, Value.oneCell']) | (simp only [List.length_cons, List.length_nil, List.length_set, List.length_map, List.length_replicate, List.length_append, List.length_take, List.length_drop, Int.toNat_natCast, Int.toNat_of_nonneg, nx_push, nx_set, nx_kill]; done) | (simp only [List.length_cons, List.length_nil, List.length_set, List.length_map, List.length_replicate, List.length_append, List.length_take, List.length_drop, Int.toNat_natCast, Int.toNat_of_nonneg, nx_push, nx_set, nx_kill]; omega)) only [go_sem, reduceCtorEq, Nat.reduceAdd, Nat.reduceSub, Nat.reduceMul, Nat.reduceLT, Nat.reduceLeDiff, Nat.reduceEqDiff, Nat.reduceBEq, Nat.reduceBNe, Int.reduceBEq, Int.reduceEq, Int.reduceLT, Int.reduceLE, Int.reduceAdd, Int.reduceSub, ↓reduceIte, Int.reduceToNat, Nat.reduceShiftRight, Nat.reduceAnd]
  refine arena_Size _ _ _ _ _ _ hC _ ?_
  simp (disch := first | omega | (show allOne _ = true; simp [allOne, Value.oneCell']) | (simp only [List.length_cons, List.length_nil, List.length_set, List.length_map, List.length_replicate, List.length_append, List.length_take, List.length_drop, Int.toNat_natCast, Int.toNat_of_nonneg, nx_push, nx_set, nx_kill]; done) | (simp only [List.length_cons, List.length_nil, List.length_set, List.length_map, List.length_replicate, List.length_append, List.length_take, List.length_drop, Int.toNat_natCast, Int.toNat_of_nonneg, nx_push, nx_set, nx_kill]; omega)) only [go_sem, reduceCtorEq, Nat.reduceAdd, Nat.reduceSub, Nat.reduceMul, Nat.reduceLT, Nat.reduceLeDiff, Nat.reduceEqDiff, Nat.reduceBEq, Nat.reduceBNe, Int.reduceBEq, Int.reduceEq, Int.reduceLT, Int.reduceLE, Int.reduceAdd, Int.reduceSub, ↓reduceIte, Int.reduceToNat, Nat.reduceShiftRight, Nat.reduceAnd]
  refine arena_Size _ _ _ _ _ _ hA6 _ ?_
  simp (disch := first | omega | (show allOne _ = true; simp [allOne, Value.oneCell']) | (simp only [List.length_cons, List.length_nil, List.length_set, List.length_map, List.length_replicate, List.length_append, List.length_take, List.length_drop, Int.toNat_natCast, Int.toNat_of_nonneg, nx_push, nx_set, nx_kill]; done) | (simp only [List.length_cons, List.length_nil, List.length_set, List.length_map, List.length_replicate, List.length_append, List.length_take, List.length_drop, Int.toNat_natCast, Int.toNat_of_nonneg, nx_push, nx_set, nx_kill]; omega)) only [go_sem, reduceCtorEq, Nat.reduceAdd, Nat.reduceSub, Nat.reduceMul, Nat.reduceLT, Nat.reduceLeDiff, Nat.reduceEqDiff, Nat.reduceBEq, Nat.reduceBNe, Int.reduceBEq, Int.reduceEq, Int.reduceLT, Int.reduceLE, Int.reduceAdd, Int.reduceSub, ↓reduceIte, Int.reduceToNat, Nat.reduceShiftRight, Nat.reduceAnd]
  refine arena_Used _ _ _ _ _ _ hB6 _ ?_
  have hul := hM.le
  simp (disch := first | omega | (show allOne _ = true; simp [allOne, Value.oneCell']) | (simp only [List.length_cons, List.length_nil, List.length_set, List.length_map, List.length_replicate, List.length_append, List.length_take, List.length_drop, Int.toNat_natCast, Int.toNat_of_nonneg, nx_push, nx_set, nx_kill]; done) | (simp only [List.length_cons, List.length_nil, List.length_set, List.length_map, List.length_replicate, List.length_append, List.length_take, List.length_drop, Int.toNat_natCast, Int.toNat_of_nonneg, nx_push, nx_set, nx_kill]; omega)) only [go_sem, reduceCtorEq, Nat.reduceAdd, Nat.reduceSub, Nat.reduceMul, Nat.reduceLT, Nat.reduceLeDiff, Nat.reduceEqDiff, Nat.reduceBEq, Nat.reduceBNe, Int.reduceBEq, Int.reduceEq, Int.reduceLT, Int.reduceLE, Int.reduceAdd, Int.reduceSub, ↓reduceIte, Int.reduceToNat, Nat.reduceShiftRight, Nat.reduceAnd]
  refine Hwp.loop (fun m fr H' => ∃ i, m = usedOf T' - i ∧ i ≤ usedOf T' ∧ H' = H6 ∧ FLe (hfr 114 [(65, I i), (64, I (usedOf T')), (9, ptr g6 0), (7, ptr g' 0), (3, .bool true)]) fr) (usedOf T') ?_ ?_
  · exact ⟨0, by omega, by omega, rfl, fle_of (by simp [flook])⟩
  · rintro m fr H' ⟨i, rfl, hi, rfl, hle⟩
    refine Hwp.weaken hle (HW.sound _ _ _ _ ?_)
    by_cases hc : i < usedOf T'
    · have hw : ((i : Int) * 8 + 1) = ((i * 8 + 1 : Nat) : Int) := by omega
      have hwl : i * 8 + 1 < 18446744073709551616 := by omega
      simp (disch := first | omega | (show allOne _ = true; simp [allOne, Value.oneCell']) | (simp only [List.length_cons, List.length_nil, List.length_set, List.length_map, List.length_replicate, List.length_append, List.length_take, List.length_drop, Int.toNat_natCast, Int.toNat_of_nonneg, nx_push, nx_set, nx_kill]; done) | (simp only [List.length_cons, List.length_nil, List.length_set, List.length_map, List.length_replicate, List.length_append, List.length_take, List.length_drop, Int.toNat_natCast, Int.toNat_of_nonneg, nx_push, nx_set, nx_kill]; omega)) only [go_sem, reduceCtorEq, Nat.reduceAdd, Nat.reduceSub, Nat.reduceMul, Nat.reduceLT, Nat.reduceLeDiff, Nat.reduceEqDiff, Nat.reduceBEq, Nat.reduceBNe, Int.reduceBEq, Int.reduceEq, Int.reduceLT, Int.reduceLE, Int.reduceAdd, Int.reduceSub, ↓reduceIte, Int.reduceToNat, Nat.reduceShiftRight, Nat.reduceAnd, hw]
      refine arena_Kind _ _ _ _ _ _ hB6 _ hwl _ ?_
      simp (disch := first | omega | (show allOne _ = true; simp [allOne, Value.oneCell']) | (simp only [List.length_cons, List.length_nil, List.length_set, List.length_map, List.length_replicate, List.length_append, List.length_take, List.length_drop, Int.toNat_natCast, Int.toNat_of_nonneg, nx_push, nx_set, nx_kill]; done) | (simp only [List.length_cons, List.length_nil, List.length_set, List.length_map, List.length_replicate, List.length_append, List.length_take, List.length_drop, Int.toNat_natCast, Int.toNat_of_nonneg, nx_push, nx_set, nx_kill]; omega)) only [go_sem, reduceCtorEq, Nat.reduceAdd, Nat.reduceSub, Nat.reduceMul, Nat.reduceLT, Nat.reduceLeDiff, Nat.reduceEqDiff, Nat.reduceBEq, Nat.reduceBNe, Int.reduceBEq, Int.reduceEq, Int.reduceLT, Int.reduceLE, Int.reduceAdd, Int.reduceSub, ↓reduceIte, Int.reduceToNat, Nat.reduceShiftRight, Nat.reduceAnd]
      refine arena_Kind _ _ _ _ _ _ hC _ hwl _ ?_
      simp (disch := first | omega | (show allOne _ = true; simp [allOne, Value.oneCell']) | (simp only [List.length_cons, List.length_nil, List.length_set, List.length_map, List.length_replicate, List.length_append, List.length_take, List.length_drop, Int.toNat_natCast, Int.toNat_of_nonneg, nx_push, nx_set, nx_kill]; done) | (simp only [List.length_cons, List.length_nil, List.length_set, List.length_map, List.length_replicate, List.length_append, List.length_take, List.length_drop, Int.toNat_natCast, Int.toNat_of_nonneg, nx_push, nx_set, nx_kill]; omega)) only [go_sem, reduceCtorEq, Nat.reduceAdd, Nat.reduceSub, Nat.reduceMul, Nat.reduceLT, Nat.reduceLeDiff, Nat.reduceEqDiff, Nat.reduceBEq, Nat.reduceBNe, Int.reduceBEq, Int.reduceEq, Int.reduceLT, Int.reduceLE, Int.reduceAdd, Int.reduceSub, ↓reduceIte, Int.reduceToNat, Nat.reduceShiftRight, Nat.reduceAnd]
      refine arena_Len _ _ _ _ _ _ hB6 _ hwl _ ?_
      simp (disch := first | omega | (show allOne _ = true; simp [allOne, Value.oneCell']) | (simp only [List.length_cons, List.length_nil, List.length_set, List.length_map, List.length_replicate, List.length_append, List.length_take, List.length_drop, Int.toNat_natCast, Int.toNat_of_nonneg, nx_push, nx_set, nx_kill]; done) | (simp only [List.length_cons, List.length_nil, List.length_set, List.length_map, List.length_replicate, List.length_append, List.length_take, List.length_drop, Int.toNat_natCast, Int.toNat_of_nonneg, nx_push, nx_set, nx_kill]; omega)) only [go_sem, reduceCtorEq, Nat.reduceAdd, Nat.reduceSub, Nat.reduceMul, Nat.reduceLT, Nat.reduceLeDiff, Nat.reduceEqDiff, Nat.reduceBEq, Nat.reduceBNe, Int.reduceBEq, Int.reduceEq, Int.reduceLT, Int.reduceLE, Int.reduceAdd, Int.reduceSub, ↓reduceIte, Int.reduceToNat, Nat.reduceShiftRight, Nat.reduceAnd]
      refine arena_Len _ _ _ _ _ _ hC _ hwl _ ?_
      simp (disch := first | omega | (show allOne _ = true; simp [allOne, Value.oneCell']) | (simp only [List.length_cons, List.length_nil, List.length_set, List.length_map, List.length_replicate, List.length_append, List.length_take, List.length_drop, Int.toNat_natCast, Int.toNat_of_nonneg, nx_push, nx_set, nx_kill]; done) | (simp only [List.length_cons, List.length_nil, List.length_set, List.length_map, List.length_replicate, List.length_append, List.length_take, List.length_drop, Int.toNat_natCast, Int.toNat_of_nonneg, nx_push, nx_set, nx_kill]; omega)) only [go_sem, reduceCtorEq, Nat.reduceAdd, Nat.reduceSub, Nat.reduceMul, Nat.reduceLT, Nat.reduceLeDiff, Nat.reduceEqDiff, Nat.reduceBEq, Nat.reduceBNe, Int.reduceBEq, Int.reduceEq, Int.reduceLT, Int.reduceLE, Int.reduceAdd, Int.reduceSub, ↓reduceIte, Int.reduceToNat, Nat.reduceShiftRight, Nat.reduceAnd]
      refine arena_Len _ _ _ _ _ _ hB6 _ hwl _ ?_
      simp (disch := first | omega | (show allOne _ = true; simp [allOne, Value.oneCell']) | (simp only [List.length_cons, List.length_nil, List.length_set, List.length_map, List.length_replicate, List.length_append, List.length_take, List.length_drop, Int.toNat_natCast, Int.toNat_of_nonneg, nx_push, nx_set, nx_kill]; done) | (simp only [List.length_cons, List.length_nil, List.length_set, List.length_map, List.length_replicate, List.length_append, List.length_take, List.length_drop, Int.toNat_natCast, Int.toNat_of_nonneg, nx_push, nx_set, nx_kill]; omega)) only [go_sem, reduceCtorEq, Nat.reduceAdd, Nat.reduceSub, Nat.reduceMul, Nat.reduceLT, Nat.reduceLeDiff, Nat.reduceEqDiff, Nat.reduceBEq, Nat.reduceBNe, Int.reduceBEq, Int.reduceEq, Int.reduceLT, Int.reduceLE, Int.reduceAdd, Int.reduceSub, ↓reduceIte, Int.reduceToNat, Nat.reduceShiftRight, Nat.reduceAnd]
      have hln : lenN T' (i * 8 + 1) ≤ 255 := by
        unfold lenN
        cases h : findT T' (i * 8 + 1) with
        | none => simp
        | some t =>
          have ha : atP T' ((i * 8 + 1) / 8) = some t := by unfold findT at h; split at h <;> first | exact h | cases h
          exact (hB6.ok t (atP_words T' _ t ha).2.2.2).len
      generalize lenN T' (i * 8 + 1) = ln at hln
      refine Hwp.loop (fun m fr H2 => ∃ j, m = ln - j ∧ j ≤ ln ∧ H2 = H' ∧ FLe (hfr 114 [(91, I j), (90, I ln), (12, U (i * 8 + 1)), (65, I i), (64, I (usedOf T')), (9, ptr g6 0), (7, ptr g' 0), (3, .bool true)]) fr) ln ?_ ?_
      · exact ⟨0, by omega, by omega, rfl, fle_of (by simp [flook])⟩
      · rintro m fr H2 ⟨j, rfl, hj, rfl, hle2⟩
        refine Hwp.weaken hle2 (HW.sound _ _ _ _ ?_)
        by_cases hc2 : j < ln
        · obtain ⟨x, e, hx⟩ := getV_form T' (i * 8 + 1) j
          simp (disch := first | omega | (show allOne _ = true; simp [allOne, Value.oneCell']) | (simp only [List.length_cons, List.length_nil, List.length_set, List.length_map, List.length_replicate, List.length_append, List.length_take, List.length_drop, Int.toNat_natCast, Int.toNat_of_nonneg, nx_push, nx_set, nx_kill]; done) | (simp only [List.length_cons, List.length_nil, List.length_set, List.length_map, List.length_replicate, List.length_append, List.length_take, List.length_drop, Int.toNat_natCast, Int.toNat_of_nonneg, nx_push, nx_set, nx_kill]; omega)) only [go_sem, reduceCtorEq, Nat.reduceAdd, Nat.reduceSub, Nat.reduceMul, Nat.reduceLT, Nat.reduceLeDiff, Nat.reduceEqDiff, Nat.reduceBEq, Nat.reduceBNe, Int.reduceBEq, Int.reduceEq, Int.reduceLT, Int.reduceLE, Int.reduceAdd, Int.reduceSub, ↓reduceIte, Int.reduceToNat, Nat.reduceShiftRight, Nat.reduceAnd]
          refine arena_Get _ _ _ _ _ _ hB6 _ hwl j _ ?_
          rw [hx]
          simp (disch := first | omega | (show allOne _ = true; simp [allOne, Value.oneCell']) | (simp only [List.length_cons, List.length_nil, List.length_set, List.length_map, List.length_replicate, List.length_append, List.length_take, List.length_drop, Int.toNat_natCast, Int.toNat_of_nonneg, nx_push, nx_set, nx_kill]; done) | (simp only [List.length_cons, List.length_nil, List.length_set, List.length_map, List.length_replicate, List.length_append, List.length_take, List.length_drop, Int.toNat_natCast, Int.toNat_of_nonneg, nx_push, nx_set, nx_kill]; omega)) only [go_sem, reduceCtorEq, Nat.reduceAdd, Nat.reduceSub, Nat.reduceMul, Nat.reduceLT, Nat.reduceLeDiff, Nat.reduceEqDiff, Nat.reduceBEq, Nat.reduceBNe, Int.reduceBEq, Int.reduceEq, Int.reduceLT, Int.reduceLE, Int.reduceAdd, Int.reduceSub, ↓reduceIte, Int.reduceToNat, Nat.reduceShiftRight, Nat.reduceAnd]
          refine arena_Get _ _ _ _ _ _ hC _ hwl j _ ?_
          rw [hx]
          simp (disch := first | omega | (show allOne _ = true; simp [allOne, Value.oneCell']) | (simp only [List.length_cons, List.length_nil, List.length_set, List.length_map, List.length_replicate, List.length_append, List.length_take, List.length_drop, Int.toNat_natCast, Int.toNat_of_nonneg, nx_push, nx_set, nx_kill]; done) | (simp only [List.length_cons, List.length_nil, List.length_set, List.length_map, List.length_replicate, List.length_append, List.length_take, List.length_drop, Int.toNat_natCast, Int.toNat_of_nonneg, nx_push, nx_set, nx_kill]; omega)) only [go_sem, reduceCtorEq, Nat.reduceAdd, Nat.reduceSub, Nat.reduceMul, Nat.reduceLT, Nat.reduceLeDiff, Nat.reduceEqDiff, Nat.reduceBEq, Nat.reduceBNe, Int.reduceBEq, Int.reduceEq, Int.reduceLT, Int.reduceLE, Int.reduceAdd, Int.reduceSub, ↓reduceIte, Int.reduceToNat, Nat.reduceShiftRight, Nat.reduceAnd]
          refine ⟨_, ?_, j + 1, rfl, by omega, fle_of (by simp [flook])⟩
          omega
        · simp (disch := first | omega | (show allOne _ = true; simp [allOne, Value.oneCell']) | (simp only [List.length_cons, List.length_nil, List.length_set, List.length_map, List.length_replicate, List.length_append, List.length_take, List.length_drop, Int.toNat_natCast, Int.toNat_of_nonneg, nx_push, nx_set, nx_kill]; done) | (simp only [List.length_cons, List.length_nil, List.length_set, List.length_map, List.length_replicate, List.length_append, List.length_take, List.length_drop, Int.toNat_natCast, Int.toNat_of_nonneg, nx_push, nx_set, nx_kill]; omega)) only [go_sem, reduceCtorEq, Nat.reduceAdd, Nat.reduceSub, Nat.reduceMul, Nat.reduceLT, Nat.reduceLeDiff, Nat.reduceEqDiff, Nat.reduceBEq, Nat.reduceBNe, Int.reduceBEq, Int.reduceEq, Int.reduceLT, Int.reduceLE, Int.reduceAdd, Int.reduceSub, ↓reduceIte, Int.reduceToNat, Nat.reduceShiftRight, Nat.reduceAnd]
          refine ⟨_, ?_, i + 1, rfl, by omega, fle_of (by simp [flook])⟩
          omega
    · simp (disch := first | omega | (show allOne _ = true; simp [allOne, Value.oneCell']) | (simp only [List.length_cons, List.length_nil, List.length_set, List.length_map, List.length_replicate, List.length_append, List.length_take, List.length_drop, Int.toNat_natCast, Int.toNat_of_nonneg, nx_push, nx_set, nx_kill]; done) | (simp only [List.length_cons, List.length_nil, List.length_set, List.length_map, List.length_replicate, List.length_append, List.length_take, List.length_drop, Int.toNat_natCast, Int.toNat_of_nonneg, nx_push, nx_set, nx_kill]; omega)) only [go_sem, reduceCtorEq, Nat.reduceAdd, Nat.reduceSub, Nat.reduceMul, Nat.reduceLT, Nat.reduceLeDiff, Nat.reduceEqDiff, Nat.reduceBEq, Nat.reduceBNe, Int.reduceBEq, Int.reduceEq, Int.reduceLT, Int.reduceLE, Int.reduceAdd, Int.reduceSub, ↓reduceIte, Int.reduceToNat, Nat.reduceShiftRight, Nat.reduceAnd]
      exact hR _
end Go.HL
/-
  Walks: laws, on: what is kept is gone on with.
-/
namespace Go.HL
open Go.RowKit Go.Proofs
set_option maxHeartbeats 4000000
set_option maxRecDepth 100000
set_option linter.unusedSimpArgs false
set_option linter.unusedVariables false

theorem sblk_v (v : Value) : sblk v = vblk v := by
  unfold sblk vblk
  cases v with
  | slice a l c => cases a <;> rfl
  | _ => rfl
theorem append_two (H : HHeap) (l : List Nat) (w : Nat) (hl : l.length ≤ 1000) : ∃ sa Ha sb Hb, apd (H.push (.cells [] true)) 1 8 (.slice (some ⟨H.next, 0, none⟩) 0 0) (l.map U, l.length) = some (sa, Ha) ∧
    hsource (Ha.push (.cells [U w] true)) 1 (.slice (some ⟨Ha.next, 0, none⟩) 1 1) = some ([U w], 1) ∧ apd (Ha.push (.cells [U w] true)) 1 8 sa ([U w], 1) = some (sb, Hb) ∧ (∀ x, x < H.next → Hb.get x = H.get x) ∧ H.next ≤ Hb.next ∧ RowS Hb sb ((l ++ [w]).map U) := by
  rcases Nat.eq_zero_or_pos l.length with h0 | h0
  · have : l = [] := List.eq_nil_of_length_eq_zero h0
    subst this
    refine ⟨.slice (some ⟨H.next, 0, none⟩) 0 0, H.push (.cells [] true), .slice (some ⟨H.next + 1 + 1, 0, some 2⟩) 1 1, ((H.push (.cells [] true)).push (.cells [U w] true)).push (.cells [U w] true), apd_zero _ _ _ _ _ _, ?_, ?_, ?_, ?_, ?_⟩
    · rw [hsource_slice]; simp (disch := first | omega | (simp only [nx_push, nx_set, nx_kill]; done) | (simp only [nx_push, nx_set, nx_kill]; omega)) only [get_push_ne, get_push_eq, get_set_ne, get_set_eq, get_kill_ne, nx_push, nx_set, nx_kill]; rfl
    · rw [apd_some _ _ _ _ _ _ _ _ _ (by omega) (by omega) (by omega)]
      simp (disch := first | omega | (simp only [nx_push, nx_set, nx_kill]; done) | (simp only [nx_push, nx_set, nx_kill]; omega)) only [get_push_ne, get_push_eq, get_set_ne, get_set_eq, get_kill_ne, nx_push, nx_set, nx_kill]
      rw [apo_fresh _ _ _ _ _ _ _ (by omega)]; simp (disch := first | omega | (simp only [nx_push, nx_set, nx_kill]; done) | (simp only [nx_push, nx_set, nx_kill]; omega)) only [get_push_ne, get_push_eq, get_set_ne, get_set_eq, get_kill_ne, nx_push, nx_set, nx_kill]
    · intro x hx; simp (disch := first | omega | (simp only [nx_push, nx_set, nx_kill]; done) | (simp only [nx_push, nx_set, nx_kill]; omega)) only [get_push_ne, get_push_eq, get_set_ne, get_set_eq, get_kill_ne, nx_push, nx_set, nx_kill]
    · simp (disch := first | omega | (simp only [nx_push, nx_set, nx_kill]; done) | (simp only [nx_push, nx_set, nx_kill]; omega)) only [get_push_ne, get_push_eq, get_set_ne, get_set_eq, get_kill_ne, nx_push, nx_set, nx_kill]; omega
    · exact RowS.of_gr (n := 1) ⟨by simp, .inr ⟨H.next + 1 + 1, by omega, rfl, by simp (disch := first | omega | (simp only [nx_push, nx_set, nx_kill]; done) | (simp only [nx_push, nx_set, nx_kill]; omega)) only [get_push_ne, get_push_eq, get_set_ne, get_set_eq, get_kill_ne, nx_push, nx_set, nx_kill]; rfl⟩⟩
  · refine ⟨.slice (some ⟨H.next + 1, 0, some 2⟩) l.length l.length, (H.push (.cells [] true)).push (.cells (l.map U) true), .slice (some ⟨H.next + 1 + 1 + 1, 0, some 2⟩) (l.length + 1) (l.length + 1),
      ((((H.push (.cells [] true)).push (.cells (l.map U) true)).push (.cells [U w] true)).kill (H.next + 1)).push (.cells (l.map U ++ [U w]) true), ?_, ?_, ?_, ?_, ?_, ?_⟩
    · rw [apd_some _ _ _ _ _ _ _ _ _ (by omega) (by omega) (by omega)]
      simp (disch := first | omega | (simp only [nx_push, nx_set, nx_kill]; done) | (simp only [nx_push, nx_set, nx_kill]; omega)) only [get_push_ne, get_push_eq, get_set_ne, get_set_eq, get_kill_ne, nx_push, nx_set, nx_kill]
      rw [apo_fresh _ _ _ _ _ _ _ (by omega)]; simp (disch := first | omega | (simp only [nx_push, nx_set, nx_kill]; done) | (simp only [nx_push, nx_set, nx_kill]; omega)) only [get_push_ne, get_push_eq, get_set_ne, get_set_eq, get_kill_ne, nx_push, nx_set, nx_kill]
    · rw [hsource_slice]; simp (disch := first | omega | (simp only [nx_push, nx_set, nx_kill]; done) | (simp only [nx_push, nx_set, nx_kill]; omega)) only [get_push_ne, get_push_eq, get_set_ne, get_set_eq, get_kill_ne, nx_push, nx_set, nx_kill]; rfl
    · rw [apd_some _ _ _ _ _ _ _ _ _ (by omega) (by omega) (by omega)]
      simp (disch := first | omega | (simp only [nx_push, nx_set, nx_kill]; done) | (simp only [nx_push, nx_set, nx_kill]; omega)) only [get_push_ne, get_push_eq, get_set_ne, get_set_eq, get_kill_ne, nx_push, nx_set, nx_kill]
      rw [apo_grow 1 _ _ 1 _ _ (by omega) (by omega) (by simp)]; simp (disch := first | omega | (simp only [nx_push, nx_set, nx_kill]; done) | (simp only [nx_push, nx_set, nx_kill]; omega)) only [get_push_ne, get_push_eq, get_set_ne, get_set_eq, get_kill_ne, nx_push, nx_set, nx_kill]
    · intro x hx; simp (disch := first | omega | (simp only [nx_push, nx_set, nx_kill]; done) | (simp only [nx_push, nx_set, nx_kill]; omega)) only [get_push_ne, get_push_eq, get_set_ne, get_set_eq, get_kill_ne, nx_push, nx_set, nx_kill]
    · simp (disch := first | omega | (simp only [nx_push, nx_set, nx_kill]; done) | (simp only [nx_push, nx_set, nx_kill]; omega)) only [get_push_ne, get_push_eq, get_set_ne, get_set_eq, get_kill_ne, nx_push, nx_set, nx_kill]; omega
    · exact RowS.of_gr (n := l.length + 1) ⟨by simp, .inr ⟨H.next + 1 + 1 + 1, by omega, rfl, by simp (disch := first | omega | (simp only [nx_push, nx_set, nx_kill]; done) | (simp only [nx_push, nx_set, nx_kill]; omega)) only [get_push_ne, get_push_eq, get_set_ne, get_set_eq, get_kill_ne, nx_push, nx_set, nx_kill]; simp⟩⟩
theorem law_MoveGoes (H : HHeap) (v : Value) (roots0 : List Nat) (hv : HeapArg H v roots0) (at_ : Nat) (hat : at_ < 256) (R : Value → HHeap → Prop) (hR : ∀ H', R (.bool true) H') : HCalls Try.prog 9 [v, .int .u8 at_] H R := by
  refine HCalls.ok fun hok => ?_
  have hv1 := hv
  obtain ⟨⟨size, tv0, rv0, kk, cells, rfl, _, ⟨_, _, ta, tc, rfl, _⟩, ⟨_, _, ra, rc, rfl, _⟩, _⟩, _⟩ := hv1
  refine HCalls.of_hw Try.func9 rfl _ Try.ntmps9 _ (by rw [Try.results9]) ?_
  rw [hframe0_eq _ _ (by simp)]
  simp only [List.zipIdx_cons, List.zipIdx_nil, List.map_cons, List.map_nil, Nat.reduceAdd]
  simp (disch := first | omega | (show allOne _ = true; simp [allOne, Value.oneCell']) | (simp only [List.length_cons, List.length_nil, List.length_set, List.length_map, List.length_replicate, List.length_append, List.length_take, List.length_drop, Int.toNat_natCast, Int.toNat_of_nonneg, nx_push, nx_set, nx_kill]; done) | (simp only [List.length_cons, List.length_nil, List.length_set, List.length_map, List.length_replicate, List.length_append, List.length_take, List.length_drop, Int.toNat_natCast, Int.toNat_of_nonneg, nx_push, nx_set, nx_kill]; omega)) only [go_sem, reduceCtorEq, Nat.reduceAdd, Nat.reduceSub, Nat.reduceMul, Nat.reduceLT, Nat.reduceLeDiff, Nat.reduceEqDiff, Nat.reduceBEq, Nat.reduceBNe, Int.reduceBEq, Int.reduceEq, Int.reduceLT, Int.reduceLE, Int.reduceAdd, Int.reduceSub, ↓reduceIte, Int.reduceToNat, Nat.reduceShiftRight, Nat.reduceAnd, hbox_agg]
  refine law_shown _ _ ?_
  intro H0 hk0 hn0
  rw [nx_push] at hk0 hn0
  have hb0 : H0.get H.next = some (.cells [I size, .slice ta kk tc, .slice ra roots0.length rc] true) := by rw [hk0 _ (by omega)]; simp (disch := first | omega | (simp only [nx_push, nx_set, nx_kill]; done) | (simp only [nx_push, nx_set, nx_kill]; omega)) only [get_push_ne, get_push_eq, get_set_ne, get_set_eq, get_kill_ne, nx_push, nx_set, nx_kill]
  have hv0 : HeapArg H0 (.agg #[I size, .slice ta kk tc, .slice ra roots0.length rc]) roots0 := hv.old hok (fun b hb => by rw [hk0 b (by omega)]; simp (disch := first | omega | (simp only [nx_push, nx_set, nx_kill]; done) | (simp only [nx_push, nx_set, nx_kill]; omega)) only [get_push_ne, get_push_eq, get_set_ne, get_set_eq, get_kill_ne, nx_push, nx_set, nx_kill])
  have h3 : ∀ x y z : Value, ([x, y, z].drop 0).take 3 = [x, y, z] := fun _ _ _ => rfl
  simp (disch := first | omega | (show allOne _ = true; simp [allOne, Value.oneCell']) | (simp only [List.length_cons, List.length_nil, List.length_set, List.length_map, List.length_replicate, List.length_append, List.length_take, List.length_drop, Int.toNat_natCast, Int.toNat_of_nonneg, nx_push, nx_set, nx_kill]; done) | (simp only [List.length_cons, List.length_nil, List.length_set, List.length_map, List.length_replicate, List.length_append, List.length_take, List.length_drop, Int.toNat_natCast, Int.toNat_of_nonneg, nx_push, nx_set, nx_kill]; omega)) only [go_sem, reduceCtorEq, Nat.reduceAdd, Nat.reduceSub, Nat.reduceMul, Nat.reduceLT, Nat.reduceLeDiff, Nat.reduceEqDiff, Nat.reduceBEq, Nat.reduceBNe, Int.reduceBEq, Int.reduceEq, Int.reduceLT, Int.reduceLE, Int.reduceAdd, Int.reduceSub, ↓reduceIte, Int.reduceToNat, Nat.reduceShiftRight, Nat.reduceAnd, hb0, lda_cells, h3]
  refine law_build _ _ roots0 hv0 _ ?_
  intro H1 n g gw gh gr T tv lvs rv n1 n2 hA hRf hrv hk1 hn1 hg hsep
  simp (disch := first | omega | (show allOne _ = true; simp [allOne, Value.oneCell']) | (simp only [List.length_cons, List.length_nil, List.length_set, List.length_map, List.length_replicate, List.length_append, List.length_take, List.length_drop, Int.toNat_natCast, Int.toNat_of_nonneg, nx_push, nx_set, nx_kill]; done) | (simp only [List.length_cons, List.length_nil, List.length_set, List.length_map, List.length_replicate, List.length_append, List.length_take, List.length_drop, Int.toNat_natCast, Int.toNat_of_nonneg, nx_push, nx_set, nx_kill]; omega)) only [go_sem, reduceCtorEq, Nat.reduceAdd, Nat.reduceSub, Nat.reduceMul, Nat.reduceLT, Nat.reduceLeDiff, Nat.reduceEqDiff, Nat.reduceBEq, Nat.reduceBNe, Int.reduceBEq, Int.reduceEq, Int.reduceLT, Int.reduceLE, Int.reduceAdd, Int.reduceSub, ↓reduceIte, Int.reduceToNat, Nat.reduceShiftRight, Nat.reduceAnd]
  generalize hrs : roots0.take 20 = roots at hrv
  have hrt : ∀ x ∈ roots, x < 18446744073709551616 := fun x hx => hv.lt x (by rw [← hrs] at hx; exact List.mem_of_mem_take hx)
  have hr20 : roots.length ≤ 20 := by rw [← hrs]; simp; omega
  have hru := hA.room
  have hbig : usedOf T ≤ 65536 := by omega
  refine HCalls.ok fun hok1 => ?_
  refine move_Live _ _ _ _ _ _ hA (hA.lt hok1) _ _ (hrv.row hok1) hrt (by omega) _ ?_
  intro H5 g' gw' gh' v5 hB hV hk5 hn5 hnew hlt5 hvb
  simp (disch := first | omega | (show allOne _ = true; simp [allOne, Value.oneCell']) | (simp only [List.length_cons, List.length_nil, List.length_set, List.length_map, List.length_replicate, List.length_append, List.length_take, List.length_drop, Int.toNat_natCast, Int.toNat_of_nonneg, nx_push, nx_set, nx_kill]; done) | (simp only [List.length_cons, List.length_nil, List.length_set, List.length_map, List.length_replicate, List.length_append, List.length_take, List.length_drop, Int.toNat_natCast, Int.toNat_of_nonneg, nx_push, nx_set, nx_kill]; omega)) only [go_sem, reduceCtorEq, Nat.reduceAdd, Nat.reduceSub, Nat.reduceMul, Nat.reduceLT, Nat.reduceLeDiff, Nat.reduceEqDiff, Nat.reduceBEq, Nat.reduceBNe, Int.reduceBEq, Int.reduceEq, Int.reduceLT, Int.reduceLE, Int.reduceAdd, Int.reduceSub, ↓reduceIte, Int.reduceToNat, Nat.reduceShiftRight, Nat.reduceAnd]
  have hM := moved hbig hrt
  generalize outT T (bfs T roots) = T' at hB hM
  generalize roots.map (tr T (bfs T roots)) = l' at hV hM
  refine arena_Used _ _ _ _ _ _ hB _ ?_
  have hul := hM.le
  obtain ⟨m, hm, hm10⟩ : ∃ m : Nat, (at_ : Int) % 10 = (m : Int) ∧ m < 10 := ⟨at_ % 10, by omega, by omega⟩
  simp (disch := first | omega | (show allOne _ = true; simp [allOne, Value.oneCell']) | (simp only [List.length_cons, List.length_nil, List.length_set, List.length_map, List.length_replicate, List.length_append, List.length_take, List.length_drop, Int.toNat_natCast, Int.toNat_of_nonneg, nx_push, nx_set, nx_kill]; done) | (simp only [List.length_cons, List.length_nil, List.length_set, List.length_map, List.length_replicate, List.length_append, List.length_take, List.length_drop, Int.toNat_natCast, Int.toNat_of_nonneg, nx_push, nx_set, nx_kill]; omega)) only [go_sem, reduceCtorEq, Nat.reduceAdd, Nat.reduceSub, Nat.reduceMul, Nat.reduceLT, Nat.reduceLeDiff, Nat.reduceEqDiff, Nat.reduceBEq, Nat.reduceBNe, Int.reduceBEq, Int.reduceEq, Int.reduceLT, Int.reduceLE, Int.reduceAdd, Int.reduceSub, ↓reduceIte, Int.reduceToNat, Nat.reduceShiftRight, Nat.reduceAnd, hm, mks_ok]
  have hB1 : AtA (H5.push (.cells (List.replicate m (.int .u64 0)) true)) g' gw' gh' n T' := hB.frame (by rintro b (rfl | rfl | rfl) <;> simp (disch := first | omega | (simp only [nx_push, nx_set, nx_kill]; done) | (simp only [nx_push, nx_set, nx_kill]; omega)) only [get_push_ne, get_push_eq, get_set_ne, get_set_eq, get_kill_ne, nx_push, nx_set, nx_kill])
  have hrep : List.replicate m (Value.int .u64 0) = (List.replicate m 0).map U := by simp
  refine arena_AllocV _ _ _ _ _ _ hB1 9 (List.replicate m 0) m (by simp) (by simp) (some ⟨H5.next, 0, none⟩) m (fun H' hf => ?_) _ ?_
  · rw [hsource_slice, hf _ (by omega) (by omega) (by omega)]
    simp (disch := first | omega | (simp only [nx_push, nx_set, nx_kill]; done) | (simp only [nx_push, nx_set, nx_kill]; omega)) only [get_push_ne, get_push_eq, get_set_ne, get_set_eq, get_kill_ne, nx_push, nx_set, nx_kill]
    rcases Nat.eq_zero_or_pos m with h0 | h0
    · subst h0; rfl
    · rw [hsrc_cells _ _ _ _ _ h0 (by simp), List.drop_zero, Nat.mul_one, hrep, List.take_of_length_le (by simp)]
  intro H6 hC hf6 hn6
  rw [nx_push] at hn6
  have hv56 : RowS H6 v5 (l'.map U) := hV.rowS.frame (fun b hb => by
    have := hvb b (by rwa [← sblk_v])
    rw [hf6 b (by omega) (by omega) (by omega)]
    have hbl : b < H5.next := by
      rcases hV with ⟨_, h2⟩ | ⟨b', _, h2, h3, _⟩
      · subst h2; simp [sblk] at hb
      · subst h2; simp [sblk] at hb; omega
    simp (disch := first | omega | (simp only [nx_push, nx_set, nx_kill]; done) | (simp only [nx_push, nx_set, nx_kill]; omega)) only [get_push_ne, get_push_eq, get_set_ne, get_set_eq, get_kill_ne, nx_push, nx_set, nx_kill])
  have hrt' : (List.replicate m 0).length = m := by simp
  unfold allocT allocV at *
  by_cases hroom : usedOf T' + m + 1 ≤ n
  · rw [if_pos ⟨by omega, by omega, by omega⟩] at hC
    rw [if_pos ⟨by omega, by omega⟩, if_pos (by omega)]
    have hT9 : ((9 : Int)).toNat = 9 := rfl
    rw [hT9] at hC
    have hu9 : usedOf (T' ++ [⟨9, List.replicate m 0⟩]) = usedOf T' + m + 1 := by rw [usedOf_append]; simp [usedOf, Thing.room]; omega
    obtain ⟨p1, p2, p3⟩ := more_thing (T := T') (l := l') (t := ⟨9, List.replicate m 0⟩) (by rw [hu9]; omega) hM.range hM.clean hM.cleanT (by intro w hw; simp at hw; omega)
    rw [hu9] at p1
    simp (disch := first | omega | (show allOne _ = true; simp [allOne, Value.oneCell']) | (simp only [List.length_cons, List.length_nil, List.length_set, List.length_map, List.length_replicate, List.length_append, List.length_take, List.length_drop, Int.toNat_natCast, Int.toNat_of_nonneg, nx_push, nx_set, nx_kill]; done) | (simp only [List.length_cons, List.length_nil, List.length_set, List.length_map, List.length_replicate, List.length_append, List.length_take, List.length_drop, Int.toNat_natCast, Int.toNat_of_nonneg, nx_push, nx_set, nx_kill]; omega)) only [go_sem, reduceCtorEq, Nat.reduceAdd, Nat.reduceSub, Nat.reduceMul, Nat.reduceLT, Nat.reduceLeDiff, Nat.reduceEqDiff, Nat.reduceBEq, Nat.reduceBNe, Int.reduceBEq, Int.reduceEq, Int.reduceLT, Int.reduceLE, Int.reduceAdd, Int.reduceSub, ↓reduceIte, Int.reduceToNat, Nat.reduceShiftRight, Nat.reduceAnd]
    refine HCalls.ok fun hok6 => ?_
    refine arena_Size _ _ _ _ _ _ hC _ ?_
    obtain ⟨a5, c5, hv5, hv5c, hv5d⟩ := id hv56
    rw [List.length_map] at hv5 hv5c
    subst hv5
    have hs5 : ∀ H' : HHeap, (∀ b, b < H6.next → H'.get b = H6.get b) → hsource H' 1 (.slice a5 l'.length c5) = some (l'.map U, l'.length) := fun H' hf => (hv56.row hok6).source hf
    obtain ⟨sa, Ha, sb, Hb, q1, qh, q2, q3, q4, q5⟩ := append_two H6 l' (wordAt (usedOf T')) (by have := hM.len; omega)
    have hs5' := hs5 (H6.push (.cells [] true)) (fun b hb => by simp (disch := first | omega | (simp only [nx_push, nx_set, nx_kill]; done) | (simp only [nx_push, nx_set, nx_kill]; omega)) only [get_push_ne, get_push_eq, get_set_ne, get_set_eq, get_kill_ne, nx_push, nx_set, nx_kill])
    have hll := hM.len
    simp (disch := first | omega | (show allOne _ = true; simp [allOne, Value.oneCell']) | (simp only [List.length_cons, List.length_nil, List.length_set, List.length_map, List.length_replicate, List.length_append, List.length_take, List.length_drop, Int.toNat_natCast, Int.toNat_of_nonneg, nx_push, nx_set, nx_kill]; done) | (simp only [List.length_cons, List.length_nil, List.length_set, List.length_map, List.length_replicate, List.length_append, List.length_take, List.length_drop, Int.toNat_natCast, Int.toNat_of_nonneg, nx_push, nx_set, nx_kill]; omega)) only [go_sem, reduceCtorEq, Nat.reduceAdd, Nat.reduceSub, Nat.reduceMul, Nat.reduceLT, Nat.reduceLeDiff, Nat.reduceEqDiff, Nat.reduceBEq, Nat.reduceBNe, Int.reduceBEq, Int.reduceEq, Int.reduceLT, Int.reduceLE, Int.reduceAdd, Int.reduceSub, ↓reduceIte, Int.reduceToNat, Nat.reduceShiftRight, Nat.reduceAnd, hs5', q1, q2, qh]
    have hCb : AtA Hb g' gw' gh' n (T' ++ [⟨9, List.replicate m 0⟩]) := hC.frame (by rintro b (rfl | rfl | rfl) <;> exact q3 _ (by omega))
    have hvb5 : RowS Hb (.slice a5 l'.length c5) (l'.map U) := hv56.old hok6 q3
    refine HCalls.ok fun hokb => ?_
    have hltw : wordAt (usedOf T') < 18446744073709551616 := by unfold wordAt; omega
    refine move_Live _ _ _ _ _ _ hCb (hCb.lt hokb) _ (l' ++ [wordAt (usedOf T')]) (q5.row hokb) (by
      intro w hw
      rcases List.mem_append.1 hw with hw | hw
      · exact hM.lt w hw
      · rw [List.mem_singleton.1 hw]; exact hltw) (by simp; omega) _ ?_
    intro H9 g9 gw9 gh9 v9 hD hV9 hk9 hn9 hnew9 hlt9 hvb9
    simp (disch := first | omega | (show allOne _ = true; simp [allOne, Value.oneCell']) | (simp only [List.length_cons, List.length_nil, List.length_set, List.length_map, List.length_replicate, List.length_append, List.length_take, List.length_drop, Int.toNat_natCast, Int.toNat_of_nonneg, nx_push, nx_set, nx_kill]; done) | (simp only [List.length_cons, List.length_nil, List.length_set, List.length_map, List.length_replicate, List.length_append, List.length_take, List.length_drop, Int.toNat_natCast, Int.toNat_of_nonneg, nx_push, nx_set, nx_kill]; omega)) only [go_sem, reduceCtorEq, Nat.reduceAdd, Nat.reduceSub, Nat.reduceMul, Nat.reduceLT, Nat.reduceLeDiff, Nat.reduceEqDiff, Nat.reduceBEq, Nat.reduceBNe, Int.reduceBEq, Int.reduceEq, Int.reduceLT, Int.reduceLE, Int.reduceAdd, Int.reduceSub, ↓reduceIte, Int.reduceToNat, Nat.reduceShiftRight, Nat.reduceAnd]
    have hu3 := outT_used (T' ++ [⟨9, List.replicate m 0⟩]) (bfs (T' ++ [⟨9, List.replicate m 0⟩]) (l' ++ [wordAt (usedOf T')]))
    rw [p1] at hu3
    rw [List.map_append, p2, List.map_cons, List.map_nil] at hV9
    have hxlt := tr_lt (T := T' ++ [⟨9, List.replicate m 0⟩]) (bfs_nodup _ (l' ++ [wordAt (usedOf T')])) (bfs_closed _ _).lt (by rw [hu9]; omega) hltw (fun i hi => bfs_root (by simp) hi)
    generalize tr (T' ++ [⟨9, List.replicate m 0⟩]) (bfs (T' ++ [⟨9, List.replicate m 0⟩]) (l' ++ [wordAt (usedOf T')])) (wordAt (usedOf T')) = x at hV9 p3 hxlt
    generalize outT (T' ++ [⟨9, List.replicate m 0⟩]) (bfs (T' ++ [⟨9, List.replicate m 0⟩]) (l' ++ [wordAt (usedOf T')])) = T9 at hD p3 hu3
    have hvs9 := hV9.rowS
    obtain ⟨a9, c9, hv9, _⟩ := id hvs9
    rw [show ((l' ++ [x]).map U).length = l'.length + 1 by simp] at hv9
    subst hv9
    obtain ⟨s9, r1, r2, _⟩ := hvs9.hi Try.underlying23 sz42 (k := .i64) (m := l'.length) (by simp)
    rw [← List.map_take, List.take_left] at r2
    have hC9 : AtA H9 g' gw' gh' n (T' ++ [⟨9, List.replicate m 0⟩]) := hCb.frame (by rintro b (rfl | rfl | rfl) <;> exact hk9 _ (hokb _ _ (by first | exact hCb.a | exact hCb.w | exact hCb.h)))
    have hv9' : RowS H9 (.slice a5 l'.length c5) (l'.map U) := hvb5.old hokb hk9
    have hw9 : (wordAt (usedOf T') : Int) = (usedOf T' : Int) * 8 + 1 := by unfold wordAt; omega
    simp (disch := first | omega | (show allOne _ = true; simp [allOne, Value.oneCell']) | (simp only [List.length_cons, List.length_nil, List.length_set, List.length_map, List.length_replicate, List.length_append, List.length_take, List.length_drop, Int.toNat_natCast, Int.toNat_of_nonneg, nx_push, nx_set, nx_kill]; done) | (simp only [List.length_cons, List.length_nil, List.length_set, List.length_map, List.length_replicate, List.length_append, List.length_take, List.length_drop, Int.toNat_natCast, Int.toNat_of_nonneg, nx_push, nx_set, nx_kill]; omega)) only [go_sem, reduceCtorEq, Nat.reduceAdd, Nat.reduceSub, Nat.reduceMul, Nat.reduceLT, Nat.reduceLeDiff, Nat.reduceEqDiff, Nat.reduceBEq, Nat.reduceBNe, Int.reduceBEq, Int.reduceEq, Int.reduceLT, Int.reduceLE, Int.reduceAdd, Int.reduceSub, ↓reduceIte, Int.reduceToNat, Nat.reduceShiftRight, Nat.reduceAnd, hw9]
    refine arena_Used _ _ _ _ _ _ hC9 _ ?_
    rw [hu9]
    simp (disch := first | omega | (show allOne _ = true; simp [allOne, Value.oneCell']) | (simp only [List.length_cons, List.length_nil, List.length_set, List.length_map, List.length_replicate, List.length_append, List.length_take, List.length_drop, Int.toNat_natCast, Int.toNat_of_nonneg, nx_push, nx_set, nx_kill]; done) | (simp only [List.length_cons, List.length_nil, List.length_set, List.length_map, List.length_replicate, List.length_append, List.length_take, List.length_drop, Int.toNat_natCast, Int.toNat_of_nonneg, nx_push, nx_set, nx_kill]; omega)) only [go_sem, reduceCtorEq, Nat.reduceAdd, Nat.reduceSub, Nat.reduceMul, Nat.reduceLT, Nat.reduceLeDiff, Nat.reduceEqDiff, Nat.reduceBEq, Nat.reduceBNe, Int.reduceBEq, Int.reduceEq, Int.reduceLT, Int.reduceLE, Int.reduceAdd, Int.reduceSub, ↓reduceIte, Int.reduceToNat, Nat.reduceShiftRight, Nat.reduceAnd, r1]
    refine HCalls.ok fun hok9 => ?_
    refine law_words _ _ _ l' l' (r2.row hok9) (hv9'.row hok9) (by omega) _ ?_
    rw [show decide (l' = l') = true by simp]
    obtain ⟨bb, oo, kk9, cc, cs9, rw9, z1, z2, z3⟩ := (hvs9.row hok9).get (i := l'.length) (v := U x) (by simp)
    rw [show ((l' ++ [x]).map U).length = l'.length + 1 by simp] at z1
    cases z1
    simp (disch := first | omega | (show allOne _ = true; simp [allOne, Value.oneCell']) | (simp only [List.length_cons, List.length_nil, List.length_set, List.length_map, List.length_replicate, List.length_append, List.length_take, List.length_drop, Int.toNat_natCast, Int.toNat_of_nonneg, nx_push, nx_set, nx_kill]; done) | (simp only [List.length_cons, List.length_nil, List.length_set, List.length_map, List.length_replicate, List.length_append, List.length_take, List.length_drop, Int.toNat_natCast, Int.toNat_of_nonneg, nx_push, nx_set, nx_kill]; omega)) only [go_sem, reduceCtorEq, Nat.reduceAdd, Nat.reduceSub, Nat.reduceMul, Nat.reduceLT, Nat.reduceLeDiff, Nat.reduceEqDiff, Nat.reduceBEq, Nat.reduceBNe, Int.reduceBEq, Int.reduceEq, Int.reduceLT, Int.reduceLE, Int.reduceAdd, Int.reduceSub, ↓reduceIte, Int.reduceToNat, Nat.reduceShiftRight, Nat.reduceAnd, ixa_ok, ldc_cells, z2, z3]
    refine arena_Kind _ _ _ _ _ _ hD _ hxlt _ ?_
    rw [p3]
    simp (disch := first | omega | (show allOne _ = true; simp [allOne, Value.oneCell']) | (simp only [List.length_cons, List.length_nil, List.length_set, List.length_map, List.length_replicate, List.length_append, List.length_take, List.length_drop, Int.toNat_natCast, Int.toNat_of_nonneg, nx_push, nx_set, nx_kill]; done) | (simp only [List.length_cons, List.length_nil, List.length_set, List.length_map, List.length_replicate, List.length_append, List.length_take, List.length_drop, Int.toNat_natCast, Int.toNat_of_nonneg, nx_push, nx_set, nx_kill]; omega)) only [go_sem, reduceCtorEq, Nat.reduceAdd, Nat.reduceSub, Nat.reduceMul, Nat.reduceLT, Nat.reduceLeDiff, Nat.reduceEqDiff, Nat.reduceBEq, Nat.reduceBNe, Int.reduceBEq, Int.reduceEq, Int.reduceLT, Int.reduceLE, Int.reduceAdd, Int.reduceSub, ↓reduceIte, Int.reduceToNat, Nat.reduceShiftRight, Nat.reduceAnd]
    refine arena_Used _ _ _ _ _ _ hD _ ?_
    rw [hu3]
    simp (disch := first | omega | (show allOne _ = true; simp [allOne, Value.oneCell']) | (simp only [List.length_cons, List.length_nil, List.length_set, List.length_map, List.length_replicate, List.length_append, List.length_take, List.length_drop, Int.toNat_natCast, Int.toNat_of_nonneg, nx_push, nx_set, nx_kill]; done) | (simp only [List.length_cons, List.length_nil, List.length_set, List.length_map, List.length_replicate, List.length_append, List.length_take, List.length_drop, Int.toNat_natCast, Int.toNat_of_nonneg, nx_push, nx_set, nx_kill]; omega)) only [go_sem, reduceCtorEq, Nat.reduceAdd, Nat.reduceSub, Nat.reduceMul, Nat.reduceLT, Nat.reduceLeDiff, Nat.reduceEqDiff, Nat.reduceBEq, Nat.reduceBNe, Int.reduceBEq, Int.reduceEq, Int.reduceLT, Int.reduceLE, Int.reduceAdd, Int.reduceSub, ↓reduceIte, Int.reduceToNat, Nat.reduceShiftRight, Nat.reduceAnd]
    refine arena_Used _ _ _ _ _ _ hC9 _ ?_
    rw [hu9]
    simp (disch := first | omega | (show allOne _ = true; simp [allOne, Value.oneCell']) | (simp only [List.length_cons, List.length_nil, List.length_set, List.length_map, List.length_replicate, List.length_append, List.length_take, List.length_drop, Int.toNat_natCast, Int.toNat_of_nonneg, nx_push, nx_set, nx_kill]; done) | (simp only [List.length_cons, List.length_nil, List.length_set, List.length_map, List.length_replicate, List.length_append, List.length_take, List.length_drop, Int.toNat_natCast, Int.toNat_of_nonneg, nx_push, nx_set, nx_kill]; omega)) only [go_sem, reduceCtorEq, Nat.reduceAdd, Nat.reduceSub, Nat.reduceMul, Nat.reduceLT, Nat.reduceLeDiff, Nat.reduceEqDiff, Nat.reduceBEq, Nat.reduceBNe, Int.reduceBEq, Int.reduceEq, Int.reduceLT, Int.reduceLE, Int.reduceAdd, Int.reduceSub, ↓reduceIte, Int.reduceToNat, Nat.reduceShiftRight, Nat.reduceAnd]
    exact hR _
  · rw [if_neg (by omega)] at hC
    rw [if_pos ⟨by omega, by omega⟩, if_neg (by omega)]
    simp (disch := first | omega | (show allOne _ = true; simp [allOne, Value.oneCell']) | (simp only [List.length_cons, List.length_nil, List.length_set, List.length_map, List.length_replicate, List.length_append, List.length_take, List.length_drop, Int.toNat_natCast, Int.toNat_of_nonneg, nx_push, nx_set, nx_kill]; done) | (simp only [List.length_cons, List.length_nil, List.length_set, List.length_map, List.length_replicate, List.length_append, List.length_take, List.length_drop, Int.toNat_natCast, Int.toNat_of_nonneg, nx_push, nx_set, nx_kill]; omega)) only [go_sem, reduceCtorEq, Nat.reduceAdd, Nat.reduceSub, Nat.reduceMul, Nat.reduceLT, Nat.reduceLeDiff, Nat.reduceEqDiff, Nat.reduceBEq, Nat.reduceBNe, Int.reduceBEq, Int.reduceEq, Int.reduceLT, Int.reduceLE, Int.reduceAdd, Int.reduceSub, ↓reduceIte, Int.reduceToNat, Nat.reduceShiftRight, Nat.reduceAnd]
    refine arena_Size _ _ _ _ _ _ hC _ ?_
    simp (disch := first | omega | (show allOne _ = true; simp [allOne, Value.oneCell']) | (simp only [List.length_cons, List.length_nil, List.length_set, List.length_map, List.length_replicate, List.length_append, List.length_take, List.length_drop, Int.toNat_natCast, Int.toNat_of_nonneg, nx_push, nx_set, nx_kill]; done) | (simp only [List.length_cons, List.length_nil, List.length_set, List.length_map, List.length_replicate, List.length_append, List.length_take, List.length_drop, Int.toNat_natCast, Int.toNat_of_nonneg, nx_push, nx_set, nx_kill]; omega)) only [go_sem, reduceCtorEq, Nat.reduceAdd, Nat.reduceSub, Nat.reduceMul, Nat.reduceLT, Nat.reduceLeDiff, Nat.reduceEqDiff, Nat.reduceBEq, Nat.reduceBNe, Int.reduceBEq, Int.reduceEq, Int.reduceLT, Int.reduceLE, Int.reduceAdd, Int.reduceSub, ↓reduceIte, Int.reduceToNat, Nat.reduceShiftRight, Nat.reduceAnd]
    refine arena_Used _ _ _ _ _ _ hC _ ?_
    simp (disch := first | omega | (show allOne _ = true; simp [allOne, Value.oneCell']) | (simp only [List.length_cons, List.length_nil, List.length_set, List.length_map, List.length_replicate, List.length_append, List.length_take, List.length_drop, Int.toNat_natCast, Int.toNat_of_nonneg, nx_push, nx_set, nx_kill]; done) | (simp only [List.length_cons, List.length_nil, List.length_set, List.length_map, List.length_replicate, List.length_append, List.length_take, List.length_drop, Int.toNat_natCast, Int.toNat_of_nonneg, nx_push, nx_set, nx_kill]; omega)) only [go_sem, reduceCtorEq, Nat.reduceAdd, Nat.reduceSub, Nat.reduceMul, Nat.reduceLT, Nat.reduceLeDiff, Nat.reduceEqDiff, Nat.reduceBEq, Nat.reduceBNe, Int.reduceBEq, Int.reduceEq, Int.reduceLT, Int.reduceLE, Int.reduceAdd, Int.reduceSub, ↓reduceIte, Int.reduceToNat, Nat.reduceShiftRight, Nat.reduceAnd]
    exact hR _
end Go.HL
/-
  Walks: laws, on: without anything to begin at.
-/
namespace Go.HL
open Go.RowKit Go.Proofs
set_option maxHeartbeats 4000000
set_option maxRecDepth 100000
set_option linter.unusedSimpArgs false
set_option linter.unusedVariables false

theorem arena_New0 (H : HHeap) (R : Value → HHeap → Prop) (hR : R (.tuple #[.pointer none, I 1]) H) : HCalls Try.prog 24 [I 0] H R := by
  refine HCalls.of_hw Try.func24 rfl _ Try.ntmps24 _ (by rw [Try.results24]) ?_
  rw [hframe0_eq _ _ (by simp)]
  simp only [List.zipIdx_cons, List.zipIdx_nil, List.map_cons, List.map_nil, Nat.reduceAdd]
  simp (disch := first | omega | (show allOne _ = true; simp [allOne, Value.oneCell']) | (simp only [List.length_cons, List.length_nil, List.length_set, List.length_map, List.length_replicate, List.length_append, List.length_take, List.length_drop, Int.toNat_natCast, Int.toNat_of_nonneg, nx_push, nx_set, nx_kill]; done) | (simp only [List.length_cons, List.length_nil, List.length_set, List.length_map, List.length_replicate, List.length_append, List.length_take, List.length_drop, Int.toNat_natCast, Int.toNat_of_nonneg, nx_push, nx_set, nx_kill]; omega)) only [go_sem, reduceCtorEq, Nat.reduceAdd, Nat.reduceSub, Nat.reduceMul, Nat.reduceLT, Nat.reduceLeDiff, Nat.reduceEqDiff, Nat.reduceBEq, Nat.reduceBNe, Int.reduceBEq, Int.reduceEq, Int.reduceLT, Int.reduceLE, Int.reduceAdd, Int.reduceSub, ↓reduceIte, Int.reduceToNat, Nat.reduceShiftRight, Nat.reduceAnd]
  exact hR
theorem arena_find0 (H : HHeap) (w : Nat) (hw : w < 18446744073709551616) (R : Value → HHeap → Prop) (hR : R (.tuple #[.slice none 0 0, I 0, .bool false]) H) : HCalls Try.prog 33 [.pointer none, U w] H R := by
  refine HCalls.of_hw Try.func33 rfl _ Try.ntmps33 _ (by rw [Try.results33]) ?_
  rw [hframe0_eq _ _ (by simp)]
  simp only [List.zipIdx_cons, List.zipIdx_nil, List.map_cons, List.map_nil, Nat.reduceAdd]
  simp (disch := first | omega | (show allOne _ = true; simp [allOne, Value.oneCell']) | (simp only [List.length_cons, List.length_nil, List.length_set, List.length_map, List.length_replicate, List.length_append, List.length_take, List.length_drop, Int.toNat_natCast, Int.toNat_of_nonneg, nx_push, nx_set, nx_kill]; done) | (simp only [List.length_cons, List.length_nil, List.length_set, List.length_map, List.length_replicate, List.length_append, List.length_take, List.length_drop, Int.toNat_natCast, Int.toNat_of_nonneg, nx_push, nx_set, nx_kill]; omega)) only [go_sem, reduceCtorEq, Nat.reduceAdd, Nat.reduceSub, Nat.reduceMul, Nat.reduceLT, Nat.reduceLeDiff, Nat.reduceEqDiff, Nat.reduceBEq, Nat.reduceBNe, Int.reduceBEq, Int.reduceEq, Int.reduceLT, Int.reduceLE, Int.reduceAdd, Int.reduceSub, ↓reduceIte, Int.reduceToNat, Nat.reduceShiftRight, Nat.reduceAnd]
  refine word_To w hw _ _ ?_
  rw [toV]
  split
  · rename_i hh
    simp (disch := first | omega | (show allOne _ = true; simp [allOne, Value.oneCell']) | (simp only [List.length_cons, List.length_nil, List.length_set, List.length_map, List.length_replicate, List.length_append, List.length_take, List.length_drop, Int.toNat_natCast, Int.toNat_of_nonneg, nx_push, nx_set, nx_kill]; done) | (simp only [List.length_cons, List.length_nil, List.length_set, List.length_map, List.length_replicate, List.length_append, List.length_take, List.length_drop, Int.toNat_natCast, Int.toNat_of_nonneg, nx_push, nx_set, nx_kill]; omega)) only [go_sem, reduceCtorEq, Nat.reduceAdd, Nat.reduceSub, Nat.reduceMul, Nat.reduceLT, Nat.reduceLeDiff, Nat.reduceEqDiff, Nat.reduceBEq, Nat.reduceBNe, Int.reduceBEq, Int.reduceEq, Int.reduceLT, Int.reduceLE, Int.reduceAdd, Int.reduceSub, ↓reduceIte, Int.reduceToNat, Nat.reduceShiftRight, Nat.reduceAnd]
    refine arena_Used0 _ _ ?_
    simp (disch := first | omega | (show allOne _ = true; simp [allOne, Value.oneCell']) | (simp only [List.length_cons, List.length_nil, List.length_set, List.length_map, List.length_replicate, List.length_append, List.length_take, List.length_drop, Int.toNat_natCast, Int.toNat_of_nonneg, nx_push, nx_set, nx_kill]; done) | (simp only [List.length_cons, List.length_nil, List.length_set, List.length_map, List.length_replicate, List.length_append, List.length_take, List.length_drop, Int.toNat_natCast, Int.toNat_of_nonneg, nx_push, nx_set, nx_kill]; omega)) only [go_sem, reduceCtorEq, Nat.reduceAdd, Nat.reduceSub, Nat.reduceMul, Nat.reduceLT, Nat.reduceLeDiff, Nat.reduceEqDiff, Nat.reduceBEq, Nat.reduceBNe, Int.reduceBEq, Int.reduceEq, Int.reduceLT, Int.reduceLE, Int.reduceAdd, Int.reduceSub, ↓reduceIte, Int.reduceToNat, Nat.reduceShiftRight, Nat.reduceAnd]
    exact hR
  · simp (disch := first | omega | (show allOne _ = true; simp [allOne, Value.oneCell']) | (simp only [List.length_cons, List.length_nil, List.length_set, List.length_map, List.length_replicate, List.length_append, List.length_take, List.length_drop, Int.toNat_natCast, Int.toNat_of_nonneg, nx_push, nx_set, nx_kill]; done) | (simp only [List.length_cons, List.length_nil, List.length_set, List.length_map, List.length_replicate, List.length_append, List.length_take, List.length_drop, Int.toNat_natCast, Int.toNat_of_nonneg, nx_push, nx_set, nx_kill]; omega)) only [go_sem, reduceCtorEq, Nat.reduceAdd, Nat.reduceSub, Nat.reduceMul, Nat.reduceLT, Nat.reduceLeDiff, Nat.reduceEqDiff, Nat.reduceBEq, Nat.reduceBNe, Int.reduceBEq, Int.reduceEq, Int.reduceLT, Int.reduceLE, Int.reduceAdd, Int.reduceSub, ↓reduceIte, Int.reduceToNat, Nat.reduceShiftRight, Nat.reduceAnd]
    exact hR
theorem arena_Kind0 (H : HHeap) (w : Nat) (hw : w < 18446744073709551616) (R : Value → HHeap → Prop) (hR : R (I 0) H) : HCalls Try.prog 18 [.pointer none, U w] H R := by
  refine HCalls.of_hw Try.func18 rfl _ Try.ntmps18 _ (by rw [Try.results18]) ?_
  rw [hframe0_eq _ _ (by simp)]
  simp only [List.zipIdx_cons, List.zipIdx_nil, List.map_cons, List.map_nil, Nat.reduceAdd]
  simp (disch := first | omega | (show allOne _ = true; simp [allOne, Value.oneCell']) | (simp only [List.length_cons, List.length_nil, List.length_set, List.length_map, List.length_replicate, List.length_append, List.length_take, List.length_drop, Int.toNat_natCast, Int.toNat_of_nonneg, nx_push, nx_set, nx_kill]; done) | (simp only [List.length_cons, List.length_nil, List.length_set, List.length_map, List.length_replicate, List.length_append, List.length_take, List.length_drop, Int.toNat_natCast, Int.toNat_of_nonneg, nx_push, nx_set, nx_kill]; omega)) only [go_sem, reduceCtorEq, Nat.reduceAdd, Nat.reduceSub, Nat.reduceMul, Nat.reduceLT, Nat.reduceLeDiff, Nat.reduceEqDiff, Nat.reduceBEq, Nat.reduceBNe, Int.reduceBEq, Int.reduceEq, Int.reduceLT, Int.reduceLE, Int.reduceAdd, Int.reduceSub, ↓reduceIte, Int.reduceToNat, Nat.reduceShiftRight, Nat.reduceAnd]
  refine arena_find0 _ w hw _ ?_
  simp (disch := first | omega | (show allOne _ = true; simp [allOne, Value.oneCell']) | (simp only [List.length_cons, List.length_nil, List.length_set, List.length_map, List.length_replicate, List.length_append, List.length_take, List.length_drop, Int.toNat_natCast, Int.toNat_of_nonneg, nx_push, nx_set, nx_kill]; done) | (simp only [List.length_cons, List.length_nil, List.length_set, List.length_map, List.length_replicate, List.length_append, List.length_take, List.length_drop, Int.toNat_natCast, Int.toNat_of_nonneg, nx_push, nx_set, nx_kill]; omega)) only [go_sem, reduceCtorEq, Nat.reduceAdd, Nat.reduceSub, Nat.reduceMul, Nat.reduceLT, Nat.reduceLeDiff, Nat.reduceEqDiff, Nat.reduceBEq, Nat.reduceBNe, Int.reduceBEq, Int.reduceEq, Int.reduceLT, Int.reduceLE, Int.reduceAdd, Int.reduceSub, ↓reduceIte, Int.reduceToNat, Nat.reduceShiftRight, Nat.reduceAnd]
  exact hR
theorem move_Live0 (H : HHeap) (w : Nat) (b : Nat) (hb : H.get b = some (.cells [U w] true)) (R : Value → HHeap → Prop) (hR : ∀ H', MadeAt H' (.slice (some ⟨H.next, 0, some 2⟩) 1 1) [w] → (∀ x, x < H.next → H'.get x = H.get x) → H'.next = H.next + 1 → R (.tuple #[.pointer none, .slice (some ⟨H.next, 0, some 2⟩) 1 1]) H') :
    HCalls Try.prog 12 [.pointer none, .slice (some ⟨b, 0, none⟩) 1 1] H R := by
  refine HCalls.of_hw Try.func12 rfl _ Try.ntmps12 _ (by rw [Try.results12]) ?_
  rw [hframe0_eq _ _ (by simp)]
  simp only [List.zipIdx_cons, List.zipIdx_nil, List.map_cons, List.map_nil, Nat.reduceAdd]
  simp (disch := first | omega | (show allOne _ = true; simp [allOne, Value.oneCell']) | (simp only [List.length_cons, List.length_nil, List.length_set, List.length_map, List.length_replicate, List.length_append, List.length_take, List.length_drop, Int.toNat_natCast, Int.toNat_of_nonneg, nx_push, nx_set, nx_kill]; done) | (simp only [List.length_cons, List.length_nil, List.length_set, List.length_map, List.length_replicate, List.length_append, List.length_take, List.length_drop, Int.toNat_natCast, Int.toNat_of_nonneg, nx_push, nx_set, nx_kill]; omega)) only [go_sem, reduceCtorEq, Nat.reduceAdd, Nat.reduceSub, Nat.reduceMul, Nat.reduceLT, Nat.reduceLeDiff, Nat.reduceEqDiff, Nat.reduceBEq, Nat.reduceBNe, Int.reduceBEq, Int.reduceEq, Int.reduceLT, Int.reduceLE, Int.reduceAdd, Int.reduceSub, ↓reduceIte, Int.reduceToNat, Nat.reduceShiftRight, Nat.reduceAnd]
  refine arena_Size0 _ _ ?_
  simp (disch := first | omega | (show allOne _ = true; simp [allOne, Value.oneCell']) | (simp only [List.length_cons, List.length_nil, List.length_set, List.length_map, List.length_replicate, List.length_append, List.length_take, List.length_drop, Int.toNat_natCast, Int.toNat_of_nonneg, nx_push, nx_set, nx_kill]; done) | (simp only [List.length_cons, List.length_nil, List.length_set, List.length_map, List.length_replicate, List.length_append, List.length_take, List.length_drop, Int.toNat_natCast, Int.toNat_of_nonneg, nx_push, nx_set, nx_kill]; omega)) only [go_sem, reduceCtorEq, Nat.reduceAdd, Nat.reduceSub, Nat.reduceMul, Nat.reduceLT, Nat.reduceLeDiff, Nat.reduceEqDiff, Nat.reduceBEq, Nat.reduceBNe, Int.reduceBEq, Int.reduceEq, Int.reduceLT, Int.reduceLE, Int.reduceAdd, Int.reduceSub, ↓reduceIte, Int.reduceToNat, Nat.reduceShiftRight, Nat.reduceAnd]
  refine arena_New0 _ _ ?_
  simp (disch := first | omega | (show allOne _ = true; simp [allOne, Value.oneCell']) | (simp only [List.length_cons, List.length_nil, List.length_set, List.length_map, List.length_replicate, List.length_append, List.length_take, List.length_drop, Int.toNat_natCast, Int.toNat_of_nonneg, nx_push, nx_set, nx_kill]; done) | (simp only [List.length_cons, List.length_nil, List.length_set, List.length_map, List.length_replicate, List.length_append, List.length_take, List.length_drop, Int.toNat_natCast, Int.toNat_of_nonneg, nx_push, nx_set, nx_kill]; omega)) only [go_sem, reduceCtorEq, Nat.reduceAdd, Nat.reduceSub, Nat.reduceMul, Nat.reduceLT, Nat.reduceLeDiff, Nat.reduceEqDiff, Nat.reduceBEq, Nat.reduceBNe, Int.reduceBEq, Int.reduceEq, Int.reduceLT, Int.reduceLE, Int.reduceAdd, Int.reduceSub, ↓reduceIte, Int.reduceToNat, Nat.reduceShiftRight, Nat.reduceAnd, hsource_slice, hb, hsrc_cells, List.drop_zero, List.take_succ_cons, List.take_zero, apd_nil]
  exact hR _ (.inr ⟨H.next, by simp, rfl, by simp (disch := first | omega | (simp only [nx_push, nx_set, nx_kill]; done) | (simp only [nx_push, nx_set, nx_kill]; omega)) only [get_push_ne, get_push_eq, get_set_ne, get_set_eq, get_kill_ne, nx_push, nx_set, nx_kill]; omega, by simp (disch := first | omega | (simp only [nx_push, nx_set, nx_kill]; done) | (simp only [nx_push, nx_set, nx_kill]; omega)) only [get_push_ne, get_push_eq, get_set_ne, get_set_eq, get_kill_ne, nx_push, nx_set, nx_kill]; rfl⟩) (fun x hx => by simp (disch := first | omega | (simp only [nx_push, nx_set, nx_kill]; done) | (simp only [nx_push, nx_set, nx_kill]; omega)) only [get_push_ne, get_push_eq, get_set_ne, get_set_eq, get_kill_ne, nx_push, nx_set, nx_kill]) (by simp (disch := first | omega | (simp only [nx_push, nx_set, nx_kill]; done) | (simp only [nx_push, nx_set, nx_kill]; omega)) only [get_push_ne, get_push_eq, get_set_ne, get_set_eq, get_kill_ne, nx_push, nx_set, nx_kill])
theorem move_Reach0 (H : HHeap) (w : Nat) (hw : w < 18446744073709551616) (b : Nat) (hb : H.get b = some (.cells [U w] true)) (R : Value → HHeap → Prop) (hR : ∀ H', (∀ x, x < H.next → H'.get x = H.get x) → H.next ≤ H'.next → R (I 0) H') :
    HCalls Try.prog 16 [.pointer none, .slice (some ⟨b, 0, none⟩) 1 1] H R := by
  refine HCalls.ok fun hok => ?_
  have hbl := hok _ _ hb
  refine HCalls.of_hw Try.func16 rfl _ Try.ntmps16 _ (by rw [Try.results16]) ?_
  rw [hframe0_eq _ _ (by simp)]
  simp only [List.zipIdx_cons, List.zipIdx_nil, List.map_cons, List.map_nil, Nat.reduceAdd]
  simp (disch := first | omega | (show allOne _ = true; simp [allOne, Value.oneCell']) | (simp only [List.length_cons, List.length_nil, List.length_set, List.length_map, List.length_replicate, List.length_append, List.length_take, List.length_drop, Int.toNat_natCast, Int.toNat_of_nonneg, nx_push, nx_set, nx_kill]; done) | (simp only [List.length_cons, List.length_nil, List.length_set, List.length_map, List.length_replicate, List.length_append, List.length_take, List.length_drop, Int.toNat_natCast, Int.toNat_of_nonneg, nx_push, nx_set, nx_kill]; omega)) only [go_sem, reduceCtorEq, Nat.reduceAdd, Nat.reduceSub, Nat.reduceMul, Nat.reduceLT, Nat.reduceLeDiff, Nat.reduceEqDiff, Nat.reduceBEq, Nat.reduceBNe, Int.reduceBEq, Int.reduceEq, Int.reduceLT, Int.reduceLE, Int.reduceAdd, Int.reduceSub, ↓reduceIte, Int.reduceToNat, Nat.reduceShiftRight, Nat.reduceAnd, hsource_slice, hb, hsrc_cells, List.drop_zero, List.take_succ_cons, List.take_zero, apd_nil]
  refine Hwp.loop (fun n fr H' => n ≤ 1 ∧ H' = (H.push (.map [])).push (.cells [U w] true) ∧ FLe (hfr 50 [(7, .slice (some ⟨H.next + 1, 0, some 2⟩) n 1), (6, I 0), (5, .map (some H.next)), (0, .pointer none)]) fr) 1 ?_ ?_
  · exact ⟨Nat.le_refl _, rfl, fle_of (by simp [flook])⟩
  · rintro n fr H' ⟨hn, rfl, hle⟩
    refine Hwp.weaken hle (HW.sound _ _ _ _ ?_)
    by_cases hc : n = 1
    · subst hc
      have hg : ((H.push (.map [])).push (.cells [U w] true)).get (H.next + 1) = some (.cells [U w] true) := by simp (disch := first | omega | (simp only [nx_push, nx_set, nx_kill]; done) | (simp only [nx_push, nx_set, nx_kill]; omega)) only [get_push_ne, get_push_eq, get_set_ne, get_set_eq, get_kill_ne, nx_push, nx_set, nx_kill]
      have hm : ((H.push (.map [])).push (.cells [U w] true)).get H.next = some (.map (map1 [])) := by simp (disch := first | omega | (simp only [nx_push, nx_set, nx_kill]; done) | (simp only [nx_push, nx_set, nx_kill]; omega)) only [get_push_ne, get_push_eq, get_set_ne, get_set_eq, get_kill_ne, nx_push, nx_set, nx_kill]; rfl
      have hlk := lk73_no hm (w := w) (by simp)
      have hsl : slg (H.next + 1) 0 1 2 1 1 none (some (.int .i64 0)) none = some (.slice (some ⟨H.next + 1, 0, some 2⟩) 0 1) := by unfold slg; simp [hbound]
      have hone : ((1 : Nat) : Int) = 1 := rfl
      simp (disch := first | omega | (show allOne _ = true; simp [allOne, Value.oneCell']) | (simp only [List.length_cons, List.length_nil, List.length_set, List.length_map, List.length_replicate, List.length_append, List.length_take, List.length_drop, Int.toNat_natCast, Int.toNat_of_nonneg, nx_push, nx_set, nx_kill]; done) | (simp only [List.length_cons, List.length_nil, List.length_set, List.length_map, List.length_replicate, List.length_append, List.length_take, List.length_drop, Int.toNat_natCast, Int.toNat_of_nonneg, nx_push, nx_set, nx_kill]; omega)) only [go_sem, reduceCtorEq, Nat.reduceAdd, Nat.reduceSub, Nat.reduceMul, Nat.reduceLT, Nat.reduceLeDiff, Nat.reduceEqDiff, Nat.reduceBEq, Nat.reduceBNe, Int.reduceBEq, Int.reduceEq, Int.reduceLT, Int.reduceLE, Int.reduceAdd, Int.reduceSub, ↓reduceIte, Int.reduceToNat, Nat.reduceShiftRight, Nat.reduceAnd, hone, hg, ixa_ok, ldc_cells, hsl, hlk]
      refine arena_Kind0 _ w hw _ ?_
      simp (disch := first | omega | (show allOne _ = true; simp [allOne, Value.oneCell']) | (simp only [List.length_cons, List.length_nil, List.length_set, List.length_map, List.length_replicate, List.length_append, List.length_take, List.length_drop, Int.toNat_natCast, Int.toNat_of_nonneg, nx_push, nx_set, nx_kill]; done) | (simp only [List.length_cons, List.length_nil, List.length_set, List.length_map, List.length_replicate, List.length_append, List.length_take, List.length_drop, Int.toNat_natCast, Int.toNat_of_nonneg, nx_push, nx_set, nx_kill]; omega)) only [go_sem, reduceCtorEq, Nat.reduceAdd, Nat.reduceSub, Nat.reduceMul, Nat.reduceLT, Nat.reduceLeDiff, Nat.reduceEqDiff, Nat.reduceBEq, Nat.reduceBNe, Int.reduceBEq, Int.reduceEq, Int.reduceLT, Int.reduceLE, Int.reduceAdd, Int.reduceSub, ↓reduceIte, Int.reduceToNat, Nat.reduceShiftRight, Nat.reduceAnd]
      exact ⟨0, by omega, by omega, fle_of (by simp [flook])⟩
    · have h0 : n = 0 := by omega
      subst h0
      simp (disch := first | omega | (show allOne _ = true; simp [allOne, Value.oneCell']) | (simp only [List.length_cons, List.length_nil, List.length_set, List.length_map, List.length_replicate, List.length_append, List.length_take, List.length_drop, Int.toNat_natCast, Int.toNat_of_nonneg, nx_push, nx_set, nx_kill]; done) | (simp only [List.length_cons, List.length_nil, List.length_set, List.length_map, List.length_replicate, List.length_append, List.length_take, List.length_drop, Int.toNat_natCast, Int.toNat_of_nonneg, nx_push, nx_set, nx_kill]; omega)) only [go_sem, reduceCtorEq, Nat.reduceAdd, Nat.reduceSub, Nat.reduceMul, Nat.reduceLT, Nat.reduceLeDiff, Nat.reduceEqDiff, Nat.reduceBEq, Nat.reduceBNe, Int.reduceBEq, Int.reduceEq, Int.reduceLT, Int.reduceLE, Int.reduceAdd, Int.reduceSub, ↓reduceIte, Int.reduceToNat, Nat.reduceShiftRight, Nat.reduceAnd]
      exact hR _ (fun x hx => by simp (disch := first | omega | (simp only [nx_push, nx_set, nx_kill]; done) | (simp only [nx_push, nx_set, nx_kill]; omega)) only [get_push_ne, get_push_eq, get_set_ne, get_set_eq, get_kill_ne, nx_push, nx_set, nx_kill]) (by simp (disch := first | omega | (simp only [nx_push, nx_set, nx_kill]; done) | (simp only [nx_push, nx_set, nx_kill]; omega)) only [get_push_ne, get_push_eq, get_set_ne, get_set_eq, get_kill_ne, nx_push, nx_set, nx_kill]; omega)

theorem law_bare (w : Nat) (hw : w < 18446744073709551616) (H : HHeap) (R : Value → HHeap → Prop) (hR : R (U (bareN w)) H) : HCalls Try.prog 19 [U w] H R := by
  refine HCalls.of_hw Try.func19 rfl _ Try.ntmps19 _ (by rw [Try.results19]) ?_
  rw [hframe0_eq _ _ (by simp)]
  simp only [List.zipIdx_cons, List.zipIdx_nil, List.map_cons, List.map_nil, Nat.reduceAdd]
  simp (disch := first | omega | (show allOne _ = true; simp [allOne, Value.oneCell']) | (simp only [List.length_cons, List.length_nil, List.length_set, List.length_map, List.length_replicate, List.length_append, List.length_take, List.length_drop, Int.toNat_natCast, Int.toNat_of_nonneg, nx_push, nx_set, nx_kill]; done) | (simp only [List.length_cons, List.length_nil, List.length_set, List.length_map, List.length_replicate, List.length_append, List.length_take, List.length_drop, Int.toNat_natCast, Int.toNat_of_nonneg, nx_push, nx_set, nx_kill]; omega)) only [go_sem, reduceCtorEq, Nat.reduceAdd, Nat.reduceSub, Nat.reduceMul, Nat.reduceLT, Nat.reduceLeDiff, Nat.reduceEqDiff, Nat.reduceBEq, Nat.reduceBNe, Int.reduceBEq, Int.reduceEq, Int.reduceLT, Int.reduceLE, Int.reduceAdd, Int.reduceSub, ↓reduceIte, Int.reduceToNat, Nat.reduceShiftRight, Nat.reduceAnd]
  refine r01_To w hw _ _ ?_
  rw [bareN] at hR
  rw [toV]
  split
  · rename_i hh; rw [if_pos hh] at hR
    simp (disch := first | omega | (show allOne _ = true; simp [allOne, Value.oneCell']) | (simp only [List.length_cons, List.length_nil, List.length_set, List.length_map, List.length_replicate, List.length_append, List.length_take, List.length_drop, Int.toNat_natCast, Int.toNat_of_nonneg, nx_push, nx_set, nx_kill]; done) | (simp only [List.length_cons, List.length_nil, List.length_set, List.length_map, List.length_replicate, List.length_append, List.length_take, List.length_drop, Int.toNat_natCast, Int.toNat_of_nonneg, nx_push, nx_set, nx_kill]; omega)) only [go_sem, reduceCtorEq, Nat.reduceAdd, Nat.reduceSub, Nat.reduceMul, Nat.reduceLT, Nat.reduceLeDiff, Nat.reduceEqDiff, Nat.reduceBEq, Nat.reduceBNe, Int.reduceBEq, Int.reduceEq, Int.reduceLT, Int.reduceLE, Int.reduceAdd, Int.reduceSub, ↓reduceIte, Int.reduceToNat, Nat.reduceShiftRight, Nat.reduceAnd]
    exact hR
  · rename_i hh; rw [if_neg hh] at hR
    simp (disch := first | omega | (show allOne _ = true; simp [allOne, Value.oneCell']) | (simp only [List.length_cons, List.length_nil, List.length_set, List.length_map, List.length_replicate, List.length_append, List.length_take, List.length_drop, Int.toNat_natCast, Int.toNat_of_nonneg, nx_push, nx_set, nx_kill]; done) | (simp only [List.length_cons, List.length_nil, List.length_set, List.length_map, List.length_replicate, List.length_append, List.length_take, List.length_drop, Int.toNat_natCast, Int.toNat_of_nonneg, nx_push, nx_set, nx_kill]; omega)) only [go_sem, reduceCtorEq, Nat.reduceAdd, Nat.reduceSub, Nat.reduceMul, Nat.reduceLT, Nat.reduceLeDiff, Nat.reduceEqDiff, Nat.reduceBEq, Nat.reduceBNe, Int.reduceBEq, Int.reduceEq, Int.reduceLT, Int.reduceLE, Int.reduceAdd, Int.reduceSub, ↓reduceIte, Int.reduceToNat, Nat.reduceShiftRight, Nat.reduceAnd]
    exact hR

theorem law_MoveNone (H : HHeap) (v : Value) (roots0 : List Nat) (hv : HeapArg H v roots0) (w : Nat) (hw : w < 18446744073709551616) (R : Value → HHeap → Prop) (hR : ∀ H', R (.bool true) H') : HCalls Try.prog 6 [v, U w] H R := by
  refine HCalls.ok fun hok => ?_
  have hv1 := hv
  obtain ⟨⟨size, tv0, rv0, kk, cells, rfl, _, ⟨_, _, ta, tc, rfl, _⟩, ⟨_, _, ra, rc, rfl, _⟩, _⟩, _⟩ := hv1
  refine HCalls.of_hw Try.func6 rfl _ Try.ntmps6 _ (by rw [Try.results6]) ?_
  rw [hframe0_eq _ _ (by simp)]
  simp only [List.zipIdx_cons, List.zipIdx_nil, List.map_cons, List.map_nil, Nat.reduceAdd]
  simp (disch := first | omega | (show allOne _ = true; simp [allOne, Value.oneCell']) | (simp only [List.length_cons, List.length_nil, List.length_set, List.length_map, List.length_replicate, List.length_append, List.length_take, List.length_drop, Int.toNat_natCast, Int.toNat_of_nonneg, nx_push, nx_set, nx_kill]; done) | (simp only [List.length_cons, List.length_nil, List.length_set, List.length_map, List.length_replicate, List.length_append, List.length_take, List.length_drop, Int.toNat_natCast, Int.toNat_of_nonneg, nx_push, nx_set, nx_kill]; omega)) only [go_sem, reduceCtorEq, Nat.reduceAdd, Nat.reduceSub, Nat.reduceMul, Nat.reduceLT, Nat.reduceLeDiff, Nat.reduceEqDiff, Nat.reduceBEq, Nat.reduceBNe, Int.reduceBEq, Int.reduceEq, Int.reduceLT, Int.reduceLE, Int.reduceAdd, Int.reduceSub, ↓reduceIte, Int.reduceToNat, Nat.reduceShiftRight, Nat.reduceAnd, hbox_agg]
  refine law_shown _ _ ?_
  intro H0 hk0 hn0
  rw [nx_push] at hk0 hn0
  have hb0 : H0.get H.next = some (.cells [I size, .slice ta kk tc, .slice ra roots0.length rc] true) := by rw [hk0 _ (by omega)]; simp (disch := first | omega | (simp only [nx_push, nx_set, nx_kill]; done) | (simp only [nx_push, nx_set, nx_kill]; omega)) only [get_push_ne, get_push_eq, get_set_ne, get_set_eq, get_kill_ne, nx_push, nx_set, nx_kill]
  have hv0 : HeapArg H0 (.agg #[I size, .slice ta kk tc, .slice ra roots0.length rc]) roots0 := hv.old hok (fun b hb => by rw [hk0 b (by omega)]; simp (disch := first | omega | (simp only [nx_push, nx_set, nx_kill]; done) | (simp only [nx_push, nx_set, nx_kill]; omega)) only [get_push_ne, get_push_eq, get_set_ne, get_set_eq, get_kill_ne, nx_push, nx_set, nx_kill])
  have h3 : ∀ x y z : Value, ([x, y, z].drop 0).take 3 = [x, y, z] := fun _ _ _ => rfl
  simp (disch := first | omega | (show allOne _ = true; simp [allOne, Value.oneCell']) | (simp only [List.length_cons, List.length_nil, List.length_set, List.length_map, List.length_replicate, List.length_append, List.length_take, List.length_drop, Int.toNat_natCast, Int.toNat_of_nonneg, nx_push, nx_set, nx_kill]; done) | (simp only [List.length_cons, List.length_nil, List.length_set, List.length_map, List.length_replicate, List.length_append, List.length_take, List.length_drop, Int.toNat_natCast, Int.toNat_of_nonneg, nx_push, nx_set, nx_kill]; omega)) only [go_sem, reduceCtorEq, Nat.reduceAdd, Nat.reduceSub, Nat.reduceMul, Nat.reduceLT, Nat.reduceLeDiff, Nat.reduceEqDiff, Nat.reduceBEq, Nat.reduceBNe, Int.reduceBEq, Int.reduceEq, Int.reduceLT, Int.reduceLE, Int.reduceAdd, Int.reduceSub, ↓reduceIte, Int.reduceToNat, Nat.reduceShiftRight, Nat.reduceAnd, hb0, lda_cells, h3]
  refine law_build _ _ roots0 hv0 _ ?_
  intro H1 n g gw gh gr T tv lvs rv n1 n2 hA hRf hrv hk1 hn1 hg hsep
  simp (disch := first | omega | (show allOne _ = true; simp [allOne, Value.oneCell']) | (simp only [List.length_cons, List.length_nil, List.length_set, List.length_map, List.length_replicate, List.length_append, List.length_take, List.length_drop, Int.toNat_natCast, Int.toNat_of_nonneg, nx_push, nx_set, nx_kill]; done) | (simp only [List.length_cons, List.length_nil, List.length_set, List.length_map, List.length_replicate, List.length_append, List.length_take, List.length_drop, Int.toNat_natCast, Int.toNat_of_nonneg, nx_push, nx_set, nx_kill]; omega)) only [go_sem, reduceCtorEq, Nat.reduceAdd, Nat.reduceSub, Nat.reduceMul, Nat.reduceLT, Nat.reduceLeDiff, Nat.reduceEqDiff, Nat.reduceBEq, Nat.reduceBNe, Int.reduceBEq, Int.reduceEq, Int.reduceLT, Int.reduceLE, Int.reduceAdd, Int.reduceSub, ↓reduceIte, Int.reduceToNat, Nat.reduceShiftRight, Nat.reduceAnd]
  have hru := hA.room
  have hbig : usedOf T ≤ 65536 := by omega
  refine HCalls.ok fun hok1 => ?_
  refine HCalls.gotOk (move_Live _ _ _ _ _ _ hA (hA.lt hok1) (.slice none 0 0) [] ⟨none, 0, rfl, .inl ⟨rfl, fun _ => rfl⟩⟩ (by simp) (by simp) _ ?_)
  intro H2 g2 gw2 gh2 v2 hB hV2 hk2 hn2 hnew2 hlt2 hvb2 hok2 _
  simp (disch := first | omega | (show allOne _ = true; simp [allOne, Value.oneCell']) | (simp only [List.length_cons, List.length_nil, List.length_set, List.length_map, List.length_replicate, List.length_append, List.length_take, List.length_drop, Int.toNat_natCast, Int.toNat_of_nonneg, nx_push, nx_set, nx_kill]; done) | (simp only [List.length_cons, List.length_nil, List.length_set, List.length_map, List.length_replicate, List.length_append, List.length_take, List.length_drop, Int.toNat_natCast, Int.toNat_of_nonneg, nx_push, nx_set, nx_kill]; omega)) only [go_sem, reduceCtorEq, Nat.reduceAdd, Nat.reduceSub, Nat.reduceMul, Nat.reduceLT, Nat.reduceLeDiff, Nat.reduceEqDiff, Nat.reduceBEq, Nat.reduceBNe, Int.reduceBEq, Int.reduceEq, Int.reduceLT, Int.reduceLE, Int.reduceAdd, Int.reduceSub, ↓reduceIte, Int.reduceToNat, Nat.reduceShiftRight, Nat.reduceAnd]
  have hM0 := moved (T := T) (roots := []) hbig (by simp)
  have hu0 : usedOf (outT T (bfs T [])) = 0 := by rw [outT_used, show bfs T [] = [] by unfold bfs; simp [stepAll, scan]]; rfl
  rw [List.map_nil] at hV2
  have hv2 : v2 = .slice none 0 0 := by
    rcases hV2 with ⟨_, h⟩ | ⟨b, h, _⟩
    · exact h
    · exact absurd rfl h
  subst hv2
  generalize outT T (bfs T []) = T0 at hB hu0
  have hA2 : AtA H2 g gw gh n T := hA.frame (by rintro b (rfl | rfl | rfl) <;> exact hk2 _ (hok1 _ _ (by first | exact hA.a | exact hA.w | exact hA.h)))
  have hAp : AtA (H2.push (.cells [U w, U w] true)) g gw gh n T := hA2.frame (by obtain ⟨a1, a2, a3⟩ := hA2.lt hok2; rintro b (rfl | rfl | rfl) <;> simp (disch := first | omega | (simp only [nx_push, nx_set, nx_kill]; done) | (simp only [nx_push, nx_set, nx_kill]; omega)) only [get_push_ne, get_push_eq, get_set_ne, get_set_eq, get_kill_ne, nx_push, nx_set, nx_kill])
  refine HCalls.ok fun hokp => ?_
  have hrow2 : RowAt (H2.push (.cells [U w, U w] true)) (.slice (some ⟨H2.next, 0, none⟩) 2 2) ([w, w].map U) :=
    ⟨some ⟨H2.next, 0, none⟩, 2, rfl, .inr ⟨H2.next, 0, none, [U w, U w], true, rfl, by simp (disch := first | omega | (simp only [nx_push, nx_set, nx_kill]; done) | (simp only [nx_push, nx_set, nx_kill]; omega)) only [get_push_ne, get_push_eq, get_set_ne, get_set_eq, get_kill_ne, nx_push, nx_set, nx_kill]; omega, by simp (disch := first | omega | (simp only [nx_push, nx_set, nx_kill]; done) | (simp only [nx_push, nx_set, nx_kill]; omega)) only [get_push_ne, get_push_eq, get_set_ne, get_set_eq, get_kill_ne, nx_push, nx_set, nx_kill], fun i v h => by simpa using h⟩⟩
  refine HCalls.gotOk (move_Live _ _ _ _ _ _ hAp (hAp.lt hokp) _ [w, w] hrow2 (by simpa using hw) (by simp) _ ?_)
  intro H3 g3 gw3 gh3 v3 hC hV3 hk3 hn3 hnew3 hlt3 hvb3 hok3 _
  simp (disch := first | omega | (show allOne _ = true; simp [allOne, Value.oneCell']) | (simp only [List.length_cons, List.length_nil, List.length_set, List.length_map, List.length_replicate, List.length_append, List.length_take, List.length_drop, Int.toNat_natCast, Int.toNat_of_nonneg, nx_push, nx_set, nx_kill]; done) | (simp only [List.length_cons, List.length_nil, List.length_set, List.length_map, List.length_replicate, List.length_append, List.length_take, List.length_drop, Int.toNat_natCast, Int.toNat_of_nonneg, nx_push, nx_set, nx_kill]; omega)) only [go_sem, reduceCtorEq, Nat.reduceAdd, Nat.reduceSub, Nat.reduceMul, Nat.reduceLT, Nat.reduceLeDiff, Nat.reduceEqDiff, Nat.reduceBEq, Nat.reduceBNe, Int.reduceBEq, Int.reduceEq, Int.reduceLT, Int.reduceLE, Int.reduceAdd, Int.reduceSub, ↓reduceIte, Int.reduceToNat, Nat.reduceShiftRight, Nat.reduceAnd]
  rw [nx_push] at hn3 hk3
  have hk3' : ∀ b, b < H2.next → H3.get b = H2.get b := fun b hb => by rw [hk3 b (by omega)]; simp (disch := first | omega | (simp only [nx_push, nx_set, nx_kill]; done) | (simp only [nx_push, nx_set, nx_kill]; omega)) only [get_push_ne, get_push_eq, get_set_ne, get_set_eq, get_kill_ne, nx_push, nx_set, nx_kill]
  have hkA : findT T w ≠ none ∨ (tr T (bfs T [w, w]) w = bareN w ∧ usedOf (outT T (bfs T [w, w])) = 0) := by
    cases h : findT T w with
    | some t => left; simp
    | none =>
      right
      have hi : findI T w = none := by
        cases e : findI T w with
        | none => rfl
        | some i =>
          have := findI_lt e
          rw [findT_findI, e, Option.bind_some, List.getElem?_eq_getElem this] at h; cases h
      refine ⟨by unfold tr bareN; rw [hi], ?_⟩
      rw [outT_used]
      have : bfs T [w, w] = [] := by
        unfold bfs
        have : stepAll T [] [w, w] = [] := by simp [stepAll, stepO, hi]
        rw [this]; rfl
      rw [this]; rfl
  have hltx : tr T (bfs T [w, w]) w < 18446744073709551616 := tr_lt (bfs_nodup _ _) (bfs_closed _ _).lt hbig hw (fun i hi => bfs_root (by simp) hi)
  rw [List.map_cons, List.map_cons, List.map_nil] at hV3
  generalize tr T (bfs T [w, w]) w = x at hV3 hkA hltx
  generalize outT T (bfs T [w, w]) = T3 at hC hkA
  obtain ⟨b3, hv3, hb3l, hb3g⟩ : ∃ b3, v3 = .slice (some ⟨b3, 0, some 2⟩) 2 2 ∧ b3 < H3.next ∧ H3.get b3 = some (.cells [U x, U x] true) := by
    rcases hV3 with ⟨h, _⟩ | ⟨b, _, h2, h3, h4⟩
    · simp at h
    · exact ⟨b, h2, h3, h4⟩
  subst hv3
  have hAq : AtA H3 g gw gh n T := hA2.frame (by obtain ⟨a1, a2, a3⟩ := hA2.lt hok2; rintro b (rfl | rfl | rfl) <;> exact hk3' _ (by omega))
  have hB3 : AtA H3 g2 gw2 gh2 n T0 := hB.frame (by obtain ⟨a1, a2, a3⟩ := hlt2; rintro b (rfl | rfl | rfl) <;> exact hk3' _ (by omega))
  refine move_Live0 _ w H3.next (by simp (disch := first | omega | (simp only [nx_push, nx_set, nx_kill]; done) | (simp only [nx_push, nx_set, nx_kill]; omega)) only [get_push_ne, get_push_eq, get_set_ne, get_set_eq, get_kill_ne, nx_push, nx_set, nx_kill]) _ ?_
  intro H4 hV4 hk4 hn4
  rw [nx_push] at hk4 hn4
  have hk4' : ∀ b, b < H3.next → H4.get b = H3.get b := fun b hb => by rw [hk4 b (by omega)]; simp (disch := first | omega | (simp only [nx_push, nx_set, nx_kill]; done) | (simp only [nx_push, nx_set, nx_kill]; omega)) only [get_push_ne, get_push_eq, get_set_ne, get_set_eq, get_kill_ne, nx_push, nx_set, nx_kill]
  have hA4 : AtA H4 g gw gh n T := hAq.frame (by obtain ⟨a1, a2, a3⟩ := hAq.lt hok3; rintro b (rfl | rfl | rfl) <;> exact hk4' _ (by omega))
  have hB4 : AtA H4 g2 gw2 gh2 n T0 := hB3.frame (by obtain ⟨a1, a2, a3⟩ := hB3.lt hok3; rintro b (rfl | rfl | rfl) <;> exact hk4' _ (by omega))
  have hC4 : AtA H4 g3 gw3 gh3 n T3 := hC.frame (by obtain ⟨a1, a2, a3⟩ := hlt3; rintro b (rfl | rfl | rfl) <;> exact hk4' _ (by omega))
  have hb4 : H4.get b3 = some (.cells [U x, U x] true) := by rw [hk4' _ hb3l]; exact hb3g
  clear hV3 hAp hrow2
  simp (disch := first | omega | (show allOne _ = true; simp [allOne, Value.oneCell']) | (simp only [List.length_cons, List.length_nil, List.length_set, List.length_map, List.length_replicate, List.length_append, List.length_take, List.length_drop, Int.toNat_natCast, Int.toNat_of_nonneg, nx_push, nx_set, nx_kill]; done) | (simp only [List.length_cons, List.length_nil, List.length_set, List.length_map, List.length_replicate, List.length_append, List.length_take, List.length_drop, Int.toNat_natCast, Int.toNat_of_nonneg, nx_push, nx_set, nx_kill]; omega)) only [go_sem, reduceCtorEq, Nat.reduceAdd, Nat.reduceSub, Nat.reduceMul, Nat.reduceLT, Nat.reduceLeDiff, Nat.reduceEqDiff, Nat.reduceBEq, Nat.reduceBNe, Int.reduceBEq, Int.reduceEq, Int.reduceLT, Int.reduceLE, Int.reduceAdd, Int.reduceSub, ↓reduceIte, Int.reduceToNat, Nat.reduceShiftRight, Nat.reduceAnd]
  refine Hwp.ok fun hok4 => ?_
  refine Hwp.drawn mixed [0, 1, 3, 7, 15, 31, 63, 127, 255, 511, 1023, 2047, 4095, 8191, 16383, 4095, 36863, 102399, 262143, 524287, 1048575, 2097151, 2097151, 8388607, 16777215, 33554431, 67108863, 134217727, 268435455, 67108863, 603979775, 2147483647, 4294967295, 8589934591, 17179869183, 34359738367, 68719476735, 137438953471, 274877906943, 549755813887, 1099511627775, 2199023255551, 4398046511103, 8796093022207, 17592186044415, 17592186044415, 52776558133247, 140737488355327, 281474976710655, 562949953421311, 1125899906842623, 2251799813685247, 4503599627370495, 9007199254740991, 18014398509481983, 36028797018963967, 72057594037927935, 144115188075855871, 288230376151711743, 576460752303423487, 1152921504606846975] (.op 0 (.op 1 (.op 2 (.eff 3 (.op 4 (.op 5 (.op 6 (.op 7 (.op 8 (.op 9 (.op 10 (.op 11 (.op 12 (.op 13 (.op 14 (.op 15 (.op 16 (.op 17 (.op 18 (.op 19 (.op 20 (.op 21 (.op 22 (.eff 23 (.op 24 (.op 25 (.op 26 (.op 27 (.op 28 (.op 29 (.eff 30 (.op 31 (.op 32 (.op 33 (.eff 34 (.op 35 (.op 36 (.op 37 (.op 38 (.op 39 (.op 40 (.op 41 (.op 42 (.op 43 (.op 44 (.op 45 (.eff 46 (.eff 47 (.op 48 (.op 49 (.op 50 (.eff 51 (.op 52 (.op 53 (.op 54 (.op 55 (.eff 56 (.eff 57 (.op 58 (.op 59 (.op 60 .done))) .stop) .stop))))) .stop)))) .stop) .stop)))))))))))) .stop)))) .stop))))))) .stop)))))))))))))))))))) .stop)))) (by kernel_rfl) ?_
  have htail : ∀ (RR : Value → HHeap → Prop), True := fun _ => trivial
  simp (disch := first | omega | (show allOne _ = true; simp [allOne, Value.oneCell']) | (simp only [List.length_cons, List.length_nil, List.length_set, List.length_map, List.length_replicate, List.length_append, List.length_take, List.length_drop, Int.toNat_natCast, Int.toNat_of_nonneg, nx_push, nx_set, nx_kill]; done) | (simp only [List.length_cons, List.length_nil, List.length_set, List.length_map, List.length_replicate, List.length_append, List.length_take, List.length_drop, Int.toNat_natCast, Int.toNat_of_nonneg, nx_push, nx_set, nx_kill]; omega)) only [go_sem, reduceCtorEq, Nat.reduceAdd, Nat.reduceSub, Nat.reduceMul, Nat.reduceLT, Nat.reduceLeDiff, Nat.reduceEqDiff, Nat.reduceBEq, Nat.reduceBNe, Int.reduceBEq, Int.reduceEq, Int.reduceLT, Int.reduceLE, Int.reduceAdd, Int.reduceSub, ↓reduceIte, Int.reduceToNat, Nat.reduceShiftRight, Nat.reduceAnd]
  refine arena_Used _ _ _ _ _ _ hB4 _ ?_
  rw [hu0]
  simp (disch := first | omega | (show allOne _ = true; simp [allOne, Value.oneCell']) | (simp only [List.length_cons, List.length_nil, List.length_set, List.length_map, List.length_replicate, List.length_append, List.length_take, List.length_drop, Int.toNat_natCast, Int.toNat_of_nonneg, nx_push, nx_set, nx_kill]; done) | (simp only [List.length_cons, List.length_nil, List.length_set, List.length_map, List.length_replicate, List.length_append, List.length_take, List.length_drop, Int.toNat_natCast, Int.toNat_of_nonneg, nx_push, nx_set, nx_kill]; omega)) only [go_sem, reduceCtorEq, Nat.reduceAdd, Nat.reduceSub, Nat.reduceMul, Nat.reduceLT, Nat.reduceLeDiff, Nat.reduceEqDiff, Nat.reduceBEq, Nat.reduceBNe, Int.reduceBEq, Int.reduceEq, Int.reduceLT, Int.reduceLE, Int.reduceAdd, Int.reduceSub, ↓reduceIte, Int.reduceToNat, Nat.reduceShiftRight, Nat.reduceAnd, ixa_ok, ldc_cells, hb4]
  refine arena_Kind _ _ _ _ _ _ hA4 w hw _ ?_
  by_cases hkn : 0 < kindN T w
  · simp (disch := first | omega | (show allOne _ = true; simp [allOne, Value.oneCell']) | (simp only [List.length_cons, List.length_nil, List.length_set, List.length_map, List.length_replicate, List.length_append, List.length_take, List.length_drop, Int.toNat_natCast, Int.toNat_of_nonneg, nx_push, nx_set, nx_kill]; done) | (simp only [List.length_cons, List.length_nil, List.length_set, List.length_map, List.length_replicate, List.length_append, List.length_take, List.length_drop, Int.toNat_natCast, Int.toNat_of_nonneg, nx_push, nx_set, nx_kill]; omega)) only [go_sem, reduceCtorEq, Nat.reduceAdd, Nat.reduceSub, Nat.reduceMul, Nat.reduceLT, Nat.reduceLeDiff, Nat.reduceEqDiff, Nat.reduceBEq, Nat.reduceBNe, Int.reduceBEq, Int.reduceEq, Int.reduceLT, Int.reduceLE, Int.reduceAdd, Int.reduceSub, ↓reduceIte, Int.reduceToNat, Nat.reduceShiftRight, Nat.reduceAnd]
    have hAp4 : AtA (H4.push (.cells [U w] true)) g gw gh n T := hA4.frame (by obtain ⟨a1, a2, a3⟩ := hA4.lt hok4; rintro b (rfl | rfl | rfl) <;> simp (disch := first | omega | (simp only [nx_push, nx_set, nx_kill]; done) | (simp only [nx_push, nx_set, nx_kill]; omega)) only [get_push_ne, get_push_eq, get_set_ne, get_set_eq, get_kill_ne, nx_push, nx_set, nx_kill])
    have hp4 : ∀ x, x < H3.next + 1 + 1 → (H4.push (.cells [U w] true)).get x = H4.get x := fun x hx => by simp (disch := first | omega | (simp only [nx_push, nx_set, nx_kill]; done) | (simp only [nx_push, nx_set, nx_kill]; omega)) only [get_push_ne, get_push_eq, get_set_ne, get_set_eq, get_kill_ne, nx_push, nx_set, nx_kill]
    have hV4p : MadeAt (H4.push (.cells [U w] true)) (.slice (some ⟨H3.next + 1, 0, some 2⟩) 1 1) [w] := hV4.frame (by simp) (fun b hb => by simp [vblk] at hb; subst hb; simp (disch := first | omega | (simp only [nx_push, nx_set, nx_kill]; done) | (simp only [nx_push, nx_set, nx_kill]; omega)) only [get_push_ne, get_push_eq, get_set_ne, get_set_eq, get_kill_ne, nx_push, nx_set, nx_kill])
    refine HCalls.ok fun hokq => ?_
    refine law_words _ _ _ [w] [w] (hV4p.rowS.row hokq) (RowAt.one (by simp (disch := first | omega | (simp only [nx_push, nx_set, nx_kill]; done) | (simp only [nx_push, nx_set, nx_kill]; omega)) only [get_push_ne, get_push_eq, get_set_ne, get_set_eq, get_kill_ne, nx_push, nx_set, nx_kill]; omega) (by simp (disch := first | omega | (simp only [nx_push, nx_set, nx_kill]; done) | (simp only [nx_push, nx_set, nx_kill]; omega)) only [get_push_ne, get_push_eq, get_set_ne, get_set_eq, get_kill_ne, nx_push, nx_set, nx_kill])) (by simp) _ ?_
    rw [show decide ([w] = [w]) = true by simp]
    simp (disch := first | omega | (show allOne _ = true; simp [allOne, Value.oneCell']) | (simp only [List.length_cons, List.length_nil, List.length_set, List.length_map, List.length_replicate, List.length_append, List.length_take, List.length_drop, Int.toNat_natCast, Int.toNat_of_nonneg, nx_push, nx_set, nx_kill]; done) | (simp only [List.length_cons, List.length_nil, List.length_set, List.length_map, List.length_replicate, List.length_append, List.length_take, List.length_drop, Int.toNat_natCast, Int.toNat_of_nonneg, nx_push, nx_set, nx_kill]; omega)) only [go_sem, reduceCtorEq, Nat.reduceAdd, Nat.reduceSub, Nat.reduceMul, Nat.reduceLT, Nat.reduceLeDiff, Nat.reduceEqDiff, Nat.reduceBEq, Nat.reduceBNe, Int.reduceBEq, Int.reduceEq, Int.reduceLT, Int.reduceLE, Int.reduceAdd, Int.reduceSub, ↓reduceIte, Int.reduceToNat, Nat.reduceShiftRight, Nat.reduceAnd, ixa_ok, ldc_cells, hb4]
    refine HCalls.gotOk (move_Reach _ _ _ _ _ _ hAp4 (hAp4.lt hokq) (.slice none 0 0) [] ⟨none, 0, rfl, .inl ⟨rfl, fun _ => rfl⟩⟩ (by simp) (by simp) _ ?_)
    intro H7 hk7 hn7 hok7 _
    rw [nx_push] at hk7 hn7
    have hb7 : H7.get b3 = some (.cells [U x, U x] true) := by rw [hk7 b3 (by omega), get_push_ne _ _ (by omega)]; exact hb4
    rw [show sumR T (bfs T []) = 0 by unfold bfs; simp [stepAll, scan, sumR]]
    simp (disch := first | omega | (show allOne _ = true; simp [allOne, Value.oneCell']) | (simp only [List.length_cons, List.length_nil, List.length_set, List.length_map, List.length_replicate, List.length_append, List.length_take, List.length_drop, Int.toNat_natCast, Int.toNat_of_nonneg, nx_push, nx_set, nx_kill]; done) | (simp only [List.length_cons, List.length_nil, List.length_set, List.length_map, List.length_replicate, List.length_append, List.length_take, List.length_drop, Int.toNat_natCast, Int.toNat_of_nonneg, nx_push, nx_set, nx_kill]; omega)) only [go_sem, reduceCtorEq, Nat.reduceAdd, Nat.reduceSub, Nat.reduceMul, Nat.reduceLT, Nat.reduceLeDiff, Nat.reduceEqDiff, Nat.reduceBEq, Nat.reduceBNe, Int.reduceBEq, Int.reduceEq, Int.reduceLT, Int.reduceLE, Int.reduceAdd, Int.reduceSub, ↓reduceIte, Int.reduceToNat, Nat.reduceShiftRight, Nat.reduceAnd, ixa_ok, ldc_cells, hb7]
    refine move_Reach0 _ w hw H7.next (by simp (disch := first | omega | (simp only [nx_push, nx_set, nx_kill]; done) | (simp only [nx_push, nx_set, nx_kill]; omega)) only [get_push_ne, get_push_eq, get_set_ne, get_set_eq, get_kill_ne, nx_push, nx_set, nx_kill]) _ ?_
    intro H8 hk8 hn8
    simp (disch := first | omega | (show allOne _ = true; simp [allOne, Value.oneCell']) | (simp only [List.length_cons, List.length_nil, List.length_set, List.length_map, List.length_replicate, List.length_append, List.length_take, List.length_drop, Int.toNat_natCast, Int.toNat_of_nonneg, nx_push, nx_set, nx_kill]; done) | (simp only [List.length_cons, List.length_nil, List.length_set, List.length_map, List.length_replicate, List.length_append, List.length_take, List.length_drop, Int.toNat_natCast, Int.toNat_of_nonneg, nx_push, nx_set, nx_kill]; omega)) only [go_sem, reduceCtorEq, Nat.reduceAdd, Nat.reduceSub, Nat.reduceMul, Nat.reduceLT, Nat.reduceLeDiff, Nat.reduceEqDiff, Nat.reduceBEq, Nat.reduceBNe, Int.reduceBEq, Int.reduceEq, Int.reduceLT, Int.reduceLE, Int.reduceAdd, Int.reduceSub, ↓reduceIte, Int.reduceToNat, Nat.reduceShiftRight, Nat.reduceAnd]
    exact hR _
  · obtain ⟨hx, hu3⟩ : x = bareN w ∧ usedOf T3 = 0 := by
      rcases hkA with h | h
      · exfalso
        cases e : findT T w with
        | none => exact h e
        | some t =>
          have ha : atP T (w / 8) = some t := by unfold findT at e; split at e <;> first | exact e | cases e
          have := (hA.ok t (atP_words T _ t ha).2.2.2).k1
          unfold kindN at hkn; rw [e] at hkn; simp only at hkn; omega
      · exact h
    subst hx
    have hkz : kindN T w = 0 := by omega
    rw [hkz]
    simp (disch := first | omega | (show allOne _ = true; simp [allOne, Value.oneCell']) | (simp only [List.length_cons, List.length_nil, List.length_set, List.length_map, List.length_replicate, List.length_append, List.length_take, List.length_drop, Int.toNat_natCast, Int.toNat_of_nonneg, nx_push, nx_set, nx_kill]; done) | (simp only [List.length_cons, List.length_nil, List.length_set, List.length_map, List.length_replicate, List.length_append, List.length_take, List.length_drop, Int.toNat_natCast, Int.toNat_of_nonneg, nx_push, nx_set, nx_kill]; omega)) only [go_sem, reduceCtorEq, Nat.reduceAdd, Nat.reduceSub, Nat.reduceMul, Nat.reduceLT, Nat.reduceLeDiff, Nat.reduceEqDiff, Nat.reduceBEq, Nat.reduceBNe, Int.reduceBEq, Int.reduceEq, Int.reduceLT, Int.reduceLE, Int.reduceAdd, Int.reduceSub, ↓reduceIte, Int.reduceToNat, Nat.reduceShiftRight, Nat.reduceAnd, ixa_ok, ldc_cells, hb4]
    refine law_bare w hw _ _ ?_
    simp (disch := first | omega | (show allOne _ = true; simp [allOne, Value.oneCell']) | (simp only [List.length_cons, List.length_nil, List.length_set, List.length_map, List.length_replicate, List.length_append, List.length_take, List.length_drop, Int.toNat_natCast, Int.toNat_of_nonneg, nx_push, nx_set, nx_kill]; done) | (simp only [List.length_cons, List.length_nil, List.length_set, List.length_map, List.length_replicate, List.length_append, List.length_take, List.length_drop, Int.toNat_natCast, Int.toNat_of_nonneg, nx_push, nx_set, nx_kill]; omega)) only [go_sem, reduceCtorEq, Nat.reduceAdd, Nat.reduceSub, Nat.reduceMul, Nat.reduceLT, Nat.reduceLeDiff, Nat.reduceEqDiff, Nat.reduceBEq, Nat.reduceBNe, Int.reduceBEq, Int.reduceEq, Int.reduceLT, Int.reduceLE, Int.reduceAdd, Int.reduceSub, ↓reduceIte, Int.reduceToNat, Nat.reduceShiftRight, Nat.reduceAnd, ixa_ok, ldc_cells, hb4]
    refine arena_Used _ _ _ _ _ _ hC4 _ ?_
    rw [hu3]
    simp (disch := first | omega | (show allOne _ = true; simp [allOne, Value.oneCell']) | (simp only [List.length_cons, List.length_nil, List.length_set, List.length_map, List.length_replicate, List.length_append, List.length_take, List.length_drop, Int.toNat_natCast, Int.toNat_of_nonneg, nx_push, nx_set, nx_kill]; done) | (simp only [List.length_cons, List.length_nil, List.length_set, List.length_map, List.length_replicate, List.length_append, List.length_take, List.length_drop, Int.toNat_natCast, Int.toNat_of_nonneg, nx_push, nx_set, nx_kill]; omega)) only [go_sem, reduceCtorEq, Nat.reduceAdd, Nat.reduceSub, Nat.reduceMul, Nat.reduceLT, Nat.reduceLeDiff, Nat.reduceEqDiff, Nat.reduceBEq, Nat.reduceBNe, Int.reduceBEq, Int.reduceEq, Int.reduceLT, Int.reduceLE, Int.reduceAdd, Int.reduceSub, ↓reduceIte, Int.reduceToNat, Nat.reduceShiftRight, Nat.reduceAnd]
    have hAp4 : AtA (H4.push (.cells [U w] true)) g gw gh n T := hA4.frame (by obtain ⟨a1, a2, a3⟩ := hA4.lt hok4; rintro b (rfl | rfl | rfl) <;> simp (disch := first | omega | (simp only [nx_push, nx_set, nx_kill]; done) | (simp only [nx_push, nx_set, nx_kill]; omega)) only [get_push_ne, get_push_eq, get_set_ne, get_set_eq, get_kill_ne, nx_push, nx_set, nx_kill])
    have hp4 : ∀ x, x < H3.next + 1 + 1 → (H4.push (.cells [U w] true)).get x = H4.get x := fun x hx => by simp (disch := first | omega | (simp only [nx_push, nx_set, nx_kill]; done) | (simp only [nx_push, nx_set, nx_kill]; omega)) only [get_push_ne, get_push_eq, get_set_ne, get_set_eq, get_kill_ne, nx_push, nx_set, nx_kill]
    have hV4p : MadeAt (H4.push (.cells [U w] true)) (.slice (some ⟨H3.next + 1, 0, some 2⟩) 1 1) [w] := hV4.frame (by simp) (fun b hb => by simp [vblk] at hb; subst hb; simp (disch := first | omega | (simp only [nx_push, nx_set, nx_kill]; done) | (simp only [nx_push, nx_set, nx_kill]; omega)) only [get_push_ne, get_push_eq, get_set_ne, get_set_eq, get_kill_ne, nx_push, nx_set, nx_kill])
    refine HCalls.ok fun hokq => ?_
    refine law_words _ _ _ [w] [w] (hV4p.rowS.row hokq) (RowAt.one (by simp (disch := first | omega | (simp only [nx_push, nx_set, nx_kill]; done) | (simp only [nx_push, nx_set, nx_kill]; omega)) only [get_push_ne, get_push_eq, get_set_ne, get_set_eq, get_kill_ne, nx_push, nx_set, nx_kill]; omega) (by simp (disch := first | omega | (simp only [nx_push, nx_set, nx_kill]; done) | (simp only [nx_push, nx_set, nx_kill]; omega)) only [get_push_ne, get_push_eq, get_set_ne, get_set_eq, get_kill_ne, nx_push, nx_set, nx_kill])) (by simp) _ ?_
    rw [show decide ([w] = [w]) = true by simp]
    simp (disch := first | omega | (show allOne _ = true; simp [allOne, Value.oneCell']) | (simp only [List.length_cons, List.length_nil, List.length_set, List.length_map, List.length_replicate, List.length_append, List.length_take, List.length_drop, Int.toNat_natCast, Int.toNat_of_nonneg, nx_push, nx_set, nx_kill]; done) | (simp only [List.length_cons, List.length_nil, List.length_set, List.length_map, List.length_replicate, List.length_append, List.length_take, List.length_drop, Int.toNat_natCast, Int.toNat_of_nonneg, nx_push, nx_set, nx_kill]; omega)) only [go_sem, reduceCtorEq, Nat.reduceAdd, Nat.reduceSub, Nat.reduceMul, Nat.reduceLT, Nat.reduceLeDiff, Nat.reduceEqDiff, Nat.reduceBEq, Nat.reduceBNe, Int.reduceBEq, Int.reduceEq, Int.reduceLT, Int.reduceLE, Int.reduceAdd, Int.reduceSub, ↓reduceIte, Int.reduceToNat, Nat.reduceShiftRight, Nat.reduceAnd, ixa_ok, ldc_cells, hb4]
    refine HCalls.gotOk (move_Reach _ _ _ _ _ _ hAp4 (hAp4.lt hokq) (.slice none 0 0) [] ⟨none, 0, rfl, .inl ⟨rfl, fun _ => rfl⟩⟩ (by simp) (by simp) _ ?_)
    intro H7 hk7 hn7 hok7 _
    rw [nx_push] at hk7 hn7
    have hb7 : H7.get b3 = some (.cells [U (bareN w), U (bareN w)] true) := by rw [hk7 b3 (by omega), get_push_ne _ _ (by omega)]; exact hb4
    rw [show sumR T (bfs T []) = 0 by unfold bfs; simp [stepAll, scan, sumR]]
    simp (disch := first | omega | (show allOne _ = true; simp [allOne, Value.oneCell']) | (simp only [List.length_cons, List.length_nil, List.length_set, List.length_map, List.length_replicate, List.length_append, List.length_take, List.length_drop, Int.toNat_natCast, Int.toNat_of_nonneg, nx_push, nx_set, nx_kill]; done) | (simp only [List.length_cons, List.length_nil, List.length_set, List.length_map, List.length_replicate, List.length_append, List.length_take, List.length_drop, Int.toNat_natCast, Int.toNat_of_nonneg, nx_push, nx_set, nx_kill]; omega)) only [go_sem, reduceCtorEq, Nat.reduceAdd, Nat.reduceSub, Nat.reduceMul, Nat.reduceLT, Nat.reduceLeDiff, Nat.reduceEqDiff, Nat.reduceBEq, Nat.reduceBNe, Int.reduceBEq, Int.reduceEq, Int.reduceLT, Int.reduceLE, Int.reduceAdd, Int.reduceSub, ↓reduceIte, Int.reduceToNat, Nat.reduceShiftRight, Nat.reduceAnd, ixa_ok, ldc_cells, hb7]
    refine move_Reach0 _ w hw H7.next (by simp (disch := first | omega | (simp only [nx_push, nx_set, nx_kill]; done) | (simp only [nx_push, nx_set, nx_kill]; omega)) only [get_push_ne, get_push_eq, get_set_ne, get_set_eq, get_kill_ne, nx_push, nx_set, nx_kill]) _ ?_
    intro H8 hk8 hn8
    simp (disch := first | omega | (show allOne _ = true; simp [allOne, Value.oneCell']) | (simp only [List.length_cons, List.length_nil, List.length_set, List.length_map, List.length_replicate, List.length_append, List.length_take, List.length_drop, Int.toNat_natCast, Int.toNat_of_nonneg, nx_push, nx_set, nx_kill]; done) | (simp only [List.length_cons, List.length_nil, List.length_set, List.length_map, List.length_replicate, List.length_append, List.length_take, List.length_drop, Int.toNat_natCast, Int.toNat_of_nonneg, nx_push, nx_set, nx_kill]; omega)) only [go_sem, reduceCtorEq, Nat.reduceAdd, Nat.reduceSub, Nat.reduceMul, Nat.reduceLT, Nat.reduceLeDiff, Nat.reduceEqDiff, Nat.reduceBEq, Nat.reduceBNe, Int.reduceBEq, Int.reduceEq, Int.reduceLT, Int.reduceLE, Int.reduceAdd, Int.reduceSub, ↓reduceIte, Int.reduceToNat, Nat.reduceShiftRight, Nat.reduceAnd]
    exact hR _
end Go.HL
