/-
  Joined: D9.
-/
import Derived.Test.YtkflilieljojfaaL42
/-
  Walks: what the document keeps.
-/
namespace Go.HL
open Go.RowKit Go.Proofs
set_option maxHeartbeats 4000000
set_option maxRecDepth 100000
set_option linter.unusedSimpArgs false
set_option linter.unusedVariables false

theorem rcells_congr : ∀ (p : Nat) (T T' : Things) (lvs : List Value), T.map (fun t => (t.kind, t.l.length)) = T'.map (fun t => (t.kind, t.l.length)) → rcells p T lvs = rcells p T' lvs
  | _, [], [], _, _ => rfl
  | _, [], _ :: _, _, h => by simp at h
  | _, _ :: _, [], _, h => by simp at h
  | p, t :: T, t' :: T', [], h => rfl
  | p, t :: T, t' :: T', v :: lvs, h => by
    simp only [List.map_cons, List.cons.injEq, Prod.mk.injEq] at h
    rw [rcells, rcells, Thing.room, Thing.room, h.1.1, h.1.2, rcells_congr _ T T' lvs h.2]
theorem kinds_set (T : Things) (n : Nat) (t u : Thing) (h : T[n]? = some t) (hk : u.kind = t.kind) (hu : u.l.length = t.l.length) : (T.set n u).map (fun t => (t.kind, t.l.length)) = T.map (fun t => (t.kind, t.l.length)) := by
  rw [List.map_set]
  apply List.ext_getElem?
  intro i
  rw [List.getElem?_set]
  split
  · rename_i e; subst e
    rw [List.getElem?_map, h]; simp [hu, hk, (List.getElem?_eq_some_iff.1 h).1]
  · rfl
theorem flat_apart : ∀ (lvs : List Value) (i j : Nat) (x y : Value), (lvs.flatMap sblk).Nodup → i ≠ j → lvs[i]? = some x → lvs[j]? = some y → ∀ b ∈ sblk x, b ∉ sblk y
  | [], i, j, x, y, _, _, h, _ => by simp at h
  | v :: lvs, i, j, x, y, hn, hij, hx, hy => by
    rw [List.flatMap_cons, List.nodup_append] at hn
    obtain ⟨n1, n2, n3⟩ := hn
    intro b hb hc
    cases i with
    | zero =>
      simp at hx; subst hx
      cases j with
      | zero => exact absurd rfl hij
      | succ j => exact n3 b hb b (List.mem_flatMap.2 ⟨y, List.mem_of_getElem? (by simpa using hy), hc⟩) rfl
    | succ i =>
      cases j with
      | zero =>
        simp at hy; subst hy
        exact n3 b hc b (List.mem_flatMap.2 ⟨x, List.mem_of_getElem? (by simpa using hx), hb⟩) rfl
      | succ j => exact flat_apart lvs i j x y n2 (by omega) (by simpa using hx) (by simpa using hy) b hb hc
/-- A word of a thing is set. -/
theorem RefAt.setL {H : HHeap} {gr size : Nat} {T : Things} {tv : Value} {lvs : List Value} (h : RefAt H gr size T tv lvs) {n i x b : Nat} {t : Thing} (ht : T[n]? = some t) (hi : i < t.l.length) (hx : x < 18446744073709551616)
    (hl : lvs[n]? = some (.slice (some ⟨b, 0, some 2⟩) t.l.length t.l.length)) : RefAt (H.set b (.cells ((t.l.map U).set i (U x)) true)) gr size (T.set n ⟨t.kind, t.l.set i x⟩) tv lvs := by
  have hlen := lens_set T n t ⟨t.kind, t.l.set i x⟩ ht (by simp)
  have hks := kinds_set T n t ⟨t.kind, t.l.set i x⟩ ht rfl (by simp)
  have hu : usedOf (T.set n ⟨t.kind, t.l.set i x⟩) = usedOf T := usedOf_congr _ _ hlen
  have hbin : b ∈ lvs.flatMap sblk := List.mem_flatMap.2 ⟨_, List.mem_of_getElem? hl, by simp [sblk]⟩
  have hnd := h.nd
  unfold rblks at hnd
  rw [List.nodup_cons, List.mem_append, List.nodup_append] at hnd
  obtain ⟨nd1, nd2, nd3, nd4⟩ := hnd
  have hbg : b ≠ gr := fun e => nd1 (.inr (e ▸ hbin))
  have hbt : b ∉ sblk tv := fun hm => nd4 b hm b hbin rfl
  refine ⟨?_, ?_, by rw [h.len]; simp, ?_, h.nd, ?_⟩
  · simp (disch := first | omega | (simp only [nx_push, nx_set, nx_kill]; done) | (simp only [nx_push, nx_set, nx_kill]; omega)) only [get_push_ne, get_push_eq, get_set_ne, get_set_eq, get_kill_ne, nx_push, nx_set, nx_kill]; rw [hu]; exact h.s
  · have := h.t.frame (H' := H.set b (.cells ((t.l.map U).set i (U x)) true)) (fun c hc => by
      have : c ≠ b := fun e => hbt (e ▸ hc)
      simp (disch := first | omega | (simp only [nx_push, nx_set, nx_kill]; done) | (simp only [nx_push, nx_set, nx_kill]; omega)) only [get_push_ne, get_push_eq, get_set_ne, get_set_eq, get_kill_ne, nx_push, nx_set, nx_kill])
    rw [rcells_congr 0 _ T lvs hks, List.length_set]; exact this
  · intro j u lv hj hlv
    by_cases e : n = j
    · subst e
      rw [hl] at hlv; cases hlv
      rw [List.getElem?_set, if_pos rfl] at hj
      split at hj
      · cases hj
        refine .inr ⟨b, fun e => ?_, by simp, ?_⟩
        · have := congrArg List.length e; simp at this; rw [this] at hi; simp at hi
        · simp (disch := first | omega | (simp only [nx_push, nx_set, nx_kill]; done) | (simp only [nx_push, nx_set, nx_kill]; omega)) only [get_push_ne, get_push_eq, get_set_ne, get_set_eq, get_kill_ne, nx_push, nx_set, nx_kill]; rw [List.map_set]
      · cases hj
    · rw [List.getElem?_set_ne e] at hj
      refine (h.l j u lv hj hlv).frame (by simp (disch := first | omega | (simp only [nx_push, nx_set, nx_kill]; done) | (simp only [nx_push, nx_set, nx_kill]; omega)) only [get_push_ne, get_push_eq, get_set_ne, get_set_eq, get_kill_ne, nx_push, nx_set, nx_kill]; omega) fun c hc => ?_
      have : c ≠ b := fun e2 => flat_apart lvs j n lv _ nd3 (Ne.symm e) hlv hl c hc (by simp [sblk, e2])
      simp (disch := first | omega | (simp only [nx_push, nx_set, nx_kill]; done) | (simp only [nx_push, nx_set, nx_kill]; omega)) only [get_push_ne, get_push_eq, get_set_ne, get_set_eq, get_kill_ne, nx_push, nx_set, nx_kill]
  · intro u hu'
    rcases List.mem_or_eq_of_mem_set hu' with h1 | h1
    · exact h.ok u h1
    · subst h1
      have hk := h.ok t (List.mem_of_getElem? ht)
      refine ⟨hk.k1, hk.k9, by simpa using hk.len, fun y hy => ?_⟩
      rcases List.mem_or_eq_of_mem_set hy with h2 | h2
      · exact hk.words y h2
      · rw [h2]; exact hx

/-- How it stands while the document keeps. -/
structure RLive (H0 H : HHeap) (ga gb bw size : Nat) (T : Things) (F ord : List Nat) (p q : Nat) (tva tvb : Value) (lva lvb : List Value) (ov : Value) (out : List Nat) : Prop where
  br : RBr H ga gb bw size T F ord p q tva tvb lva lvb
  out : MadeAt H ov out
  keep : ∀ b, b < H0.next → H.get b = H0.get b
  next : H0.next ≤ H.next
  new : H0.next ≤ bw ∧ ∀ x ∈ rblks gb tvb lvb, H0.next ≤ x
  onew : ∀ b ∈ vblk ov, H0.next ≤ b ∧ b ∉ rblks gb tvb lvb ∧ b ≠ bw

theorem r03_Live (H : HHeap) (ga size : Nat) (T : Things) (tva : Value) (lva : List Value) (hA : RefAt H ga size T tva lva) (hsz : size ≤ 65536) (hpos : 1 ≤ size) (hu : usedOf T ≤ size) (s : Value) (roots : List Nat) (hs : RowAt H s (roots.map U)) (hrw : ∀ w ∈ roots, w < 18446744073709551616) (hrl : roots.length ≤ 1000000)
    (R : Value → HHeap → Prop)
    (hR : ∀ H' gb tvb lvb v, RefAt H' gb size (outT T (bfs T roots)) tvb lvb → MadeAt H' v (roots.map (tr T (bfs T roots))) → (∀ b, b < H.next → H'.get b = H.get b) → H.next ≤ H'.next → (∀ x ∈ rblks gb tvb lvb, H.next ≤ x) → R (.tuple #[ptr gb 0, v]) H') : HCalls Try.prog 13 [ptr ga 0, s] H R := by
  refine HCalls.ok fun hok => ?_
  have hal := hA.lt hok
  have hTl := length_le_used T
  obtain ⟨sa, sc, hs1, hsv⟩ := id hs
  have hslen : (roots.map U).length = roots.length := by simp
  rw [hslen] at hs1
  subst hs1
  have hss := hA.s
  obtain ⟨taa, htva⟩ := hA.t.len
  subst htva
  have hu0 : (T.length : Int) * 8 ≤ 1099511627776 := by omega
  refine HCalls.of_hw Try.func13 rfl _ Try.ntmps13 _ (by rw [Try.results13]) ?_
  rw [hframe0_eq _ _ (by simp)]
  simp only [List.zipIdx_cons, List.zipIdx_nil, List.map_cons, List.map_nil, Nat.reduceAdd]
  have hgal := hal ga (by simp [rblks])
  have hcl := bfs_closed T roots
  have hbF : ∀ w ∈ roots, ∀ i, findI T w = some i → i ∈ bfs T roots := fun w hw i hi => bfs_root hw hi
  simp (disch := first | omega | (show allOne _ = true; simp [allOne, Value.oneCell']) | (simp only [List.length_cons, List.length_nil, List.length_set, List.length_map, List.length_replicate, List.length_append, List.length_take, List.length_drop, Int.toNat_natCast, Int.toNat_of_nonneg, nx_push, nx_set, nx_kill]; done) | (simp only [List.length_cons, List.length_nil, List.length_set, List.length_map, List.length_replicate, List.length_append, List.length_take, List.length_drop, Int.toNat_natCast, Int.toNat_of_nonneg, nx_push, nx_set, nx_kill]; omega)) only [go_sem, reduceCtorEq, Nat.reduceAdd, Nat.reduceSub, Nat.reduceMul, Nat.reduceLT, Nat.reduceLeDiff, Nat.reduceEqDiff, Nat.reduceBEq, Nat.reduceBNe, Int.reduceBEq, Int.reduceEq, Int.reduceLT, Int.reduceLE, Int.reduceAdd, Int.reduceSub, ↓reduceIte, Int.reduceToNat, Nat.reduceShiftRight, Nat.reduceAnd, hss, ldc_cells, hbox_agg, mks_ok]
  have hw0 : List.replicate T.length (Value.int .u64 0) = wentC T (bfs T roots) [] := by
    unfold wentC
    apply List.ext_getElem?
    intro i
    by_cases h : i < T.length <;> simp [h]
  rw [hw0]
  refine Hwp.loop (fun n fr H' => ∃ i tvb lvb ov, n = roots.length - i ∧ i ≤ roots.length ∧ RLive H H' ga H.next (H.next + 1) size T (bfs T roots) (stepAll T [] (roots.take i)) 0 0 (.slice taa T.length T.length) tvb lva lvb ov ((roots.take i).map (tr T (bfs T roots))) ∧
     FLe (hfr 92 [(9, I i), (8, ov), (7, .slice (some ⟨H.next + 1, 0, none⟩) T.length T.length), (6, ptr H.next 0), (1, .slice sa roots.length sc), (0, ptr ga 0)]) fr) roots.length ?_ ?_
  · refine ⟨0, .slice none 0 0, [], .slice none 0 0, by omega, by omega, ⟨⟨?_, ?_, ?_, ?_, ?_⟩, .inl ⟨by simp, rfl⟩, ?_, ?_, ?_, ?_⟩, fle_of (by simp [flook])⟩
    · exact hA.frame (by simp; omega) fun b hb => by have := hal b hb; simp (disch := first | omega | (simp only [nx_push, nx_set, nx_kill]; done) | (simp only [nx_push, nx_set, nx_kill]; omega)) only [get_push_ne, get_push_eq, get_set_ne, get_set_eq, get_kill_ne, nx_push, nx_set, nx_kill]
    · exact ⟨by simp (disch := first | omega | (simp only [nx_push, nx_set, nx_kill]; done) | (simp only [nx_push, nx_set, nx_kill]; omega)) only [get_push_ne, get_push_eq, get_set_ne, get_set_eq, get_kill_ne, nx_push, nx_set, nx_kill]; rfl, GrAt.nil _ _, rfl, by simp [midT, stepAll], by simp [rblks, sblk], by simp [midT, TOk, stepAll]⟩
    · simp (disch := first | omega | (simp only [nx_push, nx_set, nx_kill]; done) | (simp only [nx_push, nx_set, nx_kill]; omega)) only [get_push_ne, get_push_eq, get_set_ne, get_set_eq, get_kill_ne, nx_push, nx_set, nx_kill]; rfl
    · intro x hx; have := hal x hx; exact ⟨by simp [rblks, sblk]; omega, by omega⟩
    · simp [rblks, sblk]
    · intro b hb; simp (disch := first | omega | (simp only [nx_push, nx_set, nx_kill]; done) | (simp only [nx_push, nx_set, nx_kill]; omega)) only [get_push_ne, get_push_eq, get_set_ne, get_set_eq, get_kill_ne, nx_push, nx_set, nx_kill]
    · simp (disch := first | omega | (simp only [nx_push, nx_set, nx_kill]; done) | (simp only [nx_push, nx_set, nx_kill]; omega)) only [get_push_ne, get_push_eq, get_set_ne, get_set_eq, get_kill_ne, nx_push, nx_set, nx_kill]; omega
    · exact ⟨by omega, by simp [rblks, sblk]⟩
    · simp [vblk]
  · rintro n fr H' ⟨i, tvb, lvb, ov, rfl, hi, hI, hle⟩
    refine Hwp.weaken hle (HW.sound _ _ _ _ ?_)
    by_cases hc : i < roots.length
    · obtain ⟨w, hw⟩ : ∃ w, roots[i]? = some w := ⟨_, List.getElem?_eq_getElem hc⟩
      have hwm : w ∈ roots := List.mem_of_getElem? hw
      obtain ⟨e1, e2⟩ := bfs_prefix T roots hw
      obtain ⟨b0, o0, k0, c0, cs0, rw0, z1, z2, z3⟩ := hs.get (i := i) (v := U w) (by rw [List.getElem?_map, hw]; rfl)
      rw [hslen] at z1
      cases z1
      have hb0l := hok _ _ z2
      have z2' : H'.get b0 = some (.cells cs0 rw0) := by rw [hI.keep b0 hb0l]; exact z2
      simp (disch := first | omega | (show allOne _ = true; simp [allOne, Value.oneCell']) | (simp only [List.length_cons, List.length_nil, List.length_set, List.length_map, List.length_replicate, List.length_append, List.length_take, List.length_drop, Int.toNat_natCast, Int.toNat_of_nonneg, nx_push, nx_set, nx_kill]; done) | (simp only [List.length_cons, List.length_nil, List.length_set, List.length_map, List.length_replicate, List.length_append, List.length_take, List.length_drop, Int.toNat_natCast, Int.toNat_of_nonneg, nx_push, nx_set, nx_kill]; omega)) only [go_sem, reduceCtorEq, Nat.reduceAdd, Nat.reduceSub, Nat.reduceMul, Nat.reduceLT, Nat.reduceLeDiff, Nat.reduceEqDiff, Nat.reduceBEq, Nat.reduceBNe, Int.reduceBEq, Int.reduceEq, Int.reduceLT, Int.reduceLE, Int.reduceAdd, Int.reduceSub, ↓reduceIte, Int.reduceToNat, Nat.reduceShiftRight, Nat.reduceAnd, ixa_ok, ldc_cells, z2', z3]
      refine HCalls.gotOk (RBr.bring hI.br hsz hu w (hrw w hwm) e2 (stepAll_nodup _ _ List.nodup_nil) (stepAll_lt _ _ (by simp)) (by omega) _ ?_)
      intro H2 tvb2 lvb2 hbr2 hn2 hf2 hbk2 hok2 _
      rw [← e1] at hbr2
      have hov : MadeAt H2 ov ((roots.take i).map (tr T (bfs T roots))) := hI.out.frame hn2 (fun c hc => by
        obtain ⟨o1, o2, o3⟩ := hI.onew c hc
        exact hf2 c (hI.out.lt c hc) o2 o3)
      obtain ⟨ov3, H3, q1, q2, q3, q4, q5⟩ := append_one H2 ov _ (tr T (bfs T roots) w) hov (by simp; omega)
      simp (disch := first | omega | (show allOne _ = true; simp [allOne, Value.oneCell']) | (simp only [List.length_cons, List.length_nil, List.length_set, List.length_map, List.length_replicate, List.length_append, List.length_take, List.length_drop, Int.toNat_natCast, Int.toNat_of_nonneg, nx_push, nx_set, nx_kill]; done) | (simp only [List.length_cons, List.length_nil, List.length_set, List.length_map, List.length_replicate, List.length_append, List.length_take, List.length_drop, Int.toNat_natCast, Int.toNat_of_nonneg, nx_push, nx_set, nx_kill]; omega)) only [go_sem, reduceCtorEq, Nat.reduceAdd, Nat.reduceSub, Nat.reduceMul, Nat.reduceLT, Nat.reduceLeDiff, Nat.reduceEqDiff, Nat.reduceBEq, Nat.reduceBNe, Int.reduceBEq, Int.reduceEq, Int.reduceLT, Int.reduceLE, Int.reduceAdd, Int.reduceSub, ↓reduceIte, Int.reduceToNat, Nat.reduceShiftRight, Nat.reduceAnd, hsource_slice, hsrc_cells, List.drop_zero, List.take_succ_cons, List.take_zero, q1, ldc_cells]
      have hnx := hI.next
      obtain ⟨c1, c2⟩ := hI.new
      have hbl := hbr2.b.lt hok2
      have hwl := hok2 _ _ hbr2.w
      have hovn : ∀ c ∈ vblk ov, c ∉ rblks H.next tvb2 lvb2 := fun c hc hm => by
        obtain ⟨o1, o2, o3⟩ := hI.onew c hc
        rcases hbk2 c hm with h | h
        · exact o2 h
        · have := hI.out.lt c hc; omega
      refine ⟨_, ?_, i + 1, tvb2, lvb2, ov3, rfl, by omega, ⟨⟨?_, ?_, ?_, hbr2.ab, hbr2.bb⟩, ?_, ?_, by omega, ⟨c1, ?_⟩, ?_⟩, fle_of (by simp [flook])⟩
      · omega
      · exact hbr2.a.frame q3 fun b hb => q4 b (by have := hal b hb; omega) (fun hm => by have := (hI.onew b hm).1; have := hal b hb; omega)
      · exact hbr2.b.frame q3 fun b hb => q4 b (hbl b hb) (fun hm => hovn b hm hb)
      · rw [q4 _ hwl (fun hm => (hI.onew _ hm).2.2 rfl)]; exact hbr2.w
      · rw [List.take_add_one, hw]; simpa using q2
      · intro c hc
        rw [q4 c (by omega) (fun hm => by have := (hI.onew c hm).1; omega), hf2 c (by omega) (fun hm => by have := c2 c hm; omega) (by omega)]
        exact hI.keep c hc
      · intro x hx
        rcases hbk2 x hx with h | h
        · exact c2 x h
        · omega
      · intro c hc
        have := q5 c hc
        exact ⟨by omega, fun hm => by have := hbl c hm; omega, by omega⟩
    · simp (disch := first | omega | (show allOne _ = true; simp [allOne, Value.oneCell']) | (simp only [List.length_cons, List.length_nil, List.length_set, List.length_map, List.length_replicate, List.length_append, List.length_take, List.length_drop, Int.toNat_natCast, Int.toNat_of_nonneg, nx_push, nx_set, nx_kill]; done) | (simp only [List.length_cons, List.length_nil, List.length_set, List.length_map, List.length_replicate, List.length_append, List.length_take, List.length_drop, Int.toNat_natCast, Int.toNat_of_nonneg, nx_push, nx_set, nx_kill]; omega)) only [go_sem, reduceCtorEq, Nat.reduceAdd, Nat.reduceSub, Nat.reduceMul, Nat.reduceLT, Nat.reduceLeDiff, Nat.reduceEqDiff, Nat.reduceBEq, Nat.reduceBNe, Int.reduceBEq, Int.reduceEq, Int.reduceLT, Int.reduceLE, Int.reduceAdd, Int.reduceSub, ↓reduceIte, Int.reduceToNat, Nat.reduceShiftRight, Nat.reduceAnd]
      have hi' : i = roots.length := by omega
      subst hi'
      rw [List.take_of_length_le (by omega)] at hI
      clear hle hc hi
      refine Hwp.loop (fun n fr H' => ∃ p ord tvb lvb, n = T.length + 1 - p ∧ p ≤ ord.length ∧ ScanInv T roots p ord ∧ bfs T roots = scan T (T.length + 1 - p) p ord ∧ RLive H H' ga H.next (H.next + 1) size T (bfs T roots) ord p 0 (.slice taa T.length T.length) tvb lva lvb ov (roots.map (tr T (bfs T roots))) ∧
         FLe (hfr 92 [(10, I p), (8, ov), (7, .slice (some ⟨H.next + 1, 0, none⟩) T.length T.length), (6, ptr H.next 0), (0, ptr ga 0)]) fr) (T.length + 1) ?_ ?_
      · exact ⟨0, _, tvb, lvb, by omega, by omega, ScanInv.start T roots, rfl, hI, fle_of (by simp [flook])⟩
      · clear hI tvb lvb
        rintro n fr H' ⟨p, ord, tvb, lvb, rfl, hp, hS, hF, hI, hle⟩
        refine Hwp.weaken hle (HW.sound _ _ _ _ ?_)
        have hol := hS.le
        have hbs := hI.br.b.s
        obtain ⟨ba, hbl⟩ := hI.br.b.t.len
        rw [midT_length] at hbl
        subst hbl
        by_cases hpo : p < ord.length
        · obtain ⟨i, hi⟩ : ∃ i, ord[p]? = some i := ⟨_, List.getElem?_eq_getElem hpo⟩
          have hil : i < T.length := reached_lt (hS.sound i (List.mem_of_getElem? hi))
          obtain ⟨t, hti⟩ : ∃ t, T[i]? = some t := ⟨_, List.getElem?_eq_getElem hil⟩
          have htok := hA.ok t (List.mem_of_getElem? hti)
          have hlen := htok.len
          have hwi : wordsI T i = t.l := by unfold wordsI; rw [hti]
          have hFi : bfs T roots = scan T (T.length - p) (p + 1) (stepAll T ord (wordsI T i)) := by
            rw [hF, show T.length + 1 - p = (T.length - p) + 1 by omega, scan_step hi]
          obtain ⟨Fl2, hFl2⟩ := scan_sub (T := T) (T.length - p) (p + 1) (stepAll T ord (wordsI T i))
          rw [← hFi] at hFl2
          simp (disch := first | omega | (show allOne _ = true; simp [allOne, Value.oneCell']) | (simp only [List.length_cons, List.length_nil, List.length_set, List.length_map, List.length_replicate, List.length_append, List.length_take, List.length_drop, Int.toNat_natCast, Int.toNat_of_nonneg, nx_push, nx_set, nx_kill]; done) | (simp only [List.length_cons, List.length_nil, List.length_set, List.length_map, List.length_replicate, List.length_append, List.length_take, List.length_drop, Int.toNat_natCast, Int.toNat_of_nonneg, nx_push, nx_set, nx_kill]; omega)) only [go_sem, reduceCtorEq, Nat.reduceAdd, Nat.reduceSub, Nat.reduceMul, Nat.reduceLT, Nat.reduceLeDiff, Nat.reduceEqDiff, Nat.reduceBEq, Nat.reduceBNe, Int.reduceBEq, Int.reduceEq, Int.reduceLT, Int.reduceLE, Int.reduceAdd, Int.reduceSub, ↓reduceIte, Int.reduceToNat, Nat.reduceShiftRight, Nat.reduceAnd, hbs, ldc_cells]
          refine Hwp.loop (fun n fr H'' => ∃ q ord' tvb lvb, n = t.l.length - q ∧ q ≤ t.l.length ∧ ord' = stepAll T ord (t.l.take q) ∧ RLive H H'' ga H.next (H.next + 1) size T (bfs T roots) ord' p q (.slice taa T.length T.length) tvb lva lvb ov (roots.map (tr T (bfs T roots))) ∧
              FLe (hfr 92 [(11, I q), (10, I p), (8, ov), (7, .slice (some ⟨H.next + 1, 0, none⟩) T.length T.length), (6, ptr H.next 0), (0, ptr ga 0)]) fr) t.l.length ?_ ?_
          · exact ⟨0, ord, _, lvb, by omega, by omega, by simp [stepAll], hI, fle_of (by simp [flook])⟩
          · clear hI hbs
            rintro n fr H2 ⟨q, ord', tvb, lvb, rfl, hq, rfl, hJ, hle2⟩
            refine Hwp.ok fun hok2 => Hwp.weaken hle2 (HW.sound _ _ _ _ ?_)
            have hbs := hJ.br.b.s
            obtain ⟨sl, hsl⟩ := stepAll_sub (T := T) (t.l.take q) ord
            have hgi : (stepAll T ord (t.l.take q))[p]? = some i := by rw [hsl, List.getElem?_append_left hpo]; exact hi
            have hmt := midT_get T (bfs T roots) p q _ 0 p i hgi
            rw [Nat.zero_add] at hmt
            have hml : (midThing T (bfs T roots) p q p i).l.length = t.l.length := by unfold midThing; rw [hti]; simp; omega
            obtain ⟨bb, lv, f1, f2, f3, f4, f5, f6, f7⟩ := hJ.br.b.thing hmt
            have hrl : (rcells 0 (midT T (bfs T roots) p q 0 (stepAll T ord (t.l.take q))) lvb).length = (midT T (bfs T roots) p q 0 (stepAll T ord (t.l.take q))).length * 3 := rcells_length _ _ _ hJ.br.b.len
            rw [midT_length] at f1 hrl
            subst f1
            have hord1 : (stepAll T ord (t.l.take q)).length ≤ T.length := nodup_le _ (stepAll_nodup _ _ hS.nodup) (stepAll_lt _ _ (fun x hx => reached_lt (hS.sound x hx)))
            have hpl : p < (stepAll T ord (t.l.take q)).length := (List.getElem?_eq_some_iff.1 hgi).1
            obtain ⟨la, hla⟩ := f4.form
            rw [hml] at hla
            subst hla
            by_cases hqc : q < t.l.length
            · obtain ⟨w, hw⟩ : ∃ w, t.l[q]? = some w := ⟨_, List.getElem?_eq_getElem hqc⟩
              have hwlt := htok.words w (List.mem_of_getElem? hw)
              have hmw : (midThing T (bfs T roots) p q p i).l[q]? = some w := by
                unfold midThing; rw [hti]
                simp only [Nat.lt_irrefl, if_false, if_true]
                rw [List.getElem?_append_right (by simp; omega), List.length_map, List.length_take, Nat.min_eq_left hq, Nat.sub_self, List.getElem?_drop, Nat.add_zero]; exact hw
              obtain ⟨lb, hlb1, hlb2⟩ : ∃ lb, la = some ⟨lb, 0, some 2⟩ ∧ H2.get lb = some (.cells ((midThing T (bfs T roots) p q p i).l.map U) true) := by
                rcases f4 with ⟨h1, _⟩ | ⟨lb, h1, h2, h3⟩
                · rw [h1] at hmw; simp at hmw
                · rw [hml] at h2; cases h2; exact ⟨lb, rfl, h3⟩
              subst hlb1
              have hlw : ((midThing T (bfs T roots) p q p i).l.map U)[q]? = some (U w) := by rw [List.getElem?_map, hmw]; rfl
              have est : stepAll T ord (t.l.take (q + 1)) = stepO T (stepAll T ord (t.l.take q)) w := by
                rw [List.take_add_one, hw, stepAll_append]; rfl
              have hpre : ∃ l, bfs T roots = stepO T (stepAll T ord (t.l.take q)) w ++ l := by
                obtain ⟨l', hl'⟩ := stepAll_sub (T := T) (t.l.drop (q + 1)) (stepAll T ord (t.l.take (q + 1)))
                rw [← stepAll_append, List.take_append_drop, est] at hl'
                exact ⟨l' ++ Fl2, by rw [hFl2, hwi, hl', List.append_assoc]⟩
              simp (disch := first | omega | (show allOne _ = true; simp [allOne, Value.oneCell']) | (simp only [List.length_cons, List.length_nil, List.length_set, List.length_map, List.length_replicate, List.length_append, List.length_take, List.length_drop, Int.toNat_natCast, Int.toNat_of_nonneg, nx_push, nx_set, nx_kill]; done) | (simp only [List.length_cons, List.length_nil, List.length_set, List.length_map, List.length_replicate, List.length_append, List.length_take, List.length_drop, Int.toNat_natCast, Int.toNat_of_nonneg, nx_push, nx_set, nx_kill]; omega)) only [go_sem, reduceCtorEq, Nat.reduceAdd, Nat.reduceSub, Nat.reduceMul, Nat.reduceLT, Nat.reduceLeDiff, Nat.reduceEqDiff, Nat.reduceBEq, Nat.reduceBNe, Int.reduceBEq, Int.reduceEq, Int.reduceLT, Int.reduceLE, Int.reduceAdd, Int.reduceSub, ↓reduceIte, Int.reduceToNat, Nat.reduceShiftRight, Nat.reduceAnd, hbs, ldc_cells, ixa_ok, f2, f7, hlb2, hlw]
              refine HCalls.gotOk (RBr.bring hJ.br hsz hu w hwlt hpre (stepAll_nodup _ _ hS.nodup) (stepAll_lt _ _ (fun x hx => reached_lt (hS.sound x hx))) (.inl hpl) _ ?_)
              intro H3 tvb3 lvb3 hbr3 hn3 hf3 hbk3 hok3 _
              simp (disch := first | omega | (show allOne _ = true; simp [allOne, Value.oneCell']) | (simp only [List.length_cons, List.length_nil, List.length_set, List.length_map, List.length_replicate, List.length_append, List.length_take, List.length_drop, Int.toNat_natCast, Int.toNat_of_nonneg, nx_push, nx_set, nx_kill]; done) | (simp only [List.length_cons, List.length_nil, List.length_set, List.length_map, List.length_replicate, List.length_append, List.length_take, List.length_drop, Int.toNat_natCast, Int.toNat_of_nonneg, nx_push, nx_set, nx_kill]; omega)) only [go_sem, reduceCtorEq, Nat.reduceAdd, Nat.reduceSub, Nat.reduceMul, Nat.reduceLT, Nat.reduceLeDiff, Nat.reduceEqDiff, Nat.reduceBEq, Nat.reduceBNe, Int.reduceBEq, Int.reduceEq, Int.reduceLT, Int.reduceLE, Int.reduceAdd, Int.reduceSub, ↓reduceIte, Int.reduceToNat, Nat.reduceShiftRight, Nat.reduceAnd]
              rw [← est] at hbr3
              obtain ⟨s3, hs3⟩ := stepAll_sub (T := T) (t.l.take (q + 1)) ord
              have hgi3 : (stepAll T ord (t.l.take (q + 1)))[p]? = some i := by rw [hs3, List.getElem?_append_left hpo]; exact hi
              have hmt3 := midT_get T (bfs T roots) p q _ 0 p i hgi3
              rw [Nat.zero_add] at hmt3
              have hbs3 := hbr3.b.s
              obtain ⟨bb3, lv3, g1, g2, g3, g4, g5, g6, g7⟩ := hbr3.b.thing hmt3
              have hrl3 : (rcells 0 (midT T (bfs T roots) p q 0 (stepAll T ord (t.l.take (q + 1)))) lvb3).length = (midT T (bfs T roots) p q 0 (stepAll T ord (t.l.take (q + 1)))).length * 3 := rcells_length _ _ _ hbr3.b.len
              rw [midT_length] at g1 hrl3
              have hpl3 : p < (stepAll T ord (t.l.take (q + 1))).length := (List.getElem?_eq_some_iff.1 hgi3).1
              obtain ⟨lb3, hlv3, hlb3⟩ : ∃ lb, lv3 = .slice (some ⟨lb, 0, some 2⟩) t.l.length t.l.length ∧ H3.get lb = some (.cells ((midThing T (bfs T roots) p q p i).l.map U) true) := by
                rcases g4 with ⟨h1, _⟩ | ⟨lb, h1, h2, h3⟩
                · rw [h1] at hmw; simp at hmw
                · rw [hml] at h2; exact ⟨lb, h2, h3⟩
              subst g1 hlv3
              have htrl : tr T (bfs T roots) w < 18446744073709551616 := by
                refine tr_lt (bfs_nodup T roots) hcl.lt (by omega) hwlt (fun j hj => ?_)
                rw [bfs_mem]
                exact .next i w j (hS.sound i (List.mem_of_getElem? hi)) (by rw [hwi]; exact List.mem_of_getElem? hw) hj
              have hset := hbr3.b.setL hmt3 (i := q) (by omega) htrl (by rw [hml]; exact g3)
              rw [midT_set T (bfs T roots) p q hti hw _ 0 p hgi3 (by omega)] at hset
              have hml3 : ((midThing T (bfs T roots) p q p i).l.map U).length = t.l.length := by simp [hml]
              simp (disch := first | omega | (show allOne _ = true; simp [allOne, Value.oneCell']) | (simp only [List.length_cons, List.length_nil, List.length_set, List.length_map, List.length_replicate, List.length_append, List.length_take, List.length_drop, Int.toNat_natCast, Int.toNat_of_nonneg, nx_push, nx_set, nx_kill]; done) | (simp only [List.length_cons, List.length_nil, List.length_set, List.length_map, List.length_replicate, List.length_append, List.length_take, List.length_drop, Int.toNat_natCast, Int.toNat_of_nonneg, nx_push, nx_set, nx_kill]; omega)) only [go_sem, reduceCtorEq, Nat.reduceAdd, Nat.reduceSub, Nat.reduceMul, Nat.reduceLT, Nat.reduceLeDiff, Nat.reduceEqDiff, Nat.reduceBEq, Nat.reduceBNe, Int.reduceBEq, Int.reduceEq, Int.reduceLT, Int.reduceLE, Int.reduceAdd, Int.reduceSub, ↓reduceIte, Int.reduceToNat, Nat.reduceShiftRight, Nat.reduceAnd, hbs3, ldc_cells, ixa_ok, g2, g7, hlb3, stc_cells]
              have hlbin : lb3 ∈ rblks H.next (.slice (some ⟨bb3, 0, some 6⟩) (stepAll T ord (t.l.take (q + 1))).length (stepAll T ord (t.l.take (q + 1))).length) lvb3 := by
                simp only [rblks, List.mem_cons, List.mem_append, List.mem_flatMap]
                exact .inr (.inr ⟨_, List.mem_of_getElem? g3, by simp [sblk]⟩)
              obtain ⟨c1, c2⟩ := hJ.new
              have hnx := hJ.next
              have hc3 : ∀ x ∈ rblks H.next (.slice (some ⟨bb3, 0, some 6⟩) (stepAll T ord (t.l.take (q + 1))).length (stepAll T ord (t.l.take (q + 1))).length) lvb3, H.next ≤ x := fun x hx => by
                rcases hbk3 x hx with h | h
                · exact c2 x h
                · omega
              have hlbn := hc3 lb3 hlbin
              have hlbw : lb3 ≠ H.next + 1 := fun e => hbr3.bb (e ▸ hlbin)
              have hovn : ∀ c ∈ vblk ov, c ∉ rblks H.next (.slice (some ⟨bb3, 0, some 6⟩) (stepAll T ord (t.l.take (q + 1))).length (stepAll T ord (t.l.take (q + 1))).length) lvb3 := fun c hc hm => by
                obtain ⟨o1, o2, o3⟩ := hJ.onew c hc
                rcases hbk3 c hm with h | h
                · exact o2 h
                · have := hJ.out.lt c hc; omega
              refine ⟨_, ?_, q + 1, _, _, lvb3, rfl, by omega, rfl, ⟨⟨?_, hset, ?_, hbr3.ab, hbr3.bb⟩, ?_, ?_, by simp (disch := first | omega | (simp only [nx_push, nx_set, nx_kill]; done) | (simp only [nx_push, nx_set, nx_kill]; omega)) only [get_push_ne, get_push_eq, get_set_ne, get_set_eq, get_kill_ne, nx_push, nx_set, nx_kill]; omega, ⟨c1, hc3⟩, ?_⟩, fle_of (by simp [flook])⟩
              · omega
              · exact hbr3.a.frame (by simp (disch := first | omega | (simp only [nx_push, nx_set, nx_kill]; done) | (simp only [nx_push, nx_set, nx_kill]; omega)) only [get_push_ne, get_push_eq, get_set_ne, get_set_eq, get_kill_ne, nx_push, nx_set, nx_kill]; omega) fun x hx => by have := hal x hx; simp (disch := first | omega | (simp only [nx_push, nx_set, nx_kill]; done) | (simp only [nx_push, nx_set, nx_kill]; omega)) only [get_push_ne, get_push_eq, get_set_ne, get_set_eq, get_kill_ne, nx_push, nx_set, nx_kill]
              · simp (disch := first | omega | (simp only [nx_push, nx_set, nx_kill]; done) | (simp only [nx_push, nx_set, nx_kill]; omega)) only [get_push_ne, get_push_eq, get_set_ne, get_set_eq, get_kill_ne, nx_push, nx_set, nx_kill]; exact hbr3.w
              · refine (hJ.out.frame hn3 (fun c hc => ?_)).frame (by simp (disch := first | omega | (simp only [nx_push, nx_set, nx_kill]; done) | (simp only [nx_push, nx_set, nx_kill]; omega)) only [get_push_ne, get_push_eq, get_set_ne, get_set_eq, get_kill_ne, nx_push, nx_set, nx_kill]; omega) (fun c hc => ?_)
                · obtain ⟨o1, o2, o3⟩ := hJ.onew c hc
                  exact hf3 c (hJ.out.lt c hc) o2 o3
                · have : c ≠ lb3 := fun e => hovn c hc (e ▸ hlbin)
                  simp (disch := first | omega | (simp only [nx_push, nx_set, nx_kill]; done) | (simp only [nx_push, nx_set, nx_kill]; omega)) only [get_push_ne, get_push_eq, get_set_ne, get_set_eq, get_kill_ne, nx_push, nx_set, nx_kill]
              · intro c hc
                simp (disch := first | omega | (simp only [nx_push, nx_set, nx_kill]; done) | (simp only [nx_push, nx_set, nx_kill]; omega)) only [get_push_ne, get_push_eq, get_set_ne, get_set_eq, get_kill_ne, nx_push, nx_set, nx_kill]
                rw [hf3 c (by omega) (fun hm => by have := c2 c hm; omega) (by omega)]
                exact hJ.keep c hc
              · intro c hc
                obtain ⟨o1, o2, o3⟩ := hJ.onew c hc
                exact ⟨o1, hovn c hc, o3⟩
            · have hqq : q = t.l.length := by omega
              subst hqq
              simp (disch := first | omega | (show allOne _ = true; simp [allOne, Value.oneCell']) | (simp only [List.length_cons, List.length_nil, List.length_set, List.length_map, List.length_replicate, List.length_append, List.length_take, List.length_drop, Int.toNat_natCast, Int.toNat_of_nonneg, nx_push, nx_set, nx_kill]; done) | (simp only [List.length_cons, List.length_nil, List.length_set, List.length_map, List.length_replicate, List.length_append, List.length_take, List.length_drop, Int.toNat_natCast, Int.toNat_of_nonneg, nx_push, nx_set, nx_kill]; omega)) only [go_sem, reduceCtorEq, Nat.reduceAdd, Nat.reduceSub, Nat.reduceMul, Nat.reduceLT, Nat.reduceLeDiff, Nat.reduceEqDiff, Nat.reduceBEq, Nat.reduceBNe, Int.reduceBEq, Int.reduceEq, Int.reduceLT, Int.reduceLE, Int.reduceAdd, Int.reduceSub, ↓reduceIte, Int.reduceToNat, Nat.reduceShiftRight, Nat.reduceAnd, hbs, ldc_cells, ixa_ok, f2, f7]
              rw [List.take_of_length_le (by omega), show stepAll T ord t.l = stepAll T ord (wordsI T i) by rw [hwi]] at hJ
              obtain ⟨l, hl⟩ := stepAll_sub (T := T) (wordsI T i) ord
              have e : midT T (bfs T roots) p t.l.length 0 (stepAll T ord (wordsI T i)) = midT T (bfs T roots) (p + 1) 0 0 (stepAll T ord (wordsI T i)) := by
                refine midT_turn _ _ _ _ _ _ (fun n j hn e => ?_)
                have : n = p := by omega
                subst this
                rw [hl, List.getElem?_append_left hpo, hi] at hn
                cases hn; rw [hwi]
              refine ⟨_, ?_, p + 1, _, _, lvb, rfl, ?_, hS.next hi, ?_, ⟨⟨hJ.br.a, ?_, hJ.br.w, hJ.br.ab, hJ.br.bb⟩, hJ.out, hJ.keep, hJ.next, hJ.new, hJ.onew⟩, fle_of (by simp [flook])⟩
              · omega
              · rw [hl, List.length_append]; omega
              · rw [hFi]; congr 1; omega
              · rw [← e]; exact hJ.br.b
        · simp (disch := first | omega | (show allOne _ = true; simp [allOne, Value.oneCell']) | (simp only [List.length_cons, List.length_nil, List.length_set, List.length_map, List.length_replicate, List.length_append, List.length_take, List.length_drop, Int.toNat_natCast, Int.toNat_of_nonneg, nx_push, nx_set, nx_kill]; done) | (simp only [List.length_cons, List.length_nil, List.length_set, List.length_map, List.length_replicate, List.length_append, List.length_take, List.length_drop, Int.toNat_natCast, Int.toNat_of_nonneg, nx_push, nx_set, nx_kill]; omega)) only [go_sem, reduceCtorEq, Nat.reduceAdd, Nat.reduceSub, Nat.reduceMul, Nat.reduceLT, Nat.reduceLeDiff, Nat.reduceEqDiff, Nat.reduceBEq, Nat.reduceBNe, Int.reduceBEq, Int.reduceEq, Int.reduceLT, Int.reduceLE, Int.reduceAdd, Int.reduceSub, ↓reduceIte, Int.reduceToNat, Nat.reduceShiftRight, Nat.reduceAnd, hbs, ldc_cells]
          have hpe : p = ord.length := by omega
          have hFo : bfs T roots = ord := by rw [hF]; exact scan_stop (by omega)
          have hto := hI.br.b
          rw [midT_done T (bfs T roots) p 0 ord 0 (by omega)] at hto
          rw [← hFo] at hto
          exact hR H' H.next _ lvb ov hto hI.out hI.keep hI.next (by
            have := hI.new.2
            rw [← hFo] at this
            exact this)
end Go.HL
