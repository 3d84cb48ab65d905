/-
  Walks: events as one text: the document's, and the program's.
-/
import Derived.Test.YtoflnkdngcdejaaGreatDoorPQ4
set_option linter.unusedVariables false
set_option linter.unusedSimpArgs false
namespace Go.HL
open Go.RowKit Go.Proofs
set_option maxHeartbeats 4000000
set_option maxRecDepth 100000
set_option linter.unusedSimpArgs false
set_option linter.unusedVariables false
/-- An event. -/
structure Ev where
  k : Int
  a : Int
  b : Int
  s : List UInt8
def Ev.ok (e : Ev) : Prop := i64 e.a ∧ i64 e.b ∧ e.s.length ≤ 10000000
def Ev.txt (e : Ev) : List UInt8 := partF e.k e.a e.b e.s
def Ev.cs (e : Ev) : List Value := [.int .i64 e.k, .int .i64 e.a, .int .i64 e.b, S e.s]
/-- A row of events that is read. -/
def evRow (H : HHeap) (v : Value) (l : List Ev) : Prop :=
  ∃ b c, v = .slice b l.length c ∧ ∀ i e, l[i]? = some e → ∃ bb o cs rw, b = some ⟨bb, o, none⟩ ∧ bb < H.next ∧ H.get bb = some (.cells cs rw) ∧ o + l.length * 4 ≤ cs.length ∧ (cs.drop (o + i * 4)).take 4 = e.cs
theorem evRow.old {H H' : HHeap} {v : Value} {l : List Ev} (h : evRow H v l) (hO : Old H H') : evRow H' v l := by
  obtain ⟨b, c, h1, h2⟩ := h
  refine ⟨b, c, h1, fun i e he => ?_⟩
  obtain ⟨bb, o, cs, rw', e1, e2, e3, e4⟩ := h2 i e he
  have := hO.1
  exact ⟨bb, o, cs, rw', e1, by omega, by rw [hO.2 _ e2]; exact e3, e4⟩
def sep2 : List UInt8 := [59, 32]
theorem join_len (l : List Ev) (hl : ∀ e ∈ l, e.ok) : (joinF sep2 (l.map Ev.txt)).length ≤ l.length * 10000070 := by
  have key : ∀ l : List Ev, (∀ e ∈ l, e.ok) → (((l.map Ev.txt).map (sep2 ++ ·)).flatten).length ≤ l.length * 10000070 := by
    intro l
    induction l with
    | nil => simp
    | cons e l ih =>
      intro h
      have h1 := ih fun e he => h e (by simp [he])
      have h0 := h e (by simp)
      have h2 := partF_len e.k e.a e.b e.s h0.1 h0.2.1
      have h3 := h0.2.2
      simp only [List.map_cons, List.flatten_cons, List.length_append, List.length_cons, sep2, List.length_nil] at h1 ⊢
      have : (e.txt).length ≤ e.s.length + 60 := h2
      omega
  cases l with
  | nil => simp [joinF]
  | cons e l =>
    have h1 := key l fun e he => hl e (by simp [he])
    have h0 := hl e (by simp)
    have h2 := partF_len e.k e.a e.b e.s h0.1 h0.2.1
    have h3 := h0.2.2
    simp only [List.map_cons, joinF, List.length_append, List.length_cons]
    have : (e.txt).length ≤ e.s.length + 60 := h2
    simp only [List.map_map] at h1 ⊢
    omega
theorem ref_Trace (l : List Ev) (hl : ∀ e ∈ l, e.ok) (hn : l.length ≤ 40) (v : Value) (H : HHeap) (hv : evRow H v l) (R : Value → HHeap → Prop) (hR : ∀ H', Old H H' → R (S (joinF sep2 (l.map Ev.txt))) H') : HCalls Tryz.prog 7 [v] H R := by
  obtain ⟨b, c, rfl, hrow⟩ := hv
  have hv : evRow H (.slice b l.length c) l := ⟨b, c, rfl, hrow⟩
  refine HCalls.of_hw Tryz.func7 rfl _ Tryz.ntmps7 _ (by rw [Tryz.results7]) ?_
  rw [hframe0_eq _ _ (by simp)]
  simp only [List.zipIdx_cons, List.zipIdx_nil, List.map_cons, List.map_nil, Nat.reduceAdd]
  simp (disch := first | omega | (show allOne _ = true; simp [allOne, Value.oneCell', S]) | (simp only [List.length_cons, List.length_nil, List.length_set, List.length_map, List.length_replicate, List.length_append, List.length_take, List.length_drop, Int.toNat_natCast, Int.toNat_of_nonneg, nx_push, nx_set, nx_kill]; done) | (simp only [List.length_cons, List.length_nil, List.length_set, List.length_map, List.length_replicate, List.length_append, List.length_take, List.length_drop, Int.toNat_natCast, Int.toNat_of_nonneg, nx_push, nx_set, nx_kill]; omega)) only [go_sem, reduceCtorEq, Nat.reduceAdd, Nat.reduceSub, Nat.reduceMul, Nat.reduceLT, Nat.reduceLeDiff, Nat.reduceEqDiff, Nat.reduceBEq, Nat.reduceBNe, Int.reduceBEq, Int.reduceEq, Int.reduceLT, Int.reduceLE, Int.reduceAdd, Int.reduceSub, ↓reduceIte, Int.reduceToNat, Nat.reduceShiftRight, Nat.reduceAnd]
  refine Hwp.loop (fun n fr H' => ∃ i, n = l.length - i ∧ i ≤ l.length ∧ Old H H' ∧ FLe (hfr 23 [(4, I i), (3, S (joinF sep2 ((l.take i).map Ev.txt))), (0, .slice b l.length c)]) fr) l.length ?_ ?_
  · exact ⟨0, by omega, by omega, Old.refl H, fle_of (by simp [flook, joinF])⟩
  · rintro n fr H' ⟨i, rfl, hi, hO, hle⟩
    refine Hwp.weaken hle (HW.sound _ _ _ _ ?_)
    by_cases hc : i < l.length
    · obtain ⟨e, he⟩ : ∃ e, l[i]? = some e := ⟨_, List.getElem?_eq_getElem hc⟩
      obtain ⟨b', c', hbc, hrow'⟩ := hv.old hO
      obtain ⟨bb, o, cs, rw', e1, e2, e3, e4, e5⟩ := hrow' i e he
      cases hbc
      subst e1
      have hem : e ∈ l := List.mem_of_getElem? he
      have hok := hl e hem
      have hin : i * 4 + 4 ≤ l.length * 4 := by omega
      have hcur := join_len (l.take i) (fun e he => hl e (List.mem_of_mem_take he))
      rw [List.length_take] at hcur
      have htxt : e.txt.length ≤ e.s.length + 60 := partF_len e.k e.a e.b e.s hok.1 hok.2.1
      have htxt' : (partF e.k e.a e.b e.s).length ≤ e.s.length + 60 := htxt
      have hs := hok.2.2
      have hmin : min i l.length * 10000070 ≤ 40 * 10000070 := Nat.mul_le_mul_right _ (by omega)
      have hstep : joinF sep2 ((l.take (i + 1)).map Ev.txt) = if i = 0 then e.txt else joinF sep2 ((l.take i).map Ev.txt) ++ (sep2 ++ e.txt) := by
        rw [List.take_add_one, he, Option.toList_some, List.map_append, List.map_cons, List.map_nil, joinF_snoc]
        by_cases h0 : i = 0
        · subst h0; simp
        · rw [if_neg (by cases l with | nil => simp at hc | cons x l => cases i with | zero => exact absurd rfl h0 | succ i => simp), if_neg h0]
      generalize hcu : joinF sep2 ((l.take i).map Ev.txt) = cur at *
      by_cases h0 : i = 0
      · subst h0
        have hcn : cur = [] := by rw [← hcu]; rfl
        subst hcn
        have e5' : (cs.drop o).take 4 = e.cs := by simpa using e5
        simp (disch := first | omega | (show allOne _ = true; simp [allOne, Value.oneCell', S]) | (simp only [List.length_cons, List.length_nil, List.length_set, List.length_map, List.length_replicate, List.length_append, List.length_take, List.length_drop, Int.toNat_natCast, Int.toNat_of_nonneg, nx_push, nx_set, nx_kill]; done) | (simp only [List.length_cons, List.length_nil, List.length_set, List.length_map, List.length_replicate, List.length_append, List.length_take, List.length_drop, Int.toNat_natCast, Int.toNat_of_nonneg, nx_push, nx_set, nx_kill]; omega)) only [go_sem, reduceCtorEq, Nat.reduceAdd, Nat.reduceSub, Nat.reduceMul, Nat.reduceLT, Nat.reduceLeDiff, Nat.reduceEqDiff, Nat.reduceBEq, Nat.reduceBNe, Int.reduceBEq, Int.reduceEq, Int.reduceLT, Int.reduceLE, Int.reduceAdd, Int.reduceSub, ↓reduceIte, Int.reduceToNat, Nat.reduceShiftRight, Nat.reduceAnd, ixa_ok, e3, lda_cells, e5']
        refine ref_part e.k e.a e.b e.s hok.1 hok.2.1 (by omega) _ _ ?_
        intro H2 hO2
        simp (disch := first | omega | (show allOne _ = true; simp [allOne, Value.oneCell', S]) | (simp only [List.length_cons, List.length_nil, List.length_set, List.length_map, List.length_replicate, List.length_append, List.length_take, List.length_drop, Int.toNat_natCast, Int.toNat_of_nonneg, nx_push, nx_set, nx_kill]; done) | (simp only [List.length_cons, List.length_nil, List.length_set, List.length_map, List.length_replicate, List.length_append, List.length_take, List.length_drop, Int.toNat_natCast, Int.toNat_of_nonneg, nx_push, nx_set, nx_kill]; omega)) only [go_sem, reduceCtorEq, Nat.reduceAdd, Nat.reduceSub, Nat.reduceMul, Nat.reduceLT, Nat.reduceLeDiff, Nat.reduceEqDiff, Nat.reduceBEq, Nat.reduceBNe, Int.reduceBEq, Int.reduceEq, Int.reduceLT, Int.reduceLE, Int.reduceAdd, Int.reduceSub, ↓reduceIte, Int.reduceToNat, Nat.reduceShiftRight, Nat.reduceAnd, sadd_ok]
        refine ⟨_, ?_, 1, rfl, by omega, hO.trans hO2, fle_of ?_⟩
        · omega
        · rw [show (0 + 1) = 1 from rfl, if_pos rfl] at hstep
          rw [hstep]
          simp [flook, Ev.txt]
      · simp (disch := first | omega | (show allOne _ = true; simp [allOne, Value.oneCell', S]) | (simp only [List.length_cons, List.length_nil, List.length_set, List.length_map, List.length_replicate, List.length_append, List.length_take, List.length_drop, Int.toNat_natCast, Int.toNat_of_nonneg, nx_push, nx_set, nx_kill]; done) | (simp only [List.length_cons, List.length_nil, List.length_set, List.length_map, List.length_replicate, List.length_append, List.length_take, List.length_drop, Int.toNat_natCast, Int.toNat_of_nonneg, nx_push, nx_set, nx_kill]; omega)) only [go_sem, reduceCtorEq, Nat.reduceAdd, Nat.reduceSub, Nat.reduceMul, Nat.reduceLT, Nat.reduceLeDiff, Nat.reduceEqDiff, Nat.reduceBEq, Nat.reduceBNe, Int.reduceBEq, Int.reduceEq, Int.reduceLT, Int.reduceLE, Int.reduceAdd, Int.reduceSub, ↓reduceIte, Int.reduceToNat, Nat.reduceShiftRight, Nat.reduceAnd, ixa_ok, e3, lda_cells, e5, sadd_ok]
        refine ref_part e.k e.a e.b e.s hok.1 hok.2.1 (by omega) _ _ ?_
        intro H2 hO2
        simp (disch := first | omega | (show allOne _ = true; simp [allOne, Value.oneCell', S]) | (simp only [List.length_cons, List.length_nil, List.length_set, List.length_map, List.length_replicate, List.length_append, List.length_take, List.length_drop, Int.toNat_natCast, Int.toNat_of_nonneg, nx_push, nx_set, nx_kill]; done) | (simp only [List.length_cons, List.length_nil, List.length_set, List.length_map, List.length_replicate, List.length_append, List.length_take, List.length_drop, Int.toNat_natCast, Int.toNat_of_nonneg, nx_push, nx_set, nx_kill]; omega)) only [go_sem, reduceCtorEq, Nat.reduceAdd, Nat.reduceSub, Nat.reduceMul, Nat.reduceLT, Nat.reduceLeDiff, Nat.reduceEqDiff, Nat.reduceBEq, Nat.reduceBNe, Int.reduceBEq, Int.reduceEq, Int.reduceLT, Int.reduceLE, Int.reduceAdd, Int.reduceSub, ↓reduceIte, Int.reduceToNat, Nat.reduceShiftRight, Nat.reduceAnd, sadd_ok]
        refine ⟨_, ?_, i + 1, rfl, by omega, hO.trans hO2, fle_of ?_⟩
        · omega
        · rw [if_neg h0] at hstep
          rw [hstep]
          simp [flook, Ev.txt, sep2]
    · simp (disch := first | omega | (show allOne _ = true; simp [allOne, Value.oneCell', S]) | (simp only [List.length_cons, List.length_nil, List.length_set, List.length_map, List.length_replicate, List.length_append, List.length_take, List.length_drop, Int.toNat_natCast, Int.toNat_of_nonneg, nx_push, nx_set, nx_kill]; done) | (simp only [List.length_cons, List.length_nil, List.length_set, List.length_map, List.length_replicate, List.length_append, List.length_take, List.length_drop, Int.toNat_natCast, Int.toNat_of_nonneg, nx_push, nx_set, nx_kill]; omega)) only [go_sem, reduceCtorEq, Nat.reduceAdd, Nat.reduceSub, Nat.reduceMul, Nat.reduceLT, Nat.reduceLeDiff, Nat.reduceEqDiff, Nat.reduceBEq, Nat.reduceBNe, Int.reduceBEq, Int.reduceEq, Int.reduceLT, Int.reduceLE, Int.reduceAdd, Int.reduceSub, ↓reduceIte, Int.reduceToNat, Nat.reduceShiftRight, Nat.reduceAnd]
      have e0 : l.take i = l := List.take_of_length_le (by omega)
      rw [e0]
      exact hR _ hO
theorem Gr.texts {Z : Zs} {H : HHeap} {v : Value} {ws : List (List UInt8)} (h : Gr rS Z H v ws) (hne : ws ≠ []) : ∃ b, v = .slice (some ⟨b, 0, some (2 * 1)⟩) ws.length ws.length ∧ H.get b = some (.cells (ws.map S) true) := by
  rcases h with ⟨rfl, _⟩ | ⟨b, cs, rw', rfl, _⟩ | ⟨b, cs, h1, h2, h3, h4, h5, h6⟩
  · exact absurd rfl hne
  · exact absurd rfl hne
  · refine ⟨b, h2, ?_⟩
    rw [h4]
    have h5 : cs.length = ws.length := by rw [h5]; exact Nat.mul_one _
    congr 2
    apply List.ext_getElem?
    intro i
    by_cases hi : i < ws.length
    · obtain ⟨x, hx⟩ : ∃ x, ws[i]? = some x := ⟨_, List.getElem?_eq_getElem hi⟩
      have := rOne_at (h6 i x hx)
      rw [Nat.zero_add, Nat.mul_one] at this
      rw [this, List.getElem?_map, hx]; rfl
    · rw [List.getElem?_eq_none (by omega), List.getElem?_eq_none (by rw [List.length_map]; omega)]
theorem joinS {H : HHeap} {b c : Nat} {sp : Option Nat} {ws : List (List UInt8)} (hb : H.get b = some (.cells (ws.map S) true)) (hne : ws ≠ []) (hN : ws.length ≤ 1000000) (hlen : (joinF sep2 ws).length ≤ 140737488355328) (R : Value → HHeap → Prop) (hR : R (S (joinF sep2 ws)) H) :
    HCalls Tryz.prog 11 [.slice (some ⟨b, 0, sp⟩) ws.length c, S [59, 32]] H R := by
  have e1 : ((ws.map (fun t => (⟨t.toArray⟩ : ByteArray))).map (·.data.toList)) = ws := by
    rw [List.map_map]; exact (List.map_congr_left fun t _ => rfl).trans (List.map_id _)
  have e2 : Lib.join ((ws.map (fun t => (⟨t.toArray⟩ : ByteArray))).map (·.data.toList)) (⟨#[59, 32]⟩ : ByteArray).data.toList = joinF sep2 ws := by rw [e1, joinF_join]; rfl
  have hp : 0 < ws.length := by cases ws with | nil => exact absurd rfl hne | cons _ _ => simp
  refine (strings_Join (sp := sp) (c := c) (n := ws.length) (xs := ws.map (fun t => (⟨t.toArray⟩ : ByteArray))) (sep := ⟨#[59, 32]⟩) hb (by rw [List.take_of_length_le (by simp), List.map_map]; rfl) (by simp) hp (by omega) (by rw [e2]; exact hlen)).mono ?_
  rintro v H' ⟨rfl, rfl⟩
  rw [e2]
  exact hR
theorem wh_Join (vs : List Value) : hwho Tryz.prog (some (.func (.func 11) #[] #[])) (some vs) = some (11, vs) := hwho_func0 _ vs (by kernel_rfl)
theorem desk_Trace (l : List Ev) (hl : ∀ e ∈ l, e.ok) (hn : l.length ≤ 40) (v : Value) (H : HHeap) (hv : evRow H v l) (R : Value → HHeap → Prop) (hR : ∀ H', Old H H' → R (S (joinF sep2 (l.map Ev.txt))) H') : HCalls Tryz.prog 6 [v] H R := by
  obtain ⟨b, c, rfl, hrow⟩ := hv
  have hv : evRow H (.slice b l.length c) l := ⟨b, c, rfl, hrow⟩
  refine HCalls.ok fun hok0 => ?_
  refine HCalls.of_hw Tryz.func6 rfl _ Tryz.ntmps6 _ (by rw [Tryz.results6]) ?_
  rw [hframe0_eq _ _ (by simp)]
  simp only [List.zipIdx_cons, List.zipIdx_nil, List.map_cons, List.map_nil, Nat.reduceAdd]
  simp (disch := first | omega | (show allOne _ = true; simp [allOne, Value.oneCell', S]) | (simp only [List.length_cons, List.length_nil, List.length_set, List.length_map, List.length_replicate, List.length_append, List.length_take, List.length_drop, Int.toNat_natCast, Int.toNat_of_nonneg, nx_push, nx_set, nx_kill]; done) | (simp only [List.length_cons, List.length_nil, List.length_set, List.length_map, List.length_replicate, List.length_append, List.length_take, List.length_drop, Int.toNat_natCast, Int.toNat_of_nonneg, nx_push, nx_set, nx_kill]; omega)) only [go_sem, reduceCtorEq, Nat.reduceAdd, Nat.reduceSub, Nat.reduceMul, Nat.reduceLT, Nat.reduceLeDiff, Nat.reduceEqDiff, Nat.reduceBEq, Nat.reduceBNe, Int.reduceBEq, Int.reduceEq, Int.reduceLT, Int.reduceLE, Int.reduceAdd, Int.reduceSub, ↓reduceIte, Int.reduceToNat, Nat.reduceShiftRight, Nat.reduceAnd]
  refine Hwp.loop (fun n fr H' => ∃ i v, n = l.length - i ∧ i ≤ l.length ∧ Old H H' ∧ Gr rS (fun _ => False) H' v ((l.take i).map Ev.txt) ∧ (i = 0 → v = .slice none 0 0) ∧ (∀ b ∈ sblk v, H.next ≤ b ∧ b < H'.next) ∧ FLe (hfr 20 [(8, I i), (7, I l.length), (6, .slice b l.length c), (3, v)]) fr) l.length ?_ ?_
  · exact ⟨0, .slice none 0 0, by omega, by omega, Old.refl H, Gr.nil _ _ _, fun _ => rfl, by simp [sblk], fle_of (by simp [flook])⟩
  · rintro n fr H' ⟨i, gv, rfl, hi, hO, hG, hG0, hgb, hle⟩
    refine Hwp.weaken hle (HW.sound _ _ _ _ ?_)
    by_cases hc : i < l.length
    · obtain ⟨e, he⟩ : ∃ e, l[i]? = some e := ⟨_, List.getElem?_eq_getElem hc⟩
      obtain ⟨b', c', hbc, hrow'⟩ := hv.old hO
      obtain ⟨bb, o, cs, rw', e1, e2, e3, e4, e5⟩ := hrow' i e he
      cases hbc
      subst e1
      have hem : e ∈ l := List.mem_of_getElem? he
      have hok := hl e hem
      have hin : i * 4 + 4 ≤ l.length * 4 := by omega
      have hs := hok.2.2
      have e5 : (cs.drop (o + i * 4)).take 4 = [.int .i64 e.k, .int .i64 e.a, .int .i64 e.b, S e.s] := e5
      simp (disch := first | omega | (show allOne _ = true; simp [allOne, Value.oneCell', S]) | (simp only [List.length_cons, List.length_nil, List.length_set, List.length_map, List.length_replicate, List.length_append, List.length_take, List.length_drop, Int.toNat_natCast, Int.toNat_of_nonneg, nx_push, nx_set, nx_kill]; done) | (simp only [List.length_cons, List.length_nil, List.length_set, List.length_map, List.length_replicate, List.length_append, List.length_take, List.length_drop, Int.toNat_natCast, Int.toNat_of_nonneg, nx_push, nx_set, nx_kill]; omega)) only [go_sem, reduceCtorEq, Nat.reduceAdd, Nat.reduceSub, Nat.reduceMul, Nat.reduceLT, Nat.reduceLeDiff, Nat.reduceEqDiff, Nat.reduceBEq, Nat.reduceBNe, Int.reduceBEq, Int.reduceEq, Int.reduceLT, Int.reduceLE, Int.reduceAdd, Int.reduceSub, ↓reduceIte, Int.reduceToNat, Nat.reduceShiftRight, Nat.reduceAnd, ixa_ok, e3, lda_cells, e5, sta_cells, splice_full]
      refine desk_part e.k e.a e.b e.s hok.1 hok.2.1 (by omega) _ _ ?_
      intro H2 hO2
      simp (disch := first | omega | (show allOne _ = true; simp [allOne, Value.oneCell', S]) | (simp only [List.length_cons, List.length_nil, List.length_set, List.length_map, List.length_replicate, List.length_append, List.length_take, List.length_drop, Int.toNat_natCast, Int.toNat_of_nonneg, nx_push, nx_set, nx_kill]; done) | (simp only [List.length_cons, List.length_nil, List.length_set, List.length_map, List.length_replicate, List.length_append, List.length_take, List.length_drop, Int.toNat_natCast, Int.toNat_of_nonneg, nx_push, nx_set, nx_kill]; omega)) only [go_sem, reduceCtorEq, Nat.reduceAdd, Nat.reduceSub, Nat.reduceMul, Nat.reduceLT, Nat.reduceLeDiff, Nat.reduceEqDiff, Nat.reduceBEq, Nat.reduceBNe, Int.reduceBEq, Int.reduceEq, Int.reduceLT, Int.reduceLE, Int.reduceAdd, Int.reduceSub, ↓reduceIte, Int.reduceToNat, Nat.reduceShiftRight, Nat.reduceAnd]
      have hlen : ((l.take i).map Ev.txt).length ≤ 40 := by rw [List.length_map, List.length_take]; omega
      refine HGo_add1 (R := rS) (n := 1) (x := e.txt) hG rfl (by omega) (get_push_same _) ((Old.push_set H' _ _).trans (hO2.trans (Old.push _ _))) (fun b h => h.elim) (fun b hb => (hgb b hb).2) rfl (by omega) (by omega) ?_
      intro v' H3 hG' hb' hn' hold
      simp (disch := first | omega | (show allOne _ = true; simp [allOne, Value.oneCell', S]) | (simp only [List.length_cons, List.length_nil, List.length_set, List.length_map, List.length_replicate, List.length_append, List.length_take, List.length_drop, Int.toNat_natCast, Int.toNat_of_nonneg, nx_push, nx_set, nx_kill]; done) | (simp only [List.length_cons, List.length_nil, List.length_set, List.length_map, List.length_replicate, List.length_append, List.length_take, List.length_drop, Int.toNat_natCast, Int.toNat_of_nonneg, nx_push, nx_set, nx_kill]; omega)) only [go_sem, reduceCtorEq, Nat.reduceAdd, Nat.reduceSub, Nat.reduceMul, Nat.reduceLT, Nat.reduceLeDiff, Nat.reduceEqDiff, Nat.reduceBEq, Nat.reduceBNe, Int.reduceBEq, Int.reduceEq, Int.reduceLT, Int.reduceLE, Int.reduceAdd, Int.reduceSub, ↓reduceIte, Int.reduceToNat, Nat.reduceShiftRight, Nat.reduceAnd]
      have hO1 := hO.1
      refine ⟨_, ?_, i + 1, v', rfl, by omega, ⟨by omega, fun c hc' => ?_⟩, ?_, fun h => by omega, fun b hb => ⟨by have := hb' b hb; omega, (hb' b hb).2⟩, fle_of (by simp [flook])⟩
      · omega
      · rw [hold c (by omega) (fun hm => by have := hgb c hm; omega), hO.2 c hc']
      · rw [List.take_add_one, he, Option.toList_some, List.map_append]; exact hG'
    · have e0 : l.take i = l := List.take_of_length_le (by omega)
      rw [e0] at hG
      simp (disch := first | omega | (show allOne _ = true; simp [allOne, Value.oneCell', S]) | (simp only [List.length_cons, List.length_nil, List.length_set, List.length_map, List.length_replicate, List.length_append, List.length_take, List.length_drop, Int.toNat_natCast, Int.toNat_of_nonneg, nx_push, nx_set, nx_kill]; done) | (simp only [List.length_cons, List.length_nil, List.length_set, List.length_map, List.length_replicate, List.length_append, List.length_take, List.length_drop, Int.toNat_natCast, Int.toNat_of_nonneg, nx_push, nx_set, nx_kill]; omega)) only [go_sem, reduceCtorEq, Nat.reduceAdd, Nat.reduceSub, Nat.reduceMul, Nat.reduceLT, Nat.reduceLeDiff, Nat.reduceEqDiff, Nat.reduceBEq, Nat.reduceBNe, Int.reduceBEq, Int.reduceEq, Int.reduceLT, Int.reduceLE, Int.reduceAdd, Int.reduceSub, ↓reduceIte, Int.reduceToNat, Nat.reduceShiftRight, Nat.reduceAnd, wh_Join]
      by_cases hl0 : l = []
      · subst hl0
        have hgv := hG0 (by simpa using hi)
        subst hgv
        refine (strings_Join_nil ⟨#[59, 32]⟩ _).mono ?_
        rintro v H2 ⟨rfl, rfl⟩
        simp (disch := first | omega | (show allOne _ = true; simp [allOne, Value.oneCell', S]) | (simp only [List.length_cons, List.length_nil, List.length_set, List.length_map, List.length_replicate, List.length_append, List.length_take, List.length_drop, Int.toNat_natCast, Int.toNat_of_nonneg, nx_push, nx_set, nx_kill]; done) | (simp only [List.length_cons, List.length_nil, List.length_set, List.length_map, List.length_replicate, List.length_append, List.length_take, List.length_drop, Int.toNat_natCast, Int.toNat_of_nonneg, nx_push, nx_set, nx_kill]; omega)) only [go_sem, reduceCtorEq, Nat.reduceAdd, Nat.reduceSub, Nat.reduceMul, Nat.reduceLT, Nat.reduceLeDiff, Nat.reduceEqDiff, Nat.reduceBEq, Nat.reduceBNe, Int.reduceBEq, Int.reduceEq, Int.reduceLT, Int.reduceLE, Int.reduceAdd, Int.reduceSub, ↓reduceIte, Int.reduceToNat, Nat.reduceShiftRight, Nat.reduceAnd]
        exact hR _ hO
      · obtain ⟨gb, rfl, hg⟩ := hG.texts (by simpa using hl0)
        have hjl := join_len l hl
        have hmul : l.length * 10000070 ≤ 40 * 10000070 := Nat.mul_le_mul_right _ hn
        refine joinS hg (by simpa using hl0) (by simp; omega) (by omega) _ ?_
        simp (disch := first | omega | (show allOne _ = true; simp [allOne, Value.oneCell', S]) | (simp only [List.length_cons, List.length_nil, List.length_set, List.length_map, List.length_replicate, List.length_append, List.length_take, List.length_drop, Int.toNat_natCast, Int.toNat_of_nonneg, nx_push, nx_set, nx_kill]; done) | (simp only [List.length_cons, List.length_nil, List.length_set, List.length_map, List.length_replicate, List.length_append, List.length_take, List.length_drop, Int.toNat_natCast, Int.toNat_of_nonneg, nx_push, nx_set, nx_kill]; omega)) only [go_sem, reduceCtorEq, Nat.reduceAdd, Nat.reduceSub, Nat.reduceMul, Nat.reduceLT, Nat.reduceLeDiff, Nat.reduceEqDiff, Nat.reduceBEq, Nat.reduceBNe, Int.reduceBEq, Int.reduceEq, Int.reduceLT, Int.reduceLE, Int.reduceAdd, Int.reduceSub, ↓reduceIte, Int.reduceToNat, Nat.reduceShiftRight, Nat.reduceAnd]
        exact hR _ hO
end Go.HL
