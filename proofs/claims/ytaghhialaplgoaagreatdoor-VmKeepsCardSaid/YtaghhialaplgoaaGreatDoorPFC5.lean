/-
  Joined: C4, C5.
-/
import Derived.Test.YtaghhialaplgoaaGreatDoorPFC3
import Derived.Test.YtaghhialaplgoaaGreatDoorPFE5
import Derived.Test.YtaghhialaplgoaaGreatDoorPFA10
set_option linter.unusedVariables false
set_option linter.unusedSimpArgs false
/-
  Walks: what is brought.
-/
namespace Go.HL
open Go.RowKit Go.Proofs
set_option maxHeartbeats 4000000
set_option maxRecDepth 100000
set_option linter.unusedSimpArgs false
set_option linter.unusedVariables false

def MadeAt (H : HHeap) (v : Value) (l : List Nat) : Prop :=
  (l = [] ∧ v = .slice none 0 0) ∨ (∃ b, l ≠ [] ∧ v = .slice (some ⟨b, 0, some 2⟩) l.length l.length ∧ b < H.next ∧ H.get b = some (.cells (l.map U) true))
def vblk : Value → List Nat
  | .slice (some a) _ _ => [a.block]
  | _ => []
structure MvAt (H : HHeap) (m g' gw' gh' mm g size : Nat) (T' : Things) (went : List (Nat × Nat)) (made : List Nat) (mv : Value) : Prop where
  s : H.get m = some (.cells [ptr g 0, ptr g' 0, .map (some mm), mv] true)
  to : AtA H g' gw' gh' size T'
  map : H.get mm = some (.map (mapUU went))
  mades : MadeAt H mv made
  d1 : m ≠ g' ∧ m ≠ gw' ∧ m ≠ gh' ∧ m ≠ mm
  d2 : mm ≠ g' ∧ mm ≠ gw' ∧ mm ≠ gh'
  lt : m < H.next ∧ g' < H.next ∧ gw' < H.next ∧ gh' < H.next ∧ mm < H.next
  mlen : made.length = T'.length
  mvn : ∀ b ∈ vblk mv, b ≠ m ∧ b ≠ g' ∧ b ≠ gw' ∧ b ≠ gh' ∧ b ≠ mm

def bareN (w : Nat) : Nat := if w % 8 = 1 ∧ w / 8 < 1099511627776 then 26 else w

theorem length_le_used : ∀ (T : Things), T.length ≤ usedOf T
  | [] => by simp
  | t :: T => by have := length_le_used T; simp [usedOf, Thing.room]; omega
theorem lk40_some {H : HHeap} {b : Nat} {m : List (Nat × Nat)} (hg : H.get b = some (.map (mapUU m))) {w v : Nat} (hl : m.lookup w = some v) : hlookup Tryz.prog H 142 (.map (some b)) (.int .u64 (w : Int)) true = some (.tuple #[.int .u64 (v : Int), .bool true]) :=
  x_lookup_some Tryz.underlying142 Tryz.underlying30 hg hl
theorem lk40_none {H : HHeap} {b : Nat} {m : List (Nat × Nat)} (hg : H.get b = some (.map (mapUU m))) {w : Nat} (hl : m.lookup w = none) : hlookup Tryz.prog H 142 (.map (some b)) (.int .u64 (w : Int)) true = some (.tuple #[.int .u64 0, .bool false]) :=
  x_lookup_none Tryz.underlying142 Tryz.underlying30 (by kernel_rfl) hg hl

theorem mu40 {H : HHeap} {b w v : Nat} {m : List (Nat × Nat)} (hg : H.get b = some (.map (mapUU m))) (hl : m.lookup w = none) : hmapUpdate Tryz.prog H 142 (.map (some b)) (.int .u64 (w : Int)) (.int .u64 (v : Int)) = some (H.set b (.map (mapUU (m ++ [(w, v)])))) :=
  x_update_new Tryz.underlying142 Tryz.underlying30 hg hl v
theorem AtA.frame {H H' : HHeap} {g gw gh size : Nat} {T : Things} (h : AtA H g gw gh size T) (f : ∀ b, b = g ∨ b = gw ∨ b = gh → H'.get b = H.get b) : AtA H' g gw gh size T :=
  ⟨by rw [f _ (.inl rfl)]; exact h.a, by rw [f _ (.inr (.inl rfl))]; exact h.w, by rw [f _ (.inr (.inr rfl))]; exact h.h, h.room, h.big, h.pos, h.ok, h.ne1, h.ne2, h.ne3⟩

theorem move_bring (H : HHeap) (m g' gw' gh' mm g gw gh size0 size : Nat) (T T' : Things) (went : List (Nat × Nat)) (made : List Nat) (mv : Value) (hM : MvAt H m g' gw' gh' mm g size T' went made mv)
    (hA : AtA H g gw gh size0 T) (hAlt : g < H.next ∧ gw < H.next ∧ gh < H.next) (w : Nat) (hw : w < 18446744073709551616)
    (hroom : ∀ t, findT T w = some t → went.lookup w = none → usedOf T' + t.room ≤ size) (R : Value → HHeap → Prop)
    (h1 : findT T w = none → R (U (bareN w)) H)
    (h2 : ∀ t x, findT T w = some t → went.lookup w = some x → R (U x) H)
    (h3 : ∀ t H' mv', findT T w = some t → went.lookup w = none → MvAt H' m g' gw' gh' mm g size (T' ++ [t]) (went ++ [(w, wordAt (usedOf T'))]) (made ++ [wordAt (usedOf T')]) mv' →
      H.next ≤ H'.next → (∀ b, b < H.next → b ≠ m → b ≠ g' → b ≠ gw' → b ≠ gh' → b ≠ mm → b ∉ vblk mv → H'.get b = H.get b) → (∀ b ∈ vblk mv', b ∈ vblk mv ∨ H.next ≤ b) → R (U (wordAt (usedOf T'))) H') : HCalls Tryz.prog 78 [ptr m 0, U w] H R := by
  refine HCalls.of_hw Tryz.func78 rfl _ Tryz.ntmps78 _ (by rw [Tryz.results78]) ?_
  rw [hframe0_eq _ _ (by simp)]
  simp only [List.zipIdx_cons, List.zipIdx_nil, List.map_cons, List.map_nil, Nat.reduceAdd]
  obtain ⟨d1, d2, d3, d4⟩ := hM.d1
  obtain ⟨e1, e2, e3⟩ := hM.d2
  obtain ⟨l1, l2, l3, l4, l5⟩ := hM.lt
  have t1 := hM.to.ne1
  have t2 := hM.to.ne2
  have t3 := hM.to.ne3
  simp (disch := first | omega | (show allOne _ = true; simp [allOne, Value.oneCell', S]) | (simp only [qz]; first | done | omega)) only [go_sem, hM.s, ldc_cells]
  refine arena_Kind _ _ _ _ _ _ hA w hw _ ?_
  cases hf : findT T w with
  | none =>
    have hk : kindN T w = 0 := by unfold kindN; rw [hf]
    rw [hk]
    simp (disch := first | omega | (show allOne _ = true; simp [allOne, Value.oneCell', S]) | (simp only [qz]; first | done | omega)) only [go_sem]
    refine word_To w hw _ _ ?_
    have := h1 hf
    rw [bareN] at this
    rw [toV]
    split
    · rename_i hh; rw [if_pos hh] at this
      simp (disch := first | omega | (show allOne _ = true; simp [allOne, Value.oneCell', S]) | (simp only [qz]; first | done | omega)) only [go_sem]
      exact this
    · rename_i hh; rw [if_neg hh] at this
      simp (disch := first | omega | (show allOne _ = true; simp [allOne, Value.oneCell', S]) | (simp only [qz]; first | done | omega)) only [go_sem]
      exact this
  | some t =>
    have ha : atP T (w / 8) = some t := by unfold findT at hf; split at hf <;> first | exact hf | cases hf
    have hok := hA.ok t (atP_words T _ t ha).2.2.2
    have k1 := hok.k1
    have k9 := hok.k9
    have kl := hok.len
    have hk : kindN T w = t.kind := by unfold kindN; rw [hf]
    have hl : lenN T w = t.l.length := by unfold lenN; rw [hf]
    have hws : wordsN T w = t.l := by unfold wordsN; rw [hf]
    rw [hk]
    cases hlk : went.lookup w with
    | some x =>
      simp (disch := first | omega | (show allOne _ = true; simp [allOne, Value.oneCell', S]) | (simp only [qz]; first | done | omega)) only [go_sem, hM.s, ldc_cells, lk40_some hM.map hlk]
      exact h2 t x hf hlk
    | none =>
      have hrm := hroom t hf hlk
      have hbig := hM.to.big
      unfold Thing.room at hrm
      simp (disch := first | omega | (show allOne _ = true; simp [allOne, Value.oneCell', S]) | (simp only [qz]; first | done | omega)) only [go_sem, hM.s, ldc_cells, lk40_none hM.map hlk]
      refine Hwp.drawn mixed [0, 1, 3, 7, 0, 0, 32, 96, 224, 0, 992, 2047, 4095, 8191, 8191, 16383, 65535] (.op 0 (.op 1 (.op 2 (.op 3 (.op 4 (.op 5 (.op 6 (.op 7 (.op 8 (.op 9 (.eff 10 (.eff 11 (.op 12 (.op 13 (.op 14 (.op 15 (.op 16 .done))))) .stop) .stop))))))))))) (by kernel_rfl) ?_
      simp (disch := first | omega | (show allOne _ = true; simp [allOne, Value.oneCell', S]) | (simp only [qz]; first | done | omega)) only [go_sem, hM.s, ldc_cells]
      refine move_words _ _ _ _ _ _ hA hAlt w hw _ ?_
      rw [hl, hws]
      simp (disch := first | omega | (show allOne _ = true; simp [allOne, Value.oneCell', S]) | (simp only [qz]; first | done | omega)) only [go_sem, hM.s, ldc_cells]
      have hA1 : AtA (H.push (.cells (t.l.map U) true)) g' gw' gh' size T' := hM.to.frame (by rintro b (rfl | rfl | rfl) <;> simp (disch := first | omega | (simp only [nx_push, nx_set, nx_kill]; done) | (simp only [nx_push, nx_set, nx_kill]; omega)) only [get_push_ne, get_push_eq, get_set_ne, get_set_eq, get_kill_ne, nx_push, nx_set, nx_kill])
      refine arena_Alloc _ _ _ _ _ _ hA1 _ _ t.l t.l.length rfl hok.words _ _ rfl ?_ _ ?_ ?_ ?_
      · intro H' hH'
        rw [hsource_slice, hH' _ (by omega) (by omega) (by omega)]
        simp (disch := first | omega | (simp only [nx_push, nx_set, nx_kill]; done) | (simp only [nx_push, nx_set, nx_kill]; omega)) only [get_push_ne, get_push_eq, get_set_ne, get_set_eq, get_kill_ne, nx_push, nx_set, nx_kill]
        by_cases h0 : t.l.length = 0
        · rw [h0, hsrc_zero]; rw [List.length_eq_zero_iff.1 h0]; rfl
        · rw [hsrc_cells _ _ _ _ _ (by omega) (by simp)]; rw [List.drop_zero, List.take_of_length_le (by simp)]
      · intro _ _ _
        have et : (⟨(t.kind : Int).toNat, t.l⟩ : Thing) = t := by cases t; rfl
        rw [et]
        have hA2 : AtA (putT (H.push (.cells (t.l.map U) true)) g' gw' gh' size (T' ++ [t])) g' gw' gh' size (T' ++ [t]) := by
          refine ⟨by unfold putT; simp (disch := first | omega | (simp only [nx_push, nx_set, nx_kill]; done) | (simp only [nx_push, nx_set, nx_kill]; omega)) only [get_push_ne, get_push_eq, get_set_ne, get_set_eq, get_kill_ne, nx_push, nx_set, nx_kill], by unfold putT; simp (disch := first | omega | (simp only [nx_push, nx_set, nx_kill]; done) | (simp only [nx_push, nx_set, nx_kill]; omega)) only [get_push_ne, get_push_eq, get_set_ne, get_set_eq, get_kill_ne, nx_push, nx_set, nx_kill], by unfold putT; simp (disch := first | omega | (simp only [nx_push, nx_set, nx_kill]; done) | (simp only [nx_push, nx_set, nx_kill]; omega)) only [get_push_ne, get_push_eq, get_set_ne, get_set_eq, get_kill_ne, nx_push, nx_set, nx_kill], ?_, hbig, hM.to.pos, ?_, t1, t2, t3⟩
          · rw [usedOf_append]; simp [usedOf, Thing.room]; omega
          · intro u hu
            rcases List.mem_append.1 hu with hu | hu
            · exact hM.to.ok u hu
            · rw [List.mem_singleton.1 hu]; exact hok
        generalize hH2 : putT (H.push (.cells (t.l.map U) true)) g' gw' gh' size (T' ++ [t]) = H2 at hA2 ⊢
        have f2 : ∀ b, b ≠ g' → b ≠ gw' → b ≠ gh' → b < H.next → H2.get b = H.get b := by
          intro b b1 b2 b3 b4; rw [← hH2]; unfold putT; simp (disch := first | omega | (simp only [nx_push, nx_set, nx_kill]; done) | (simp only [nx_push, nx_set, nx_kill]; omega)) only [get_push_ne, get_push_eq, get_set_ne, get_set_eq, get_kill_ne, nx_push, nx_set, nx_kill]
        have n2 : H2.next = H.next + 1 := by rw [← hH2]; unfold putT; simp (disch := first | omega | (simp only [nx_push, nx_set, nx_kill]; done) | (simp only [nx_push, nx_set, nx_kill]; omega)) only [get_push_ne, get_push_eq, get_set_ne, get_set_eq, get_kill_ne, nx_push, nx_set, nx_kill]
        have s2 := f2 m d1 d2 d3 l1
        have m2 := f2 mm e1 e2 e3 l5
        rw [hM.s] at s2
        rw [hM.map] at m2
        simp (disch := first | omega | (show allOne _ = true; simp [allOne, Value.oneCell', S]) | (simp only [qz]; first | done | omega)) only [go_sem, s2, ldc_cells]
        generalize hx : wordAt (usedOf T') = x
        rw [mu40 m2 hlk]
        rcases hM.mades with ⟨md, rfl⟩ | ⟨mb, md, rfl, mbl, mbg⟩
        · subst md
          simp (disch := first | omega | (show allOne _ = true; simp [allOne, Value.oneCell', S]) | (simp only [qz]; first | done | omega)) only [go_sem, s2, ldc_cells, hsource_slice, hsrc_cells, List.drop_zero, List.take_succ_cons, List.take_zero, apd_nil, stc_cells]
          subst hx
          refine h3 t _ (.slice (some ⟨H2.next + 1, 0, some 2⟩) 1 1) hf hlk ⟨?_, ?_, ?_, ?_, ⟨d1, d2, d3, d4⟩, ⟨e1, e2, e3⟩, ?_, ?_, ?_⟩ ?_ ?_ ?_
          · simp (disch := first | omega | (simp only [nx_push, nx_set, nx_kill]; done) | (simp only [nx_push, nx_set, nx_kill]; omega)) only [get_push_ne, get_push_eq, get_set_ne, get_set_eq, get_kill_ne, nx_push, nx_set, nx_kill]
          · exact hA2.frame (by rintro b (rfl | rfl | rfl) <;> simp (disch := first | omega | (simp only [nx_push, nx_set, nx_kill]; done) | (simp only [nx_push, nx_set, nx_kill]; omega)) only [get_push_ne, get_push_eq, get_set_ne, get_set_eq, get_kill_ne, nx_push, nx_set, nx_kill])
          · simp (disch := first | omega | (simp only [nx_push, nx_set, nx_kill]; done) | (simp only [nx_push, nx_set, nx_kill]; omega)) only [get_push_ne, get_push_eq, get_set_ne, get_set_eq, get_kill_ne, nx_push, nx_set, nx_kill]
          · exact .inr ⟨H2.next + 1, by simp, by simp, by simp (disch := first | omega | (simp only [nx_push, nx_set, nx_kill]; done) | (simp only [nx_push, nx_set, nx_kill]; omega)) only [get_push_ne, get_push_eq, get_set_ne, get_set_eq, get_kill_ne, nx_push, nx_set, nx_kill]; omega, by simp (disch := first | omega | (simp only [nx_push, nx_set, nx_kill]; done) | (simp only [nx_push, nx_set, nx_kill]; omega)) only [get_push_ne, get_push_eq, get_set_ne, get_set_eq, get_kill_ne, nx_push, nx_set, nx_kill]; rfl⟩
          · simp (disch := first | omega | (simp only [nx_push, nx_set, nx_kill]; done) | (simp only [nx_push, nx_set, nx_kill]; omega)) only [get_push_ne, get_push_eq, get_set_ne, get_set_eq, get_kill_ne, nx_push, nx_set, nx_kill]; omega
          · rw [List.length_append, List.length_append, hM.mlen]; rfl
          · intro b hb; simp [vblk] at hb; omega
          · simp (disch := first | omega | (simp only [nx_push, nx_set, nx_kill]; done) | (simp only [nx_push, nx_set, nx_kill]; omega)) only [get_push_ne, get_push_eq, get_set_ne, get_set_eq, get_kill_ne, nx_push, nx_set, nx_kill]; omega
          · intro b b0 b1 b2 b3 b4 b5 b6; simp (disch := first | omega | (simp only [nx_push, nx_set, nx_kill]; done) | (simp only [nx_push, nx_set, nx_kill]; omega)) only [get_push_ne, get_push_eq, get_set_ne, get_set_eq, get_kill_ne, nx_push, nx_set, nx_kill]; exact f2 b b2 b3 b4 b0
          · intro b hb; simp [vblk] at hb; right; omega
        · have hml := hM.mlen
          have hmu := length_le_used T'
          obtain ⟨v1, v2, v3, v4, v5⟩ := hM.mvn mb (by simp [vblk])
          have mb2 := f2 mb v2 v3 v4 mbl
          rw [mbg] at mb2
          have hcl : (made.map U).length = made.length * 1 := by simp
          simp (disch := first | omega | (show allOne _ = true; simp [allOne, Value.oneCell', S]) | (simp only [qz]; first | done | omega)) only [go_sem, s2, mb2, ldc_cells, hsource_slice, hsrc_cells, List.drop_zero, List.take_succ_cons, List.take_zero, apd_some, stc_cells, apo_grow1]
          subst hx
          refine h3 t _ (.slice (some ⟨H2.next + 1, 0, some 2⟩) (made.length + 1) (made.length + 1)) hf hlk ⟨?_, ?_, ?_, ?_, ⟨d1, d2, d3, d4⟩, ⟨e1, e2, e3⟩, ?_, ?_, ?_⟩ ?_ ?_ ?_
          · simp (disch := first | omega | (simp only [nx_push, nx_set, nx_kill]; done) | (simp only [nx_push, nx_set, nx_kill]; omega)) only [get_push_ne, get_push_eq, get_set_ne, get_set_eq, get_kill_ne, nx_push, nx_set, nx_kill]
          · exact hA2.frame (by rintro b (rfl | rfl | rfl) <;> simp (disch := first | omega | (simp only [nx_push, nx_set, nx_kill]; done) | (simp only [nx_push, nx_set, nx_kill]; omega)) only [get_push_ne, get_push_eq, get_set_ne, get_set_eq, get_kill_ne, nx_push, nx_set, nx_kill])
          · simp (disch := first | omega | (simp only [nx_push, nx_set, nx_kill]; done) | (simp only [nx_push, nx_set, nx_kill]; omega)) only [get_push_ne, get_push_eq, get_set_ne, get_set_eq, get_kill_ne, nx_push, nx_set, nx_kill]
          · exact .inr ⟨H2.next + 1, by simp, by simp, by simp (disch := first | omega | (simp only [nx_push, nx_set, nx_kill]; done) | (simp only [nx_push, nx_set, nx_kill]; omega)) only [get_push_ne, get_push_eq, get_set_ne, get_set_eq, get_kill_ne, nx_push, nx_set, nx_kill]; omega, by simp (disch := first | omega | (simp only [nx_push, nx_set, nx_kill]; done) | (simp only [nx_push, nx_set, nx_kill]; omega)) only [get_push_ne, get_push_eq, get_set_ne, get_set_eq, get_kill_ne, nx_push, nx_set, nx_kill]; simp⟩
          · simp (disch := first | omega | (simp only [nx_push, nx_set, nx_kill]; done) | (simp only [nx_push, nx_set, nx_kill]; omega)) only [get_push_ne, get_push_eq, get_set_ne, get_set_eq, get_kill_ne, nx_push, nx_set, nx_kill]; omega
          · rw [List.length_append, List.length_append, hM.mlen]; rfl
          · intro b hb; simp [vblk] at hb; omega
          · simp (disch := first | omega | (simp only [nx_push, nx_set, nx_kill]; done) | (simp only [nx_push, nx_set, nx_kill]; omega)) only [get_push_ne, get_push_eq, get_set_ne, get_set_eq, get_kill_ne, nx_push, nx_set, nx_kill]; omega
          · intro b b0 b1 b2 b3 b4 b5 b6
            have : b ≠ mb := fun e => b6 (by simp [vblk, e])
            simp (disch := first | omega | (simp only [nx_push, nx_set, nx_kill]; done) | (simp only [nx_push, nx_set, nx_kill]; omega)) only [get_push_ne, get_push_eq, get_set_ne, get_set_eq, get_kill_ne, nx_push, nx_set, nx_kill]; exact f2 b b2 b3 b4 b0
          · intro b hb; simp [vblk] at hb; right; omega
      · intro _ _ hh; omega
      · intro hh; exact absurd ⟨⟨by omega, by omega⟩, kl⟩ hh
end Go.HL
/-
  Walks: what is brought, by the order in which it is.
-/
namespace Go.HL
open Go.RowKit Go.Proofs
set_option maxHeartbeats 4000000
set_option maxRecDepth 100000
set_option linter.unusedSimpArgs false
set_option linter.unusedVariables false

abbrev LvAt (H : HHeap) (m g' gw' gh' mm g size : Nat) (T : Things) (F ord : List Nat) (p q : Nat) (mv : Value) : Prop :=
  MvAt H m g' gw' gh' mm g size (midT T F p q 0 ord) (wentO T F ord) (madeO T F ord) mv

/-- What else there is stays. -/
structure Stays (H H' : HHeap) (m g' gw' gh' mm : Nat) (mv mv' : Value) : Prop where
  next : H.next ≤ H'.next
  same : ∀ b, b < H.next → b ≠ m → b ≠ g' → b ≠ gw' → b ≠ gh' → b ≠ mm → b ∉ vblk mv → H'.get b = H.get b
  mine : ∀ b ∈ vblk mv', b ∈ vblk mv ∨ H.next ≤ b
theorem Stays.refl (H : HHeap) (m g' gw' gh' mm : Nat) (mv : Value) : Stays H H m g' gw' gh' mm mv mv := ⟨Nat.le_refl _, fun _ _ _ _ _ _ _ _ => rfl, fun _ h => .inl h⟩
theorem Stays.trans {H H' H'' : HHeap} {m g' gw' gh' mm : Nat} {mv mv' mv'' : Value} (a : Stays H H' m g' gw' gh' mm mv mv') (b : Stays H' H'' m g' gw' gh' mm mv' mv'') : Stays H H'' m g' gw' gh' mm mv mv'' := by
  refine ⟨Nat.le_trans a.next b.next, fun x h0 h1 h2 h3 h4 h5 h6 => ?_, fun x hx => ?_⟩
  · rw [b.same x (Nat.lt_of_lt_of_le h0 a.next) h1 h2 h3 h4 h5 (fun hm => by
      rcases a.mine x hm with h | h
      · exact h6 h
      · omega), a.same x h0 h1 h2 h3 h4 h5 h6]
  · rcases b.mine x hx with h | h
    · exact a.mine x h
    · have := a.next; right; omega

theorem findI_none {T : Things} {w : Nat} (h : findT T w = none) : findI T w = none := by
  cases hi : findI T w with
  | none => rfl
  | some i =>
    have hl := findI_lt hi
    rw [findT_findI, hi] at h
    simp [hl] at h
theorem findI_some {T : Things} {w : Nat} {t : Thing} (h : findT T w = some t) : ∃ i, findI T w = some i ∧ T[i]? = some t := by
  rw [findT_findI] at h
  cases hi : findI T w with
  | none => rw [hi] at h; simp at h
  | some i => rw [hi] at h; exact ⟨i, rfl, by simpa using h⟩

theorem bringO (H : HHeap) (m g' gw' gh' mm g gw gh size0 size : Nat) (T : Things) (F ord : List Nat) (p q : Nat) (mv : Value) (hM : LvAt H m g' gw' gh' mm g size T F ord p q mv)
    (hA : AtA H g gw gh size0 T) (hAlt : g < H.next ∧ gw < H.next ∧ gh < H.next) (w : Nat) (hw : w < 18446744073709551616)
    (hF : ∃ l, F = stepO T ord w ++ l) (hnd : ord.Nodup) (hlt : ∀ x ∈ ord, x < T.length) (hpq : p < ord.length ∨ p = ord.length ∧ q = 0) (hsz : usedOf T ≤ size) (R : Value → HHeap → Prop)
    (hR : ∀ H' mv', LvAt H' m g' gw' gh' mm g size T F (stepO T ord w) p q mv' → Stays H H' m g' gw' gh' mm mv mv' → R (U (tr T F w)) H') : HCalls Tryz.prog 78 [ptr m 0, U w] H R := by
  obtain ⟨l, hF⟩ := hF
  refine move_bring H m g' gw' gh' mm g gw gh size0 size T _ _ _ mv hM hA hAlt w hw ?_ R ?_ ?_ ?_
  · intro t ht hlk
    obtain ⟨i, hi, hti⟩ := findI_some ht
    rw [wentO_lookup hi ord hlt] at hlk
    have him : i ∉ ord := fun e => by simp [e] at hlk
    rw [midT_used]
    have h1 := sumR_le T (ord ++ [i]) (List.nodup_append.2 ⟨hnd, by simp, fun a ha b hb => by simp at hb; subst hb; exact fun e => him (by rw [← e]; exact ha)⟩) (fun x hx => by
      rcases List.mem_append.1 hx with hx | hx
      · exact hlt x hx
      · rw [List.mem_singleton.1 hx]; exact findI_lt hi)
    rw [sumR_append, sumR_one] at h1
    have : roomI T i = t.room := by unfold roomI; rw [hti]
    omega
  · intro hn
    have hi := findI_none hn
    have e1 : stepO T ord w = ord := by unfold stepO; rw [hi]
    have e2 : tr T F w = bareN w := by unfold tr bareN; rw [hi]
    have := hR H mv (by rw [e1]; exact hM) (Stays.refl _ _ _ _ _ _ _)
    rw [e2] at this; exact this
  · intro t x ht hlk
    obtain ⟨i, hi, hti⟩ := findI_some ht
    rw [wentO_lookup hi ord hlt] at hlk
    have him : i ∈ ord := by
      by_cases e : i ∈ ord
      · exact e
      · simp [e] at hlk
    rw [if_pos him] at hlk
    cases hlk
    have e1 : stepO T ord w = ord := by unfold stepO; rw [hi]; simp [him]
    have e2 : tr T F w = wordAt (placeIn T F i) := by unfold tr; rw [hi]
    have := hR H mv (by rw [e1]; exact hM) (Stays.refl _ _ _ _ _ _ _)
    rw [e2] at this; exact this
  · intro t H' mv' ht hlk hM' f1 f2 f3
    obtain ⟨i, hi, hti⟩ := findI_some ht
    rw [wentO_lookup hi ord hlt] at hlk
    have him : i ∉ ord := fun e => by simp [e] at hlk
    have e1 : stepO T ord w = ord ++ [i] := by unfold stepO; rw [hi]; simp [him]
    have e2 : tr T F w = wordAt (placeIn T F i) := by unfold tr; rw [hi]
    have e3 : placeIn T F i = sumR T ord := by rw [hF, e1, List.append_assoc]; exact placeIn_new T i l ord him
    rw [midT_used, ← e3] at hM' ⊢
    have e4 : midT T F p q 0 (ord ++ [i]) = midT T F p q 0 ord ++ [t] := by
      rw [midT_append]; simp only [midT]
      rw [midThing_new hti (by omega)]
    have e5 : wentO T F (ord ++ [i]) = wentO T F ord ++ [(w, wordAt (placeIn T F i))] := by
      unfold wentO; rw [List.map_append, List.map_cons, List.map_nil, ← (findI_word hi).1]
    have e6 : madeO T F (ord ++ [i]) = madeO T F ord ++ [wordAt (placeIn T F i)] := by simp [madeO]
    rw [← e2]
    refine hR H' mv' ?_ ⟨f1, f2, f3⟩
    rw [e1]
    show MvAt _ _ _ _ _ _ _ _ _ _ _ _
    rw [e4, e5, e6]; exact hM'
end Go.HL
