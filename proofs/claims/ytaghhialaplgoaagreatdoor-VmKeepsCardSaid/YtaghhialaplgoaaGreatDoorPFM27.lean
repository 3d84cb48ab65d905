/-
  Joined: M25, M33, M30, M31, M32, M27.
-/
import Derived.Test.YtaghhialaplgoaaGreatDoorPFM24
import Derived.Test.YtaghhialaplgoaaGreatDoorPFC9
set_option linter.unusedVariables false
set_option linter.unusedSimpArgs false
/-
  Walks: what is kept, what is asked for, and its end by an error; what is let go of.
-/
namespace Go.HL
open Go.RowKit Go.Proofs
set_option maxHeartbeats 4000000
set_option maxRecDepth 100000
set_option linter.unusedSimpArgs false
set_option linter.unusedVariables false
/-- A word that is kept; what is wrong. -/
def MS.kept (M : MS) (i : Nat) : Nat × Nat := match M.kp[i]? with | some (w, true) => (w, 0) | _ => (0, 2)
section
variable {Z : Zs} {H : HHeap} {p size : Nat} {vb : Value} {g gw gh : Nat} {vn vk va : Value} {M : MS} {B : List Bk}
theorem vm_Kept (hM : MIn Z H p size vb g gw gh vn vk va M) (i : Nat) (hi : i < 1000000) (R : Value → HHeap → Prop) (hR : R (.tuple #[U (M.kept i).1, I ((M.kept i).2 : Nat)]) H) :
    HCalls Tryz.prog 13 [ptr p 0, I (i : Nat)] H R := by
  obtain ⟨ak, hvk, hsl⟩ := hM.kp.slots
  subst hvk
  have hkl := hM.ok.kpl
  unfold MS.kept at hR
  refine HCalls.of_hw Tryz.func13 rfl _ Tryz.ntmps13 _ (by rw [Tryz.results13]) ?_
  rw [hframe0_eq _ _ (by simp)]
  simp only [List.zipIdx_cons, List.zipIdx_nil, List.map_cons, List.map_nil, Nat.reduceAdd]
  cases hx : M.kp[i]? with
  | none =>
    rw [hx] at hR
    have hl := List.getElem?_eq_none_iff.1 hx
    simp (disch := first | omega | (show allOne _ = true; simp [allOne, Value.oneCell', S]) | (simp only [qz]; first | done | omega)) only [go_sem, hM.m, ldc_cells, mcells]
    exact hR
  | some x =>
    rw [hx] at hR
    have hl := (List.getElem?_eq_some_iff.1 hx).1
    obtain ⟨xw, xu⟩ := x
    rcases hsl with h0 | ⟨b, k, rfl, hg⟩
    · rw [h0] at hl; simp at hl
    obtain ⟨c1, c2⟩ := scells_at hx
    have c1' : (scells M.kp)[i * 2]? = some (U xw) := by rw [Nat.mul_comm]; exact c1
    have c2' : (scells M.kp)[i * 2 + 1]? = some (.bool xu) := by rw [Nat.mul_comm]; exact c2
    cases xu with
    | true =>
      simp only at hR
      simp (disch := first | omega | (show allOne _ = true; simp [allOne, Value.oneCell', S]) | (simp only [qz]; first | done | omega)) only [go_sem, hM.m, hg, ldc_cells, mcells, ixa_ok, c1', c2']
      exact hR
    | false =>
      simp only at hR
      simp (disch := first | omega | (show allOne _ = true; simp [allOne, Value.oneCell', S]) | (simp only [qz]; first | done | omega)) only [go_sem, hM.m, hg, ldc_cells, mcells, ixa_ok, c1', c2']
      exact hR
end
end Go.HL
/-
  Walks: how much is reached.
-/
namespace Go.HL
open Go.RowKit Go.Proofs
set_option maxHeartbeats 4000000
set_option maxRecDepth 100000
set_option linter.unusedSimpArgs false
set_option linter.unusedVariables false
section
variable {Z : Zs} {H : HHeap} {p size : Nat} {vb : Value} {g gw gh : Nat} {vn vk va : Value} {M : MS} {B : List Bk}
theorem vm_Live (hM : MIn Z H p size vb g gw gh vn vk va M) (hZ : ∀ b, Z b → b < H.next) (hask : M.ask.length ≤ 900000) (R : Value → HHeap → Prop)
    (hR : ∀ H', Old H H' → R (I (sumR M.T (bfs M.T (M.roots [])) : Nat)) H') : HCalls Tryz.prog 9 [ptr p 0] H R := by
  refine HCalls.ok fun hok => ?_
  have hlt := hM.lt hok
  have hptw : PtW H (mpts p vn vk va M) (M.roots []) := by
    have := hM.ptw
    unfold MS.roots
    simpa [List.append_assoc] using this
  have hrl : (M.roots []).length ≤ 1000000 := by
    have h2 := hM.ok.nml
    have h3 := hM.ok.kpl
    have h5 : (usedW M.nm).length ≤ M.nm.length := by unfold usedW; rw [List.length_map]; exact List.length_filter_le _ _
    have h6 : (usedW M.kp).length ≤ M.kp.length := by unfold usedW; rw [List.length_map]; exact List.length_filter_le _ _
    unfold MS.roots
    simp only [List.length_append, List.length_cons, List.length_nil]
    omega
  have hrw : ∀ w ∈ M.roots [], w < 18446744073709551616 := by
    intro w hw'
    unfold MS.roots at hw'
    simp only [List.mem_append, List.mem_cons, List.not_mem_nil, or_false, false_or] at hw'
    rcases hw' with ((hw' | hw') | hw') | hw'
    · rcases hw' with rfl | rfl | rfl | rfl
      · exact hM.ok.v
      · exact hM.ok.e
      · exact hM.ok.s
      · exact hM.ok.f
    · exact hM.ok.ask w hw'
    · unfold usedW at hw'; obtain ⟨y, hy, rfl⟩ := List.mem_map.1 hw'; exact hM.ok.nm y (List.mem_filter.1 hy).1
    · unfold usedW at hw'; obtain ⟨y, hy, rfl⟩ := List.mem_map.1 hw'; exact hM.kpw y (List.mem_filter.1 hy).1
  have hne : M.roots [] ≠ [] := by unfold MS.roots; simp
  have hpb : ∀ x ∈ mpts p vn vk va M, x.1 < H.next := by
    intro x hx
    obtain ⟨i, hi⟩ := List.mem_iff_getElem?.1 hx
    obtain ⟨w, _, cs, h1, _⟩ := hptw.at hi
    exact hok _ _ h1
  refine HCalls.of_hw Tryz.func9 rfl _ Tryz.ntmps9 _ (by rw [Tryz.results9]) ?_
  rw [hframe0_eq _ _ (by simp)]
  simp only [List.zipIdx_cons, List.zipIdx_nil, List.map_cons, List.map_nil, Nat.reduceAdd]
  simp (disch := first | omega | (show allOne _ = true; simp [allOne, Value.oneCell', S]) | (simp only [qz]; first | done | omega)) only [go_sem]
  refine vm_roots hM hZ _ [] (.inl (Gr.nil _ _ _)) (by simp) (by simp [sblk]) _ ?_
  intro v K g1 g2 g3 g4
  rw [List.nil_append] at g1
  obtain ⟨pts, hpts⟩ : ∃ pts, pts = mpts p vn vk va M := ⟨_, rfl⟩
  rw [← hpts] at g1 hptw hpb
  have hpl := hptw.len
  have hptK : PtW K pts (M.roots []) := hptw.mono fun x hx => g4 _ (hpb x hx) (by simp [sblk])
  obtain ⟨av, hv⟩ := g1.len
  subst hv
  simp (disch := first | omega | (show allOne _ = true; simp [allOne, Value.oneCell', S]) | (simp only [qz]; first | done | omega)) only [go_sem]
  have hOK : Old H K := ⟨g3, fun b hb => g4 b hb (by simp [sblk])⟩
  refine Hwp.loop (fun m fr K2 => ∃ (i : Nat) (fv : Value), m = pts.length - i ∧ i ≤ pts.length ∧ Gr rW Z K2 fv ((M.roots []).take i) ∧ (∀ b ∈ sblk fv, K.next ≤ b ∧ b < K2.next) ∧ Old K K2 ∧
    FLe (hfr 28 [(11, I (i : Nat)), (10, I (pts.length : Nat)), (9, .slice av pts.length pts.length), (3, fv), (0, ptr p 0)]) fr) pts.length ?_ ?_
  · exact ⟨0, _, rfl, by omega, Gr.nil _ _ _, by simp [sblk], Old.refl _, fle_of (by simp [flook])⟩
  rintro m fr K2 ⟨i, fv, rfl, hi, f1, f2, f3, hle⟩
  refine Hwp.weaken hle (Hwp.ok fun hok2 => HW.sound _ _ _ _ ?_)
  by_cases hc : i < pts.length
  · obtain ⟨x, hx⟩ : ∃ x, pts[i]? = some x := ⟨_, List.getElem?_eq_getElem hc⟩
    obtain ⟨w, hwi, cs, hg, hcs⟩ := hptK.at hx
    obtain ⟨b, vs, e, _, hgv, _, hrr⟩ := g1.at hx
    injection e with e
    subst e
    have hvx := rOne_at (f := fun x : Nat × Nat => ptr x.1 x.2) (Z := Z) (H := K) hrr
    rw [Nat.mul_one, Nat.zero_add] at hvx
    have hbl := g2 b (by simp [sblk])
    have hgv2 := f3.2 b hbl.2
    rw [hgv] at hgv2
    have hxl := hpb x (List.mem_of_getElem? hx)
    have hg2 := f3.2 x.1 (by omega)
    rw [hg] at hg2
    simp (disch := first | omega | (show allOne _ = true; simp [allOne, Value.oneCell', S]) | (simp only [qz]; first | done | omega)) only [go_sem, hgv2, hg2, ixa_ok, ldc_cells, hvx, hcs]
    refine HGo_add1 (n := 1) (by' := 8) (x := w) f1 rfl (by omega) (get_push_same _) (Old.push _ _) (fun b hb => by have := hZ b hb; have := f3.1; omega) (fun b hm => (f2 b hm).2) rfl (by rw [List.length_take]; omega) (by rw [List.length_take]; omega) ?_
    intro fv' K' k1 k2 k3 k4
    simp (disch := first | omega | (show allOne _ = true; simp [allOne, Value.oneCell', S]) | (simp only [qz]; first | done | omega)) only [go_sem]
    refine ⟨_, ?_, i + 1, fv', rfl, by omega, ?_, fun b hm => ?_, ?_, fle_of (by simp [flook])⟩
    · omega
    · rw [List.take_add_one, hwi, Option.toList_some]; exact k1
    · have := k2 b hm; have := f3.1; omega
    · exact ⟨by have := f3.1; omega, fun b hb => by rw [k4 b (by have := f3.1; omega) (fun hm => by have := f2 b hm; omega), f3.2 b hb]⟩
  · have hie : i = pts.length := by omega
    rw [hie, show pts.length = (M.roots []).length from hpl, List.take_of_length_le (Nat.le_refl _)] at f1
    have hO2 := hOK.trans f3
    have hM2 := hM.old hok hO2 hZ (fun _ h => h) (fun _ h => .inl h)
    have hlt2 := hM2.lt hok2
    simp (disch := first | omega | (show allOne _ = true; simp [allOne, Value.oneCell', S]) | (simp only [qz]; first | done | omega)) only [go_sem, hM2.m, ldc_cells, mcells]
    refine move_Reach _ _ _ _ _ _ hM2.A ⟨hlt2.2.1, hlt2.2.2.1, hlt2.2.2.2.1⟩ _ (M.roots []) (f1.rowAt hok2 hne) hrw hrl _ ?_
    intro H' h1 h2
    simp (disch := first | omega | (show allOne _ = true; simp [allOne, Value.oneCell', S]) | (simp only [qz]; first | done | omega)) only [go_sem]
    exact hR H' (hO2.trans ⟨h2, h1⟩)
end
end Go.HL
/-
  Walks: a pair is made from outside, where there is room.
-/
namespace Go.HL
open Go.RowKit Go.Proofs
set_option maxHeartbeats 4000000
set_option maxRecDepth 100000
set_option linter.unusedSimpArgs false
set_option linter.unusedVariables false
section
variable {Z : Zs} {H : HHeap} {p size : Nat} {vb : Value} {g gw gh : Nat} {vn vk va : Value} {M : MS} {B : List Bk}
theorem room_enough {M : MS} {n : Nat} {ws : List Nat} (h : n + usedOf M.T ≤ size) : M.room size n ws = (true, M, ws) := by
  unfold MS.room; rw [if_pos (by omega)]
theorem vm_Cons (hM : MIn Z H p size vb g gw gh vn vk va M) (hZ : ∀ b, Z b → b < H.next) (a b : Nat) (ha : a < 18446744073709551616) (hb : b < 18446744073709551616) (hr : usedOf M.T + 3 ≤ size) (R : Value → HHeap → Prop)
    (hR : ∀ H' g' gw' gh', MIn Z H' p size vb g' gw' gh' vn vk va { M with T := M.T ++ [⟨1, [a, b]⟩] } → Kp Z H H' → R (.tuple #[U (wordAt (usedOf M.T)), I 0]) H') : HCalls Tryz.prog 6 [ptr p 0, U a, U b] H R := by
  refine HCalls.ok fun hok => ?_
  have hlt := hM.lt hok
  have hO1 := Old.push H (.cells [U a] true)
  have hx1 := HHeap.push_next H (.cells [U a] true)
  have hg1 : (H.push (.cells [U a] true)).get H.next = some (.cells [U a] true) := get_push_same _
  have hbx : hbox H (U a) = some (.pointer (some ⟨H.next, 0, none⟩), H.push (.cells [U a] true)) := hbox_one rfl
  generalize hK1 : H.push (.cells [U a] true) = K1 at *
  have hO2 := Old.push K1 (.cells [U b] true)
  have hx2 := HHeap.push_next K1 (.cells [U b] true)
  have hg2 : (K1.push (.cells [U b] true)).get K1.next = some (.cells [U b] true) := get_push_same _
  have hbx2 : hbox K1 (U b) = some (.pointer (some ⟨K1.next, 0, none⟩), K1.push (.cells [U b] true)) := hbox_one rfl
  refine HCalls.of_hw Tryz.func6 rfl _ Tryz.ntmps6 _ (by rw [Tryz.results6]) ?_
  rw [hframe0_eq _ _ (by simp)]
  simp only [List.zipIdx_cons, List.zipIdx_nil, List.map_cons, List.map_nil, Nat.reduceAdd]
  simp (disch := first | omega | (show allOne _ = true; simp [allOne, Value.oneCell', S]) | (simp only [qz]; first | done | omega)) only [go_sem, hbx, hbx2]
  obtain ⟨K2, hK2⟩ : ∃ K2, K2 = K1.push (.cells [U b] true) := ⟨_, rfl⟩
  rw [← hK2] at hO2 hx2 hg2 hbx2 ⊢
  have hO3 := Old.push K2 (.cells [ptr H.next 0, ptr K1.next 0] true)
  have hx3 := HHeap.push_next K2 (.cells [ptr H.next 0, ptr K1.next 0] true)
  have hg3 : (K2.push (.cells [ptr H.next 0, ptr K1.next 0] true)).get K2.next = some (.cells [ptr H.next 0, ptr K1.next 0] true) := get_push_same _
  rw [show K1.next + 1 = K2.next from hx2.symm]
  obtain ⟨K3, hK3⟩ : ∃ K3, K3 = K2.push (.cells [ptr H.next 0, ptr K1.next 0] true) := ⟨_, rfl⟩
  rw [← hK3] at hO3 hx3 hg3 ⊢
  have hO := (hO1.trans hO2).trans hO3
  have hM3 := hM.old hok hO hZ (fun _ h => h) (fun _ h => .inl h)
  have hZ3 : ∀ b, Z b → b < K3.next := fun b hb => Nat.lt_of_lt_of_le (hZ b hb) hO.1
  have ga3 : K3.get H.next = some (.cells [U a] true) := by rw [hO3.2 _ (by omega), hO2.2 _ (by omega)]; exact hg1
  have gb3 : K3.get K1.next = some (.cells [U b] true) := by rw [hO3.2 _ (by omega)]; exact hg2
  have hrw : Rw rPt Z K3 (.slice (some ⟨K2.next, 0, none⟩) 2 2) [(H.next, 0), (K1.next, 0)] := .inr ⟨K2.next, [ptr H.next 0, ptr K1.next 0], true, by simp, rfl, fun hz => by have := hZ _ hz; omega, hg3, rfl, fun i x hx => by
    match i, hx with
    | 0, hx => cases hx; rfl
    | 1, hx => cases hx; rfl
    | i + 2, hx => simp at hx⟩
  have hre := room_enough (size := size) (M := M) (n := 3) (ws := [a, b]) (by omega)
  refine HCalls.gotOk (vm_room hM3 hZ3 3 (by omega) _ [(H.next, 0), (K1.next, 0)] [a, b] hrw (by simp) (fun x hx => ?_) (.cons ⟨_, ga3, rfl⟩ (.cons ⟨_, gb3, rfl⟩ .nil)) (by intro x hx; simp at hx; rcases hx with rfl | rfl; exact ha; exact hb) (fun x hx => ?_) (by simp; omega) _ ?_)
  · have hx : x = K2.next := by simpa [sblk] using hx
    subst hx
    exact ⟨by omega, by omega, by omega, by omega, fun h => by have := hlt.2.2.2.2.1 _ h; omega, fun h => by have := hlt.2.2.2.2.2.1 _ h; omega, fun h => by have := hlt.2.2.2.2.2.2 _ h; omega⟩
  · have hx' : H.next ≤ x.1 ∧ x.1 < K2.next := by
      simp only [List.mem_cons, List.not_mem_nil, or_false] at hx
      rcases hx with rfl | rfl
      · exact ⟨by simp, by simp; omega⟩
      · exact ⟨by simp; omega, by simp; omega⟩
    refine ⟨fun hz => by have := hZ _ hz; omega, fun h => ?_, by omega, by omega, by omega, by omega, fun h => by have := hlt.2.2.2.2.1 _ h; omega, fun h => by have := hlt.2.2.2.2.2.1 _ h; omega, fun h => by have := hlt.2.2.2.2.2.2 _ h; omega⟩
    have : x.1 = K2.next := by simpa [sblk] using h
    omega
  rw [hre]
  intro H4 g4 gw4 gh4 q1 q2 q3 _ q5 hok4 _
  have q1 : MIn Z H4 p size vb g4 gw4 gh4 vn vk va M := q1
  cases q3 with
  | cons qa qr =>
  cases qr with
  | cons qb qr =>
  obtain ⟨ca, la1, la2⟩ := qa
  obtain ⟨cb, lb1, lb2⟩ := qb
  have la1 : H4.get H.next = some (.cells ca true) := la1
  have lb1 : H4.get K1.next = some (.cells cb true) := lb1
  have la2 : ca[0]? = some (U a) := la2
  have lb2 : cb[0]? = some (U b) := lb2
  have hZ4 : ∀ b, Z b → b < H4.next := fun b hb => Nat.lt_of_lt_of_le (hZ3 b hb) q2.next
  have hk4 : Kp Z H H4 := (hO.kp hZ).trans q2
  simp (disch := first | omega | (show allOne _ = true; simp [allOne, Value.oneCell', S]) | (simp only [qz]; first | done | omega)) only [go_sem, la1, lb1, ldc_cells, la2, lb2]
  have hlt4 := q1.lt hok4
  have hO5 := Old.push H4 (.cells [U a, U b] true)
  have hg5 : (H4.push (.cells [U a, U b] true)).get H4.next = some (.cells [U a, U b] true) := get_push_same _
  have hx5 := HHeap.push_next H4 (.cells [U a, U b] true)
  have hM5 := q1.old hok4 hO5 hZ4 (fun _ h => h) (fun _ h => .inl h)
  have k5 := hk4.trans (hO5.kp hZ4)
  obtain ⟨K5, hK5⟩ : ∃ K5, K5 = H4.push (.cells [U a, U b] true) := ⟨_, rfl⟩
  rw [← hK5] at hM5 k5 hg5 hx5 ⊢
  have hmk : makeT size M.T 1 [a, b] = M.T ++ [⟨1, [a, b]⟩] := by unfold makeT; rw [if_pos ⟨by simp, by simp; omega⟩]
  have hmw : makeW size M.T [a, b] = wordAt (usedOf M.T) := by unfold makeW; rw [if_pos ⟨by simp, by simp; omega⟩]
  refine vm_made hM5 1 ⟨by omega, by omega⟩ _ [a, b] (by intro x hx; simp at hx; rcases hx with rfl | rfl; exact ha; exact hb) ⟨fun x => x = H4.next, ⟨_, 2, rfl, Nat.le_refl _, .inr ⟨H4.next, 0, none, rfl, (by intro q e; cases e), .inr ⟨_, true, rfl, hg5, Nat.le_refl _, fun i x hx => flatW_U _ _ [a, b] _ _ hx⟩⟩⟩, by omega, by omega, by omega⟩ _ ?_
  rw [hmk, hmw]
  intro H6 hM6 h6 h6n
  simp (disch := first | omega | (show allOne _ = true; simp [allOne, Value.oneCell', S]) | (simp only [qz]; first | done | omega)) only [go_sem]
  refine hR H6 _ _ _ hM6 (k5.trans ⟨Nat.le_of_eq h6n.symm, fun x hx => h6 x ?_ ?_ ?_⟩)
  · rintro rfl; exact q1.zp.2.1 hx
  · rintro rfl; exact q1.zp.2.2.1 hx
  · rintro rfl; exact q1.zp.2.2.2.1 hx
end
end Go.HL
/-
  Walks: a word is kept.
-/
namespace Go.HL
open Go.RowKit Go.Proofs
set_option maxHeartbeats 4000000
set_option maxRecDepth 100000
set_option linter.unusedSimpArgs false
set_option linter.unusedVariables false
theorem slot_at {l : List (Nat × Bool)} {i : Nat} {x : Nat × Bool} (h : l[i]? = some x) (hx : x.1 < 18446744073709551616) : ((scells l).drop (i * 2)).take 2 = [U x.1, .bool x.2] := by
  have := (flatW_S (fun _ => False) ⟨0, fun _ => none⟩ l i x h hx).1
  unfold flatW at this
  rw [Nat.zero_add] at this
  exact this
theorem Gr.ofSlots {Z : Zs} {H : HHeap} {b : Nat} {l : List (Nat × Bool)} (hne : l ≠ []) (hz : ¬ Z b) (hg : H.get b = some (.cells (scells l) true)) (hl : ∀ x ∈ l, x.1 < 18446744073709551616) : Gr rSlot Z H (.slice (some ⟨b, 0, some 4⟩) l.length l.length) l :=
  .inr (.inr ⟨b, _, hne, rfl, hz, hg, by rw [scells_len]; exact Nat.mul_comm _ _, fun i x hx => flatW_S _ _ _ _ _ hx (hl x (List.mem_of_getElem? hx))⟩)
section
variable {Z : Zs} {H : HHeap} {p size : Nat} {vb : Value} {g gw gh : Nat} {vn vk va : Value} {M : MS} {B : List Bk}
theorem MIn.keepTo (h : MIn Z H p size vb g gw gh vn vk va M) {H' : HHeap} {v : Value} {l : List (Nat × Bool)} (hp : H'.get p = some (.cells (mcells vb g vn v va M) true)) (hZ : ∀ b, Z b → H'.get b = H.get b) (ho : ∀ b, (b = g ∨ b = gw ∨ b = gh ∨ b ∈ sblk vn ∨ b ∈ sblk va) → H'.get b = H.get b)
    (hk : Gr rSlot Z H' v l) (dk : ∀ b ∈ sblk v, b ≠ p ∧ b ≠ g ∧ b ≠ gw ∧ b ≠ gh ∧ b ∉ sblk vn ∧ b ∉ sblk va) (hl : l.length ≤ 16384) : MIn Z H' p size vb g gw gh vn v va { M with kp := l } where
  m := hp
  A := h.A.frame fun b hb => ho b (by rcases hb with h | h | h <;> simp [h])
  nm := by
    obtain ⟨b, e, hg⟩ := h.nm
    exact ⟨b, e, by rw [ho b (by simp [e, sblk])]; exact hg⟩
  kp := hk
  ask := h.ask.ext (fun b hb => ⟨hb, hZ b hb⟩) fun b hb => ⟨ho b (by simp [hb]), (h.ask.blk b hb).1⟩
  ok := ⟨h.ok.v, h.ok.e, h.ok.s, h.ok.f, h.ok.nm, h.ok.ask, h.ok.bl, h.ok.pc, h.ok.nml, hl, h.ok.askl⟩
  zp := h.zp
  pg := h.pg
  dn := h.dn
  dk := fun b hb => by have := dk b hb; exact ⟨this.1, this.2.1, this.2.2.1, this.2.2.2.1, this.2.2.2.2.1⟩
  da := fun b hb => by
    have := h.da b hb
    exact ⟨this.1, this.2.1, this.2.2.1, this.2.2.2.1, this.2.2.2.2.1, fun hm => (dk b hm).2.2.2.2.2 hb⟩
theorem keep_free (w : Nat) (u : Bool) (H : HHeap) (R : Value → HHeap → Prop) (hR : ∀ H', Old H H' → R (.bool (!u)) H') : HCalls Tryz.prog 28 [.agg #[U w, .bool u]] H R := by
  have hbx : hbox H (.agg #[U w, .bool u]) = some (.pointer (some ⟨H.next, 0, none⟩), H.push (.cells [U w, .bool u] true)) := by unfold hbox; rfl
  have hg := get_push_same (H := H) (.cells [U w, .bool u] true)
  refine HCalls.of_hw Tryz.func28 rfl _ Tryz.ntmps28 _ (by rw [Tryz.results28]) ?_
  rw [hframe0_eq _ _ (by simp)]
  simp only [List.zipIdx_cons, List.zipIdx_nil, List.map_cons, List.map_nil, Nat.reduceAdd]
  simp (disch := first | omega | (show allOne _ = true; simp [allOne, Value.oneCell', S]) | (simp only [qz]; first | done | omega)) only [go_sem, hbx, hg, ldc_cells]
  exact hR _ (Old.push _ _)
theorem keep_index (hk : Gr rSlot Z H vk M.kp) (hok : H.Ok) (hall : ∀ x ∈ M.kp, x.2 = true) (hl : M.kp.length ≤ 16384) (hkl : ∀ x ∈ M.kp, x.1 < 18446744073709551616) (R : Value → HHeap → Prop) (hR : ∀ H', Old H H' → R (I (-1)) H') : HCalls Tryz.prog 27 [vk, .func (.func 28) #[] #[]] H R := by
  obtain ⟨ak, hvk, hsl⟩ := hk.slots
  subst hvk
  refine HCalls.of_hw Tryz.func27 rfl _ Tryz.ntmps27 _ (by rw [Tryz.results27]) ?_
  rw [hframe0_eq _ _ (by simp)]
  simp only [List.zipIdx_cons, List.zipIdx_nil, List.map_cons, List.map_nil, Nat.reduceAdd]
  simp (disch := first | omega | (show allOne _ = true; simp [allOne, Value.oneCell', S]) | (simp only [qz]; first | done | omega)) only [go_sem]
  refine Hwp.loop (fun n fr K => ∃ i : Nat, n = M.kp.length - i ∧ i ≤ M.kp.length ∧ Old H K ∧ FLe (hfr 19 [(8, I (i : Nat)), (7, I (M.kp.length : Nat)), (0, .slice ak M.kp.length M.kp.length), (1, .func (.func 28) #[] #[])]) fr) M.kp.length ?_ ?_
  · exact ⟨0, rfl, by omega, Old.refl _, fle_of (by simp [flook])⟩
  rintro n fr K ⟨i, rfl, hi, hO, hle⟩
  refine Hwp.weaken hle (HW.sound _ _ _ _ ?_)
  have hcase : i < M.kp.length ∨ i = M.kp.length := by omega
  rcases hcase with hc | hc
  · rcases hsl with h0 | ⟨b, k, rfl, hg⟩
    · rw [h0] at hc; simp at hc
    obtain ⟨x, hx⟩ : ∃ x, M.kp[i]? = some x := ⟨_, List.getElem?_eq_getElem hc⟩
    have hu := hall x (List.mem_of_getElem? hx)
    obtain ⟨xw, xu⟩ := x
    simp only at hu
    subst hu
    have hsl2 := slot_at hx (hkl _ (List.mem_of_getElem? hx))
    have hscl := scells_len M.kp
    have hgK : K.get b = some (.cells (scells M.kp) true) := by rw [hO.2 _ (hok _ _ hg)]; exact hg
    simp (disch := first | omega | (show allOne _ = true; simp [allOne, Value.oneCell', S]) | (simp only [qz]; first | done | omega)) only [go_sem, hgK, lda_cells, ixa_ok, hsl2]
    refine keep_free xw true _ _ ?_
    intro K' hO'
    simp (disch := first | omega | (show allOne _ = true; simp [allOne, Value.oneCell', S]) | (simp only [qz]; first | done | omega)) only [go_sem, Bool.not_true]
    refine ⟨_, ?_, i + 1, rfl, by omega, hO.trans hO', fle_of (by simp [flook])⟩
    omega
  · subst hc
    simp (disch := first | omega | (show allOne _ = true; simp [allOne, Value.oneCell', S]) | (simp only [qz]; first | done | omega)) only [go_sem]
    exact hR K hO
theorem vm_Keep (hM : MIn Z H p size vb g gw gh vn vk va M) (hZ : ∀ b, Z b → b < H.next) (w : Nat) (hw : w < 18446744073709551616) (hall : ∀ x ∈ M.kp, x.2 = true) (hkl : ∀ x ∈ M.kp, x.1 < 18446744073709551616) (hlen : M.kp.length < 16384) (R : Value → HHeap → Prop)
    (hR : ∀ H' vk', MIn Z H' p size vb g gw gh vn vk' va { M with kp := M.kp ++ [(w, true)] } → Kp Z H H' → R (.tuple #[I (M.kp.length : Nat), I 0]) H') : HCalls Tryz.prog 7 [ptr p 0, U w] H R := by
  refine HCalls.ok fun hok => ?_
  have hlt := hM.lt hok
  obtain ⟨ak, hvk, _⟩ := hM.kp.slots
  subst hvk
  refine HCalls.of_hw Tryz.func7 rfl _ Tryz.ntmps7 _ (by rw [Tryz.results7]) ?_
  rw [hframe0_eq _ _ (by simp)]
  simp only [List.zipIdx_cons, List.zipIdx_nil, List.map_cons, List.map_nil, Nat.reduceAdd]
  simp (disch := first | omega | (show allOne _ = true; simp [allOne, Value.oneCell', S]) | (simp only [qz]; first | done | omega)) only [go_sem, hM.m, ldc_cells, mcells]
  refine keep_index hM.kp hok hall (by omega) hkl _ ?_
  intro K hO
  have hMK := hM.old hok hO hZ (fun _ h => h) (fun _ h => .inl h)
  have hZK : ∀ b, Z b → b < K.next := fun b hb => Nat.lt_of_lt_of_le (hZ b hb) hO.1
  simp (disch := first | omega | (show allOne _ = true; simp [allOne, Value.oneCell', S]) | (simp only [qz]; first | done | omega)) only [go_sem, hMK.m, ldc_cells, mcells]
  refine HGo_add1 (n := 2) (by' := 16) (x := (0, false)) hMK.kp rfl (by omega) (get_push_same _) (Old.push _ _) hZK (fun b hb => by have := hlt.2.2.2.2.2.1 b hb; have := hO.1; omega) ⟨rfl, by show (0 : Nat) < _; omega⟩ (by omega) (by omega) ?_
  intro v' K2 k1 k2 k3 k4
  have hne : M.kp ++ [(0, false)] ≠ [] := by simp
  obtain ⟨b, rfl, hz, hg⟩ : ∃ b, v' = .slice (some ⟨b, 0, some 4⟩) (M.kp ++ [(0, false)]).length (M.kp ++ [(0, false)]).length ∧ ¬ Z b ∧ K2.get b = some (.cells (scells (M.kp ++ [(0, false)])) true) := by
    rcases k1 with ⟨h0, _⟩ | ⟨_, _, _, h0, _⟩ | ⟨b, cs, _, rfl, hz, hg, hcl, hcr⟩
    · exact absurd h0 hne
    · exact absurd h0 hne
    · have := Gr.cellsS (b := b) hcl hcr
      subst this
      exact ⟨b, rfl, hz, hg⟩
  have hbK := k2 b (by simp [sblk])
  have hol : ∀ x, (x = p ∨ x = g ∨ x = gw ∨ x = gh ∨ x ∈ sblk vn ∨ x ∈ sblk va) → x ∉ sblk (.slice ak M.kp.length M.kp.length) := by
    intro x hx hm
    have hd := hM.dk x hm
    rcases hx with h | h | h | h | h | h
    · exact hd.1 h
    · exact hd.2.1 h
    · exact hd.2.2.1 h
    · exact hd.2.2.2.1 h
    · exact hd.2.2.2.2 h
    · exact (hM.da x h).2.2.2.2.2 hm
  have hlo : ∀ x, (x = p ∨ x = g ∨ x = gw ∨ x = gh ∨ x ∈ sblk vn ∨ x ∈ sblk va) → x < H.next := by
    intro x hx
    rcases hx with rfl | rfl | rfl | rfl | h | h
    · exact hlt.1
    · exact hlt.2.1
    · exact hlt.2.2.1
    · exact hlt.2.2.2.1
    · exact hlt.2.2.2.2.1 x h
    · exact hlt.2.2.2.2.2.2 x h
  have hO1 := hO.1
  have hsame : ∀ x, (x = p ∨ x = g ∨ x = gw ∨ x = gh ∨ x ∈ sblk vn ∨ x ∈ sblk va) → K2.get x = H.get x := fun x hx => by rw [k4 x (by have := hlo x hx; omega) (hol x hx), hO.2 x (hlo x hx)]
  have hp2 : K2.get p = some (.cells (mcells vb g vn (.slice ak M.kp.length M.kp.length) va M) true) := by rw [hsame p (.inl rfl)]; exact hM.m
  have hbp : b ≠ p := by have := hlo p (.inl rfl); omega
  have hln : (M.kp ++ [(0, false)]).length = M.kp.length + 1 := by simp
  have hsp := scells_splice (M.kp ++ [(0, false)]) M.kp.length w true (by omega)
  have hset : (M.kp ++ [(0, false)]).set M.kp.length (w, true) = M.kp ++ [(w, true)] := by simp
  rw [hset] at hsp
  have hscl := scells_len (M.kp ++ [(0, false)])
  simp (disch := first | omega | (show allOne _ = true; simp [allOne, Value.oneCell', S]) | (simp only [qz]; first | done | omega)) only [go_sem, hp2, ldc_cells, mcells, stc_cells, get_set_ne, hg, ixa_ok, sta_cells, hsp, hln]
  have hne2 : M.kp ++ [(w, true)] ≠ [] := by simp
  refine hR _ (.slice (some ⟨b, 0, some 4⟩) (M.kp.length + 1) (M.kp.length + 1)) (hM.keepTo ?_ ?_ ?_ ?_ ?_ ?_) ⟨?_, ?_⟩
  · rw [get_set_ne _ _ _ (fun e => hbp e.symm), get_set_same]; rfl
  · intro x hx
    rw [get_set_ne _ _ _ (by rintro rfl; exact hz hx), get_set_ne _ _ _ (by rintro rfl; exact hM.zp.1 hx), k4 x (hZK x hx) (fun h => (hM.kp.blk x h).1 hx), hO.2 x (hZ x hx)]
  · intro x hx
    have hx' : x = p ∨ x = g ∨ x = gw ∨ x = gh ∨ x ∈ sblk vn ∨ x ∈ sblk va := .inr hx
    have hxp : x ≠ p := by
      rcases hx with rfl | rfl | rfl | h | h
      · exact hM.pg.1.symm
      · exact hM.pg.2.1.symm
      · exact hM.pg.2.2.symm
      · exact (hM.dn x h).1
      · exact (hM.da x h).1
    rw [get_set_ne _ _ _ (by have := hlo x hx'; omega), get_set_ne _ _ _ hxp, hsame x hx']
  · have := Gr.ofSlots (Z := Z) (H := (K2.set p (.cells (mcells vb g vn (.slice (some ⟨b, 0, some 4⟩) (M.kp.length + 1) (M.kp.length + 1)) va M) true)).set b (.cells (scells (M.kp ++ [(w, true)])) true)) hne2 hz (by rw [get_set_same]) (fun x hx => by
      rcases List.mem_append.1 hx with h | h
      · exact hkl x h
      · simp at h; rw [h]; exact hw)
    rw [show (M.kp ++ [(w, true)]).length = M.kp.length + 1 by simp] at this
    exact this
  · intro x hx
    have hx : x = b := by simpa [sblk] using hx
    subst hx
    have l1 := hlo p (.inl rfl)
    have l2 := hlo g (.inr (.inl rfl))
    have l3 := hlo gw (.inr (.inr (.inl rfl)))
    have l4 := hlo gh (.inr (.inr (.inr (.inl rfl))))
    exact ⟨by omega, by omega, by omega, by omega, fun h => by have := hlo x (.inr (.inr (.inr (.inr (.inl h))))); omega, fun h => by have := hlo x (.inr (.inr (.inr (.inr (.inr h))))); omega⟩
  · simp; omega
  · rw [HHeap.set_next, HHeap.set_next]; omega
  · intro x hx
    rw [get_set_ne _ _ _ (by rintro rfl; exact hz hx), get_set_ne _ _ _ (by rintro rfl; exact hM.zp.1 hx), k4 x (hZK x hx) (fun h => (hM.kp.blk x h).1 hx), hO.2 x (hZ x hx)]
end
end Go.HL
/-
  Walks: what is kept is let go of.
-/
namespace Go.HL
open Go.RowKit Go.Proofs
set_option maxHeartbeats 4000000
set_option maxRecDepth 100000
set_option linter.unusedSimpArgs false
set_option linter.unusedVariables false
section
variable {Z : Zs} {H : HHeap} {p size : Nat} {vb : Value} {g gw gh : Nat} {vn vk va : Value} {M : MS} {B : List Bk}
theorem vm_Drop (hM : MIn Z H p size vb g gw gh vn vk va M) (i : Nat) (hi : i < 1000000) (w : Nat) (hx : M.kp[i]? = some (w, true)) (R : Value → HHeap → Prop)
    (hR : ∀ H', MIn Z H' p size vb g gw gh vn vk va { M with kp := M.kp.set i (0, false) } → Kp Z H H' → R (I 0) H') : HCalls Tryz.prog 8 [ptr p 0, I (i : Nat)] H R := by
  have hl := (List.getElem?_eq_some_iff.1 hx).1
  have hkept : M.kept i = (w, 0) := by unfold MS.kept; rw [hx]
  have hkl := hM.ok.kpl
  have hne : M.kp ≠ [] := by rintro e; rw [e] at hl; simp at hl
  have hne' : M.kp.set i (0, false) ≠ [] := by intro e; have := congrArg List.length e; simp at this; exact hne this
  have hkp := hM.kp
  rcases hkp with ⟨h0, _⟩ | ⟨_, _, _, h0, _⟩ | ⟨b, cs, _, rfl, hz, hg, hcl, hcr⟩
  · exact absurd h0 hne
  · exact absurd h0 hne
  have := Gr.cellsS (b := b) hcl hcr
  subst this
  have hsp : splice (scells M.kp) (i * 2) [.int .u64 0, .bool false] = scells (M.kp.set i (0, false)) := scells_splice M.kp i 0 false hl
  have hscl := scells_len M.kp
  have hdk := hM.dk b (by simp [sblk])
  have hfin : MIn Z (H.set b (.cells (scells (M.kp.set i (0, false))) true)) p size vb g gw gh vn (.slice (some ⟨b, 0, some (2 * rSlot.n)⟩) M.kp.length M.kp.length) va { M with kp := M.kp.set i (0, false) } := by
    refine hM.keepTo ?_ (fun x hx => get_set_ne _ _ _ (by rintro rfl; exact hz hx)) (fun x hx => get_set_ne _ _ _ ?_) ?_ (fun x hx => ?_) (by simpa using hkl)
    · rw [get_set_ne _ _ _ (fun e => hdk.1 e.symm)]; exact hM.m
    · rintro rfl
      rcases hx with h | h | h | h | h
      · exact hdk.2.1 h
      · exact hdk.2.2.1 h
      · exact hdk.2.2.2.1 h
      · exact hdk.2.2.2.2 h
      · exact (hM.da x h).2.2.2.2.2 (by simp [sblk])
    · have := Gr.ofSlots (Z := Z) (l := M.kp.set i (0, false)) hne' hz (by rw [get_set_same]) (fun x hx => by
        rcases List.mem_or_eq_of_mem_set hx with h | h
        · exact hM.kpw x h
        · rw [h]; omega) (H := H.set b (.cells (scells (M.kp.set i (0, false))) true))
      rw [List.length_set] at this
      exact this
    · have hx : x = b := by simpa [sblk] using hx
      subst hx
      exact ⟨hdk.1, hdk.2.1, hdk.2.2.1, hdk.2.2.2.1, hdk.2.2.2.2, fun h => (hM.da x h).2.2.2.2.2 (by simp [sblk])⟩
  have hK : Kp Z H (H.set b (.cells (scells (M.kp.set i (0, false))) true)) := Kp.set hz
  refine HCalls.of_hw Tryz.func8 rfl _ Tryz.ntmps8 _ (by rw [Tryz.results8]) ?_
  rw [hframe0_eq _ _ (by simp)]
  simp only [List.zipIdx_cons, List.zipIdx_nil, List.map_cons, List.map_nil, Nat.reduceAdd]
  simp (disch := first | omega | (show allOne _ = true; simp [allOne, Value.oneCell', S]) | (simp only [qz]; first | done | omega)) only [go_sem]
  refine vm_Kept hM i hi _ ?_
  rw [hkept]
  simp (disch := first | omega | (show allOne _ = true; simp [allOne, Value.oneCell', S]) | (simp only [qz]; first | done | omega)) only [go_sem, hM.m, hg, ldc_cells, mcells, ixa_ok, sta_cells, hsp]
  exact hR _ hfin hK
end
end Go.HL
/-
  Walks: what is not reached is let go of, from outside. (Not built yet: the seat vm2 does not reach it.)
-/
namespace Go.HL
open Go.RowKit Go.Proofs
set_option maxHeartbeats 4000000
set_option maxRecDepth 100000
set_option linter.unusedSimpArgs false
set_option linter.unusedVariables false
section
variable {Z : Zs} {H : HHeap} {p size : Nat} {vb : Value} {g gw gh : Nat} {vn vk va : Value} {M : MS} {B : List Bk}
theorem vm_Collect (hM : MIn Z H p size vb g gw gh vn vk va M) (hZ : ∀ b, Z b → b < H.next) (R : Value → HHeap → Prop)
    (hR : ∀ H' g' gw' gh', MIn Z H' p size vb g' gw' gh' vn vk va (M.collect []) → Kp Z H H' → R (.tuple #[]) H') :
    HCalls Tryz.prog 10 [ptr p 0] H R := by
  refine HCalls.of_hw Tryz.func10 rfl _ Tryz.ntmps10 _ (by rw [Tryz.results10]) ?_
  rw [hframe0_eq _ _ (by simp)]
  simp only [List.zipIdx_cons, List.zipIdx_nil, List.map_cons, List.map_nil, Nat.reduceAdd]
  simp (disch := first | omega | (show allOne _ = true; simp [allOne, Value.oneCell', S]) | (simp only [qz]; first | done | omega)) only [go_sem]
  refine vm_collect hM hZ _ [] [] (.inl (Gr.nil _ _ _)) (by simp) (by simp [sblk]) .nil (by simp) (by simp) (by simp) _ ?_
  intro H' g' gw' gh' h1 h2 _ _ _
  simp (disch := first | omega | (show allOne _ = true; simp [allOne, Value.oneCell', S]) | (simp only [qz]; first | done | omega)) only [go_sem]
  exact hR H' g' gw' gh' h1 h2
end
end Go.HL
