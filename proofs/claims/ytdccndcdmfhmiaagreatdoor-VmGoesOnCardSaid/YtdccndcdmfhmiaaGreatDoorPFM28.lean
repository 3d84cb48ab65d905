/-
  Joined: M25, M26, M28.
-/
import Derived.Test.YtdccndcdmfhmiaaGreatDoorPFM24
set_option linter.unusedVariables false
set_option linter.unusedSimpArgs false
/-
  Walks: what is kept, what is asked for, and its end by an error; what is let go of.
-/
namespace Go.HL
open Go.RowKit Go.Proofs
set_option maxHeartbeats 4000000
set_option maxRecDepth 100000
set_option linter.unusedSimpArgs false
set_option linter.unusedVariables false
/-- A word that is kept; what is wrong. -/
def MS.kept (M : MS) (i : Nat) : Nat × Nat := match M.kp[i]? with | some (w, true) => (w, 0) | _ => (0, 2)
section
variable {Z : Zs} {H : HHeap} {p size : Nat} {vb : Value} {g gw gh : Nat} {vn vk va : Value} {M : MS} {B : List Bk}
theorem vm_Kept (hM : MIn Z H p size vb g gw gh vn vk va M) (i : Nat) (hi : i < 1000000) (R : Value → HHeap → Prop) (hR : R (.tuple #[U (M.kept i).1, I ((M.kept i).2 : Nat)]) H) :
    HCalls Tryz.prog 17 [ptr p 0, I (i : Nat)] H R := by
  obtain ⟨ak, hvk, hsl⟩ := hM.kp.slots
  subst hvk
  have hkl := hM.ok.kpl
  unfold MS.kept at hR
  refine HCalls.of_hw Tryz.func17 rfl _ Tryz.ntmps17 _ (by rw [Tryz.results17]) ?_
  rw [hframe0_eq _ _ (by simp)]
  simp only [List.zipIdx_cons, List.zipIdx_nil, List.map_cons, List.map_nil, Nat.reduceAdd]
  cases hx : M.kp[i]? with
  | none =>
    rw [hx] at hR
    have hl := List.getElem?_eq_none_iff.1 hx
    simp (disch := first | omega | (show allOne _ = true; simp [allOne, Value.oneCell', S]) | (simp only [qz]; first | done | omega)) only [go_sem, hM.m, ldc_cells, mcells]
    exact hR
  | some x =>
    rw [hx] at hR
    have hl := (List.getElem?_eq_some_iff.1 hx).1
    obtain ⟨xw, xu⟩ := x
    rcases hsl with h0 | ⟨b, k, rfl, hg⟩
    · rw [h0] at hl; simp at hl
    obtain ⟨c1, c2⟩ := scells_at hx
    have c1' : (scells M.kp)[i * 2]? = some (U xw) := by rw [Nat.mul_comm]; exact c1
    have c2' : (scells M.kp)[i * 2 + 1]? = some (.bool xu) := by rw [Nat.mul_comm]; exact c2
    cases xu with
    | true =>
      simp only at hR
      simp (disch := first | omega | (show allOne _ = true; simp [allOne, Value.oneCell', S]) | (simp only [qz]; first | done | omega)) only [go_sem, hM.m, hg, ldc_cells, mcells, ixa_ok, c1', c2']
      exact hR
    | false =>
      simp only at hR
      simp (disch := first | omega | (show allOne _ = true; simp [allOne, Value.oneCell', S]) | (simp only [qz]; first | done | omega)) only [go_sem, hM.m, hg, ldc_cells, mcells, ixa_ok, c1', c2']
      exact hR
theorem vm_host (hM : MIn Z H p size vb g gw gh vn vk va M) (R : Value → HHeap → Prop) (hR : R (I ((if M.st = 2 then 0 else 133 : Nat) : Int)) H) : HCalls Tryz.prog 43 [ptr p 0] H R := by
  refine HCalls.of_hw Tryz.func43 rfl _ Tryz.ntmps43 _ (by rw [Tryz.results43]) ?_
  rw [hframe0_eq _ _ (by simp)]
  simp only [List.zipIdx_cons, List.zipIdx_nil, List.map_cons, List.map_nil, Nat.reduceAdd]
  have h : M.st = 2 ∨ ¬ M.st = 2 := by omega
  rcases h with h | h
  · rw [if_pos h] at hR
    simp (disch := first | omega | (show allOne _ = true; simp [allOne, Value.oneCell', S]) | (simp only [qz]; first | done | omega)) only [go_sem, hM.m, ldc_cells, mcells, h]
    exact hR
  · rw [if_neg h] at hR
    simp (disch := first | omega | (show allOne _ = true; simp [allOne, Value.oneCell', S]) | (simp only [qz]; first | done | omega)) only [go_sem, hM.m, ldc_cells, mcells]
    exact hR
end
end Go.HL
/-
  Walks: a copy of words; what is asked for.
-/
namespace Go.HL
open Go.RowKit Go.Proofs
set_option maxHeartbeats 4000000
set_option maxRecDepth 100000
set_option linter.unusedSimpArgs false
set_option linter.unusedVariables false
theorem slc_eq (a : Addr) (n c : Nat) : hbin Tryz.prog .eql 40 (.slice (some a) n c) (.slice none 0 0) = some (.bool false) := by
  have h : kindOf Tryz.prog 40 = 3 := by kernel_rfl
  unfold hbin; simp only [h]; rfl
theorem slices_Clone {Z : Zs} {H : HHeap} {v : Value} {l : List Nat} (hs : Sl rW Z H v l) (hZ : ∀ b, Z b → b < H.next) (hl : l.length ≤ 1000000) (R : Value → HHeap → Prop)
    (hR : ∀ v' H', Gr rW Z H' v' l → (∀ b ∈ sblk v', H.next ≤ b ∧ b < H'.next) → Old H H' → R v' H') : HCalls Tryz.prog 36 [v] H R := by
  have hs0 := hs
  obtain ⟨a, c, rfl, h2, h3⟩ := hs0
  rcases h3 with ⟨rfl, rfl⟩ | ⟨b, o, q, rfl, h4, h5⟩
  · have e : l = [] := by cases l with | nil => rfl | cons x l => simp at h2
    subst e
    refine HCalls.of_hw Tryz.func36 rfl _ Tryz.ntmps36 _ (by rw [Tryz.results36]) ?_
    rw [hframe0_eq _ _ (by simp)]
    simp only [List.zipIdx_cons, List.zipIdx_nil, List.map_cons, List.map_nil, Nat.reduceAdd]
    simp (disch := first | omega | (show allOne _ = true; simp [allOne, Value.oneCell', S]) | (simp only [qz]; first | done | omega)) only [go_sem]
    exact hR (.slice none 0 0) H (Gr.nil _ _ _) (by simp [sblk]) (Old.refl _)
  · have hO := Old.push H (.cells [] true)
    have hx := HHeap.push_next H (.cells [] true)
    have hg : (H.push (.cells [] true)).get H.next = some (.cells [] true) := get_push_same _
    have hsrc := (hs.old hO hZ).srcW
    refine HCalls.of_hw Tryz.func36 rfl _ Tryz.ntmps36 _ (by rw [Tryz.results36]) ?_
    rw [hframe0_eq _ _ (by simp)]
    simp only [List.zipIdx_cons, List.zipIdx_nil, List.map_cons, List.map_nil, Nat.reduceAdd]
    by_cases h0 : l.length = 0
    · have e : l = [] := List.eq_nil_of_length_eq_zero h0
      subst e
      have ha : apd (H.push (.cells [] true)) 1 8 (.slice (some ⟨H.next, 0, none⟩) 0 0) (([] : List Nat).map U, ([] : List Nat).length) = some (.slice (some ⟨H.next, 0, none⟩) 0 0, H.push (.cells [] true)) := apd_zero _ _ _ _ _ _
      have hGr : Gr rW Z (H.push (.cells [] true)) (.slice (some ⟨H.next, 0, none⟩) 0 0) [] := .inr (.inl ⟨H.next, [], true, rfl, rfl, fun hz => by have := hZ _ hz; omega, hg⟩)
      have := hR _ _ hGr (by intro b hb; simp [sblk] at hb; omega) hO
      simp (disch := first | omega | (show allOne _ = true; simp [allOne, Value.oneCell', S]) | (simp only [qz]; first | done | omega)) only [go_sem, hsrc, ha, slc_eq]
      exact this
    · have hne : l ≠ [] := fun e => h0 (by rw [e]; rfl)
      simp (disch := first | omega | (show allOne _ = true; simp [allOne, Value.oneCell', S]) | (simp only [qz]; first | done | omega)) only [go_sem, hsrc, slc_eq]
      rw [apd_some _ _ _ _ _ _ _ _ _ (by omega) (by omega) (by omega), hg, apo_fresh _ _ _ _ _ _ _ (by omega), HGo_some]
      have hx2 := HHeap.push_next (H.push (.cells [] true)) (.cells (l.map U) true)
      have hO2 := hO.trans (Old.push _ (.cells (l.map U) true))
      have hg2 : ((H.push (.cells [] true)).push (.cells (l.map U) true)).get (H.push (.cells [] true)).next = some (.cells (l.map U) true) := get_push_same _
      have hGr : Gr rW Z ((H.push (.cells [] true)).push (.cells (l.map U) true)) (.slice (some ⟨(H.push (.cells [] true)).next, 0, some (2 * 1)⟩) l.length l.length) l :=
        .inr (.inr ⟨_, _, hne, rfl, fun hz => by have := hZ _ hz; omega, hg2, by show _ = _ * 1; simp, fun i x hx => flatW_U _ _ _ _ _ hx⟩)
      have := hR _ _ hGr (by intro b hb; simp [sblk] at hb; omega) hO2
      simp (disch := first | omega | (show allOne _ = true; simp [allOne, Value.oneCell', S]) | (simp only [qz]; first | done | omega)) only [go_sem]
      exact this
section
variable {Z : Zs} {H : HHeap} {p size : Nat} {vb : Value} {g gw gh : Nat} {vn vk va : Value} {M : MS} {B : List Bk}
theorem vm_Asked (hM : MIn Z H p size vb g gw gh vn vk va M) (hZ : ∀ b, Z b → b < H.next) (R : Value → HHeap → Prop)
    (hR : ∀ v' H', Gr rW Z H' v' M.ask → (∀ b ∈ sblk v', H.next ≤ b ∧ b < H'.next) → Old H H' → R (.tuple #[I (M.op : Nat), v']) H') :
    HCalls Tryz.prog 10 [ptr p 0] H R := by
  refine HCalls.ok fun hok => ?_
  have hst := hM.ask.stay
  have hlt := hM.lt hok
  refine HCalls.of_hw Tryz.func10 rfl _ Tryz.ntmps10 _ (by rw [Tryz.results10]) ?_
  rw [hframe0_eq _ _ (by simp)]
  simp only [List.zipIdx_cons, List.zipIdx_nil, List.map_cons, List.map_nil, Nat.reduceAdd]
  simp (disch := first | omega | (show allOne _ = true; simp [allOne, Value.oneCell', S]) | (simp only [qz]; first | done | omega)) only [go_sem, hM.m, ldc_cells, mcells]
  refine Hwp.drawn mixed [0, 1, 3, 7, 0, 16, 48, 112, 240, 511, 1023] (.op 0 (.op 1 (.op 2 (.op 3 (.op 4 (.op 5 (.op 6 (.op 7 (.eff 8 (.op 9 (.op 10 .done)) .stop))))))))) (by kernel_rfl) ?_
  simp (disch := first | omega | (show allOne _ = true; simp [allOne, Value.oneCell', S]) | (simp only [qz]; first | done | omega)) only [go_sem, hM.m, ldc_cells, mcells]
  refine slices_Clone hst (fun b hb => by rcases hb with hb | hb; exact hZ b hb; exact hlt.2.2.2.2.2.2 b hb) hM.ok.askl _ ?_
  intro v' H' h1 h2 h3
  have hMK := hM.old hok h3 hZ (fun _ h => h) (fun _ h => .inl h)
  have := hR v' H' (h1.less (fun _ h => .inl h) fun _ _ h => h) h2 h3
  simp (disch := first | omega | (show allOne _ = true; simp [allOne, Value.oneCell', S]) | (simp only [qz]; first | done | omega)) only [go_sem, hMK.m, ldc_cells, mcells]
  exact this
end
end Go.HL
/-
  Walks: what is asked for is answered, by a word or by an error.
-/
namespace Go.HL
open Go.RowKit Go.Proofs
set_option maxHeartbeats 4000000
set_option maxRecDepth 100000
set_option linter.unusedSimpArgs false
set_option linter.unusedVariables false
def MS.failX (M : MS) (e : Nat) : Nat × MS := if M.st ≠ 2 then (133, M) else if e = 0 then (1, M) else (0, { M with op := 0, ask := [], st := 4, er := e })
section
variable {Z : Zs} {H : HHeap} {p size : Nat} {vb : Value} {g gw gh : Nat} {vn vk va : Value} {M : MS} {B : List Bk}
theorem vm_Fail (hM : MIn Z H p size vb g gw gh vn vk va M) (e : Nat) (he : e < 1000000) (R : Value → HHeap → Prop)
    (hR : ∀ H' va', MIn Z H' p size vb g gw gh vn vk va' (M.failX e).2 → Kp Z H H' → R (I ((M.failX e).1 : Nat)) H') :
    HCalls Tryz.prog 15 [ptr p 0, I (e : Nat)] H R := by
  refine HCalls.of_hw Tryz.func15 rfl _ Tryz.ntmps15 _ (by rw [Tryz.results15]) ?_
  rw [hframe0_eq _ _ (by simp)]
  simp only [List.zipIdx_cons, List.zipIdx_nil, List.map_cons, List.map_nil, Nat.reduceAdd]
  simp (disch := first | omega | (show allOne _ = true; simp [allOne, Value.oneCell', S]) | (simp only [qz]; first | done | omega)) only [go_sem]
  refine vm_host hM _ ?_
  have h : ¬ M.st = 2 ∨ (M.st = 2 ∧ e = 0) ∨ (M.st = 2 ∧ ¬ e = 0) := by omega
  rcases h with h | ⟨h, h0⟩ | ⟨h, h0⟩
  · have e1 : M.failX e = (133, M) := by unfold MS.failX; rw [if_pos h]
    rw [e1] at hR
    have := hR H va hM (Kp.refl _ _)
    rw [if_neg h]
    simp (disch := first | omega | (show allOne _ = true; simp [allOne, Value.oneCell', S]) | (simp only [qz]; first | done | omega)) only [go_sem]
    exact this
  · have e1 : M.failX e = (1, M) := by unfold MS.failX; rw [if_neg (by simp [h]), if_pos h0]
    rw [e1] at hR
    have := hR H va hM (Kp.refl _ _)
    rw [if_pos h]
    simp (disch := first | omega | (show allOne _ = true; simp [allOne, Value.oneCell', S]) | (simp only [qz]; first | done | omega)) only [go_sem, h0]
    exact this
  · have e1 : M.failX e = (0, { M with op := 0, ask := [], st := 4, er := e }) := by unfold MS.failX; rw [if_neg (by simp [h]), if_neg h0]
    rw [e1] at hR
    rw [if_pos h]
    simp (disch := first | omega | (show allOne _ = true; simp [allOne, Value.oneCell', S]) | (simp only [qz]; first | done | omega)) only [go_sem, hM.m, ldc_cells, mcells, stc_cells, set_set]
    have M1 := hM.askTo (Gr.nil rW Z H) (by simp [sblk]) (M' := { M with op := 0, ask := [] }) rfl rfl rfl rfl ⟨hM.ok.v, hM.ok.e, hM.ok.s, hM.ok.f, hM.ok.nm, by simp, hM.ok.bl, hM.ok.pc, hM.ok.nml, hM.ok.kpl, by simp⟩
    have K1 : Kp Z H (H.set p (.cells (mcells vb g vn vk (.slice none 0 0) { M with op := 0, ask := [] }) true)) := Kp.set hM.zp.1
    refine vm_fail M1 e _ ?_
    intro k1 k2
    simp (disch := first | omega | (show allOne _ = true; simp [allOne, Value.oneCell', S]) | (simp only [qz]; first | done | omega)) only [go_sem]
    exact hR _ _ k1 (K1.trans k2)
end
end Go.HL
