/-
  Joined: L4, L5, L6.
-/
import Derived.Test.YtakjligkeplohaaGreatDoorPFLA
import Derived.Test.YtakjligkeplohaaGreatDoorPFM24
set_option linter.unusedVariables false
set_option linter.unusedSimpArgs false
/-
  VmFuel, run inside the kernel up to its loop: what is looked at; the machine that has begun.
-/
namespace Go.HL
open Go.Proofs Go.RowKit
set_option maxHeartbeats 4000000
set_option maxRecDepth 1000000
set_option linter.unusedSimpArgs false
set_option linter.unusedVariables false
theorem icells_cons (x : In) (l : List In) : icells (x :: l) = [.int .u8 (x.op : Nat), I (x.a : Nat), I (x.b : Nat), U x.w] ++ icells l := by unfold icells; rfl
theorem icells_len : ∀ (l : List In), (icells l).length = 4 * l.length
  | [] => rfl
  | x :: l => by rw [icells_cons, List.length_append, icells_len l, List.length_cons]; simp; omega
theorem icells_at : ∀ {l : List In} {i : Nat} {x : In}, l[i]? = some x → flatW (icells l) 0 4 i = [.int .u8 (x.op : Nat), I (x.a : Nat), I (x.b : Nat), U x.w]
  | [], _, _, h => by simp at h
  | y :: l, 0, x, h => by simp at h; subst h; rw [icells_cons]; rfl
  | y :: l, i + 1, x, h => by
    have := icells_at (l := l) (i := i) (x := x) (by simpa using h)
    rw [icells_cons]
    unfold flatW at this ⊢
    rw [show 0 + (i + 1) * 4 = 4 + (0 + i * 4) by omega, ← List.drop_drop]
    exact this
theorem Sl.ins {Z : Zs} {H : HHeap} {b : Nat} {l : List In} {rw : Bool} (hz : Z b) (hg : H.get b = some (.cells (icells l) rw)) (hl : ∀ i ∈ l, InOk i) : Sl rIns Z H (.slice (some ⟨b, 0, some 8⟩) l.length l.length) l :=
  ⟨_, _, rfl, Nat.le_refl _, .inr ⟨b, 0, _, rfl, (by intro q e; cases e; rfl), .inr ⟨_, rw, hz, hg, by show 0 + l.length * 4 ≤ _; rw [icells_len]; omega, fun i x hx => by
    obtain ⟨h1, h2, h3, h4, _⟩ := hl x (List.mem_of_getElem? hx)
    exact ⟨icells_at hx, h1, h2, h3, h4⟩⟩⟩⟩
/-- Two blocks of a program. -/
theorem Sl.two {Z : Zs} {H : HHeap} {b b1 b2 m1 m2 : Nat} {l1 l2 : List In} {rw : Bool} (hz : Z b) (hz1 : Z b1) (hz2 : Z b2) (hg : H.get b = some (.cells [I (m1 : Nat), .slice (some ⟨b1, 0, some 8⟩) l1.length l1.length, I (m2 : Nat), .slice (some ⟨b2, 0, some 8⟩) l2.length l2.length] rw))
    (h1 : H.get b1 = some (.cells (icells l1) true)) (h2 : H.get b2 = some (.cells (icells l2) true)) (o1 : ∀ i ∈ l1, InOk i) (o2 : ∀ i ∈ l2, InOk i) (n1 : l1.length < 1000000 ∧ m1 < 1000000) (n2 : l2.length < 1000000 ∧ m2 < 1000000) : Sl rBk Z H (.slice (some ⟨b, 0, some 4⟩) 2 2) [⟨m1, l1⟩, ⟨m2, l2⟩] :=
  ⟨_, 2, rfl, Nat.le_refl _, .inr ⟨b, 0, _, rfl, (by intro q e; cases e; rfl), .inr ⟨_, rw, hz, hg, Nat.le_refl _, fun i x hx => by
    match i, hx with
    | 0, hx => cases hx; exact ⟨_, rfl, Sl.ins hz1 h1 o1, n1⟩
    | 1, hx => cases hx; exact ⟨_, rfl, Sl.ins hz2 h2 o2, n2⟩
    | i + 2, hx => simp at hx⟩⟩⟩
instance (i : In) : Decidable (InOk i) := by unfold InOk; exact inferInstance
def okB (B : List Bk) : Bool := B.all fun b => b.l.all fun i => decide (InOk i)
theorem okB_ok {B : List Bk} (h : okB B = true) : BOk B := by
  intro b hb i hi
  unfold okB at h
  exact of_decide_eq_true (List.all_eq_true.1 (List.all_eq_true.1 h b hb) i hi)
theorem fuB_all : (List.range 51).all (fun n => okB (fuB n)) = true := by kernel_rfl
theorem fuB_ok {n : Nat} (h : n < 51) : BOk (fuB n) := okB_ok (List.all_eq_true.1 fuB_all n (by simpa using h))
end Go.HL
/-
  VmFuel: the machine that has begun, out of what was looked at.
-/
namespace Go.HL
open Go.Proofs Go.RowKit
set_option maxHeartbeats 4000000
set_option maxRecDepth 1000000
set_option linter.unusedSimpArgs false
set_option linter.unusedVariables false
theorem plAll : (List.range 20).all (fun i => placed (1460 + i)) = true := by kernel_rfl
theorem pl_in {b : Nat} (h1 : 1460 ≤ b) (h2 : b ≤ 1479) : placed b = true := by
  have := List.all_eq_true.1 plAll (b - 1460) (by simp; omega)
  rwa [show 1460 + (b - 1460) = b by omega] at this
theorem at_of {m : Nat} {h : Tr HObj} {b : Nat} {o : HObj} (hp : placed b = true) (hw : h.walk (path b) = some o) : (absH m h).get b = some o := by
  show Tr.at h b = _
  unfold Tr.at
  rw [hp]
  exact hw
def fuZ (p : Nat) : Zs := fun b => b = p + 10 ∨ b = p + 3 ∨ b = p + 8
theorem fuM_ok : MOk fuM := by
  refine ⟨by show (26 : Nat) < _; omega, by show (25 : Nat) < _; omega, by show (2 : Nat) < _; omega, by show (2 : Nat) < _; omega, ?_, ?_, by show (0 : Nat) < _; omega, by show (0 : Nat) < _; omega, by show (2 : Nat) ≤ _; omega, by show (0 : Nat) ≤ _; omega, by show (0 : Nat) ≤ _; omega⟩
  · intro x hx
    have hx : x ∈ [((0 : Nat), false), (0, false)] := hx
    simp at hx
    subst hx
    show (0 : Nat) < _
    omega
  · intro x hx
    cases hx
theorem fuT_ok : TOk fuM.T := by
  intro t ht
  have ht : t ∈ [(⟨2, [0, 2]⟩ : Thing), ⟨3, [2]⟩] := ht
  simp at ht
  rcases ht with rfl | rfl
  · exact ⟨by simp, by simp, by simp, by intro x hx; simp at hx; omega⟩
  · exact ⟨by simp, by simp, by simp, by intro x hx; simp at hx; omega⟩
theorem fu_begun {H : HHeap} {p n : Nat} (hp : p = 1466 ∨ p = 1467)
    (h0 : H.get p = some (.cells (mcells (.slice (some ⟨p + 10, 0, some 4⟩) 2 2) (p - 3) (.slice (some ⟨p - 2, 0, none⟩) 2 2) (.slice none 0 0) (.slice none 0 0) fuM) true))
    (h1 : H.get (p - 3) = some (.cells (acells (p - 5) (p - 4) 1000 fuM.T) true)) (h2 : H.get (p - 5) = some (.cells (wcells 1000 fuM.T) true)) (h3 : H.get (p - 4) = some (.cells (hcells 1000 fuM.T) true)) (h4 : H.get (p - 2) = some (.cells (scells fuM.nm) true)) :
    MIn (fuZ p) H p 1000 (.slice (some ⟨p + 10, 0, some 4⟩) 2 2) (p - 3) (p - 5) (p - 4) (.slice (some ⟨p - 2, 0, none⟩) 2 2) (.slice none 0 0) (.slice none 0 0) fuM where
  m := h0
  A := ⟨h1, h2, h3, by show (5 : Nat) ≤ 1000; omega, by omega, by omega, fuT_ok, by omega, by omega, by omega⟩
  nm := ⟨p - 2, rfl, h4⟩
  kp := Gr.nil _ _ _
  ask := Gr.nil _ _ _
  ok := fuM_ok
  zp := by
    unfold fuZ
    refine ⟨by omega, by omega, by omega, by omega, fun b hb => ?_⟩
    simp [sblk] at hb
    omega
  pg := by omega
  dn := fun b hb => by simp [sblk] at hb; omega
  dk := fun b hb => by simp [sblk] at hb
  da := fun b hb => by simp [sblk] at hb
theorem fu_blocks {H : HHeap} {p n : Nat} (hn : n < 51) (h5 : H.get (p + 10) = some (.cells [I (0 : Nat), .slice (some ⟨p + 3, 0, some 8⟩) 8 8, I (1 : Nat), .slice (some ⟨p + 8, 0, some 8⟩) 22 22] true)) (h6 : H.get (p + 3) = some (.cells (icells (fuI1 n)) true)) (h7 : H.get (p + 8) = some (.cells (icells fuI2) true)) :
    Sl rBk (fuZ p) H (.slice (some ⟨p + 10, 0, some 4⟩) 2 2) (fuB n) := by
  have hb := fuB_ok hn
  exact Sl.two (l1 := fuI1 n) (l2 := fuI2) (.inl rfl) (.inr (.inl rfl)) (.inr (.inr rfl)) h5 h6 h7 (fun i hi => hb ⟨0, fuI1 n⟩ (by simp [fuB, fuI1]) i hi) (fun i hi => hb ⟨1, fuI2⟩ (by simp [fuB, fuI2]) i hi) ⟨by show (8 : Nat) < _; omega, by omega⟩ ⟨by show (22 : Nat) < _; omega, by omega⟩
theorem fuStart {n k : Nat} (hn : n < 51) (hc : fuChk n k = fuGood n k) : ∃ e fr m h p, fuX n k = .ok e fr m h ∧ fr.walk (path 5) = some (.bool true) ∧ fr.walk (path 6) = some (I (n : Nat)) ∧ fr.walk (path 7) = some (I (k : Nat)) ∧ fr.walk (path 13) = some (ptr p 0) ∧
    MIn (fuZ p) (absH m h) p 1000 (.slice (some ⟨p + 10, 0, some 4⟩) 2 2) (p - 3) (p - 5) (p - 4) (.slice (some ⟨p - 2, 0, none⟩) 2 2) (.slice none 0 0) (.slice none 0 0) fuM ∧ Sl rBk (fuZ p) (absH m h) (.slice (some ⟨p + 10, 0, some 4⟩) 2 2) (fuB n) ∧ ∀ b, fuZ p b → b < (absH m h).next := by
  have hP : fuP n = 1466 ∨ fuP n = 1467 := by unfold fuP; split <;> simp
  unfold fuChk fuGood at hc
  cases hx : fuX n k with
  | bad => rw [hx] at hc; cases hc
  | ok e fr m h =>
    rw [hx] at hc
    generalize fuP n = p at *
    simp only [Option.some.injEq, Prod.mk.injEq, List.cons.injEq, and_true] at hc
    obtain ⟨⟨s5, s6, s7, s13⟩, ⟨b0, b1, b2, b3, b4, b5, b6, b7⟩, hm⟩ := hc
    refine ⟨e, fr, m, h, p, rfl, s5, s6, s7, s13, fu_begun (n := n) hP (at_of (pl_in (by omega) (by omega)) b0) (at_of (pl_in (by omega) (by omega)) b1) (at_of (pl_in (by omega) (by omega)) b2) (at_of (pl_in (by omega) (by omega)) b3) (at_of (pl_in (by omega) (by omega)) b4),
      fu_blocks hn (at_of (pl_in (by omega) (by omega)) b5) (at_of (pl_in (by omega) (by omega)) b6) (at_of (pl_in (by omega) (by omega)) b7), ?_⟩
    intro b hb
    show b < m
    unfold fuZ at hb
    omega
end Go.HL
/-
  VmFuel: the law's own function, walked.
-/
namespace Go.HL
open Go.Proofs Go.RowKit
set_option maxHeartbeats 4000000
set_option maxRecDepth 1000000
set_option linter.unusedSimpArgs false
set_option linter.unusedVariables false
theorem shown_true (H : HHeap) (R : Value → HHeap → Prop) (hR : R (.bool true) H) : HCalls Tryz.prog 5 [] H R :=
  (orcOf_ok call1_ok shownTab_flat shownTab_run _ _ _ (show orcOf shownTab 5 [] = some (.bool true) by kernel_rfl) H).mono fun v H' h => by rw [h.1, h.2]; exact hR
theorem pls : placed 5 = true ∧ placed 6 = true ∧ placed 7 = true ∧ placed 13 = true := ⟨by kernel_rfl, by kernel_rfl, by kernel_rfl, by kernel_rfl⟩
theorem fuFr_le (n k : Nat) {l : List (Nat × Value)} (h5 : flook l 5 = some (.bool true)) (h6 : flook l 6 = some (I (n : Nat))) (h7 : flook l 7 = some (I (k : Nat))) : FLe (absF 113 (fuFr n k)) (hfr 113 l) := by
  obtain ⟨p5, p6, p7, _⟩ := pls
  refine ⟨rfl, fun t v ht => ?_⟩
  have ht : Tr.at (fuFr n k) t = some v := ht
  unfold fuFr at ht
  rw [Tr.at_ins p7, Tr.at_ins p6, Tr.at_ins p5, Tr.at_nil] at ht
  rw [hfr_get]
  by_cases e7 : t = 7
  · rw [if_pos e7] at ht; rw [e7, h7]; exact ht
  · rw [if_neg e7] at ht
    by_cases e6 : t = 6
    · rw [if_pos e6] at ht; rw [e6, h6]; exact ht
    · rw [if_neg e6] at ht
      by_cases e5 : t = 5
      · rw [if_pos e5] at ht; rw [e5, h5]; exact ht
      · rw [if_neg e5] at ht; cases ht
theorem le_absF {fr : Tr Value} {n k p : Nat} (s5 : fr.walk (path 5) = some (.bool true)) (s6 : fr.walk (path 6) = some (I (n : Nat))) (s7 : fr.walk (path 7) = some (I (k : Nat))) (s13 : fr.walk (path 13) = some (ptr p 0)) :
    FLe (hfr 113 [(5, .bool true), (6, I (n : Nat)), (7, I (k : Nat)), (13, ptr p 0)]) (absF 113 fr) := by
  obtain ⟨p5, p6, p7, p13⟩ := pls
  refine ⟨rfl, fun t v ht => ?_⟩
  rw [hfr_get] at ht
  show Tr.at fr t = some v
  simp only [flook_cons, flook_nil] at ht
  have at_ : ∀ {t : Nat} {v : Value}, placed t = true → fr.walk (path t) = some v → Tr.at fr t = some v := fun hp h => by unfold Tr.at; rw [hp]; exact h
  by_cases e5 : t = 5
  · rw [if_pos e5] at ht; cases ht; rw [e5]; exact at_ p5 s5
  · rw [if_neg e5] at ht
    by_cases e6 : t = 6
    · rw [if_pos e6] at ht; cases ht; rw [e6]; exact at_ p6 s6
    · rw [if_neg e6] at ht
      by_cases e7 : t = 7
      · rw [if_pos e7] at ht; cases ht; rw [e7]; exact at_ p7 s7
      · rw [if_neg e7] at ht
        by_cases e13 : t = 13
        · rw [if_pos e13] at ht; cases ht; rw [e13]; exact at_ p13 s13
        · rw [if_neg e13] at ht; cases ht
theorem fu_walk (w m : Nat) (hw : w < 256) (hm : m < 256) (hrun : fuChk (w % 51) (m % 21) = fuGood (w % 51) (m % 21)) (hend : fuEnd (w % 51) = some (0, 3, 8 * (w % 51))) (H : HHeap) :
    HCalls Tryz.prog 3 [.int .u8 (w : Nat), .int .u8 (m : Nat)] H fun v' H' => v' = .bool true ∧ H' = H := by
  refine HCalls.anywhere (by rfl) (by rfl) ?_ H
  have hz : H0 = absH 0 .nil := by
    unfold absH H0
    congr 1
    funext b
    exact (Tr.at_nil b).symm
  rw [hz]
  clear hz
  obtain ⟨n, hn⟩ : ∃ n, n = w % 51 := ⟨_, rfl⟩
  obtain ⟨k, hk⟩ : ∃ k, k = m % 21 := ⟨_, rfl⟩
  rw [← hn, ← hk] at hrun
  rw [← hn] at hend
  have hn51 : n < 51 := by omega
  have hk21 : k < 21 := by omega
  obtain ⟨e, fr, mm, h, p, hx, s5, s6, s7, s13, hM, hB, hZ⟩ := fuStart hn51 hrun
  refine HCalls.of_hwp Tryz.func3 rfl _ Tryz.ntmps3 _ (by rw [Tryz.results3]) ?_
  rw [hframe0_eq _ _ (by simp)]
  simp only [List.zipIdx_cons, List.zipIdx_nil, List.map_cons, List.map_nil, Nat.reduceAdd]
  refine Hwp.cut (hfr 113 [(0, .int .u8 (w : Nat)), (1, .int .u8 (m : Nat))]) (absH 0 .nil) (by simp (disch := first | omega | (show allOne _ = true; simp [allOne, Value.oneCell', S]) | (simp only [qa, qb, qc, qd, qe, qf, qg, qh, qi, qj, nx_push, nx_set, nx_kill]; done) | (simp only [qa, qb, qc, qd, qe, qf, qg, qh, qi, qj, nx_push, nx_set, nx_kill]; omega)) only [go_sem]; first | exact fle_of (by simp [flook]) | exact ⟨rfl, fle_of (by simp [flook])⟩ | exact ⟨rfl, rfl, fle_of (by simp [flook])⟩) ?_
  refine Hwp.cut (hfr 113 [(0, .int .u8 (w : Nat)), (1, .int .u8 (m : Nat)), (5, .bool true)]) (absH 0 .nil) ?_ ?_
  · simp (disch := first | omega | (show allOne _ = true; simp [allOne, Value.oneCell', S]) | (simp only [qa, qb, qc, qd, qe, qf, qg, qh, qi, qj, nx_push, nx_set, nx_kill]; done) | (simp only [qa, qb, qc, qd, qe, qf, qg, qh, qi, qj, nx_push, nx_set, nx_kill]; omega)) only [go_sem]
    refine shown_true _ _ ?_
    simp (disch := first | omega | (show allOne _ = true; simp [allOne, Value.oneCell', S]) | (simp only [qa, qb, qc, qd, qe, qf, qg, qh, qi, qj, nx_push, nx_set, nx_kill]; done) | (simp only [qa, qb, qc, qd, qe, qf, qg, qh, qi, qj, nx_push, nx_set, nx_kill]; omega)) only [go_sem]
    first | exact fle_of (by simp [flook]) | exact ⟨rfl, fle_of (by simp [flook])⟩ | exact ⟨rfl, rfl, fle_of (by simp [flook])⟩
  refine Hwp.cut (hfr 113 [(5, .bool true), (6, I (n : Nat)), (7, I (k : Nat))]) (absH 0 .nil) ?_ ?_
  · simp (disch := first | omega | (show allOne _ = true; simp [allOne, Value.oneCell', S]) | (simp only [qa, qb, qc, qd, qe, qf, qg, qh, qi, qj, nx_push, nx_set, nx_kill]; done) | (simp only [qa, qb, qc, qd, qe, qf, qg, qh, qi, qj, nx_push, nx_set, nx_kill]; omega)) only [go_sem]
    exact fle_of (by simp [flook]; omega)
  have key : ∀ (xs : List Code) (c : Code) (Q : Exit → HFrame → HHeap → Prop) (F : HFrame) (K : HHeap), xs = fuA → Hwp Tryz.prog (seqs fuA c) Q F K → Hwp Tryz.prog (seqs xs c) Q F K := by
    rintro _ c Q F K rfl h
    exact h
  refine key [_, _, _, _, _, _] _ _ _ _ (by kernel_rfl) ?_
  refine Hwp.weaken (fuFr_le n k (by simp [flook]) (by simp [flook]) (by simp [flook])) ?_
  refine Hwp.seqs call2_ok fuA (fun x hx => List.all_eq_true.1 fuA_ord x hx) hx ?_
  refine Hwp.weaken (le_absF s5 s6 s7 s13) ?_
  clear key hrun hx s5 s6 s7 s13
  generalize absH mm h = H1 at *
  have hBl : (fuB n).length < 1000000 := by show (2 : Nat) < _; omega
  have hBok := fuB_ok hn51
  obtain ⟨Me, hMe, hst3, hval⟩ : ∃ Me, MS.run (fuB n) 1000 5000 (n + 1) fuM = some (0, Me) ∧ Me.st = 3 ∧ Me.v = 8 * n := by
    unfold fuEnd at hend
    cases hr : MS.run (fuB n) 1000 5000 (n + 1) fuM with
    | none => rw [hr] at hend; cases hend
    | some x =>
      obtain ⟨l, Me⟩ := x
      rw [hr] at hend
      simp only [Option.map_some, Option.some.injEq, Prod.mk.injEq] at hend
      obtain ⟨h1, h2, h3⟩ := hend
      subst h1
      exact ⟨Me, rfl, h2, h3⟩
  refine HW.sound _ _ _ _ ?_
  simp (disch := first | omega | (show allOne _ = true; simp [allOne, Value.oneCell', S]) | (simp only [qa, qb, qc, qd, qe, qf, qg, qh, qi, qj, nx_push, nx_set, nx_kill]; done) | (simp only [qa, qb, qc, qd, qe, qf, qg, qh, qi, qj, nx_push, nx_set, nx_kill]; omega)) only [go_sem]
  refine Hwp.loop (fun r fr K => ∃ (i : Nat) (N : MS) (g gw gh : Nat) (va : Value), r = 60 - i ∧ (i = 0 ∨ 1 ≤ k) ∧ i * k ≤ n ∧ i ≤ 60 ∧ MIn (fuZ p) K p 1000 (.slice (some ⟨p + 10, 0, some 4⟩) 2 2) g gw gh (.slice (some ⟨p - 2, 0, none⟩) 2 2) (.slice none 0 0) va N ∧ Kp (fuZ p) H1 K ∧ N.st = 1 ∧
    MS.run (fuB n) 1000 5000 (n + 1 - i * k) N = some (0, Me) ∧ FLe (hfr 113 [(61, I (i : Nat)), (17, I ((i * k : Nat) : Int)), (5, .bool true), (6, I (n : Nat)), (7, I (k : Nat)), (13, ptr p 0)]) fr) 60 ?_ ?_
  · exact ⟨0, fuM, _, _, _, _, rfl, .inl rfl, by omega, by omega, hM, Kp.refl _ _, rfl, by simpa using hMe, fle_of (by simp [flook])⟩
  rintro r fr K ⟨i, N, g, gw, gh, va, rfl, hik, hin, hi60, hN, kN, hNst, hNrun, hle⟩
  obtain ⟨c, hc⟩ : ∃ c, c = i * k := ⟨_, rfl⟩
  rw [← hc] at hle
  refine Hwp.weaken hle (HW.sound _ _ _ _ ?_)
  have hi : i < 60 := by
    rcases hik with rfl | h1
    · omega
    · have := Nat.mul_le_mul_left i h1
      omega
  have hZK : ∀ b, fuZ p b → b < K.next := fun b hb => Nat.lt_of_lt_of_le (hZ b hb) kN.next
  have hBK := hB.ext kN.ext
  rw [← hc] at hin hNrun
  simp (disch := first | omega | (show allOne _ = true; simp [allOne, Value.oneCell', S]) | (simp only [qa, qb, qc, qd, qe, qf, qg, qh, qi, qj, nx_push, nx_set, nx_kill]; done) | (simp only [qa, qb, qc, qd, qe, qf, qg, qh, qi, qj, nx_push, nx_set, nx_kill]; omega)) only [go_sem]
  have hcase : c + k ≤ n ∨ n < c + k := by omega
  rcases hcase with h1 | h1
  · obtain ⟨Mj, j1, j2, j3⟩ := run_less 5000 (n + 1 - c) N Me k hNrun (by omega) (by omega)
    refine vm_Run hN hZK hBK hBl hBok k 5000 (by omega) 0 Mj j1 _ ?_
    intro K2 g2 gw2 gh2 va2 hN2 k2
    simp (disch := first | omega | (show allOne _ = true; simp [allOne, Value.oneCell', S]) | (simp only [qa, qb, qc, qd, qe, qf, qg, qh, qi, qj, nx_push, nx_set, nx_kill]; done) | (simp only [qa, qb, qc, qd, qe, qf, qg, qh, qi, qj, nx_push, nx_set, nx_kill]; omega)) only [go_sem]
    refine vm_State hN2 _ ?_
    have hk0 : k = 0 ∨ 1 ≤ k := by omega
    rcases hk0 with hk0 | hk0
    · subst hk0
      rw [Nat.mul_zero] at hc
      subst hc
      simp (disch := first | omega | (show allOne _ = true; simp [allOne, Value.oneCell', S]) | (simp only [qa, qb, qc, qd, qe, qf, qg, qh, qi, qj, nx_push, nx_set, nx_kill]; done) | (simp only [qa, qb, qc, qd, qe, qf, qg, qh, qi, qj, nx_push, nx_set, nx_kill]; omega)) only [go_sem, j2]
      refine vm_State hN2 _ ?_
      simp (disch := first | omega | (show allOne _ = true; simp [allOne, Value.oneCell', S]) | (simp only [qa, qb, qc, qd, qe, qf, qg, qh, qi, qj, nx_push, nx_set, nx_kill]; done) | (simp only [qa, qb, qc, qd, qe, qf, qg, qh, qi, qj, nx_push, nx_set, nx_kill]; omega)) only [go_sem, j2]
      simp
    · simp (disch := first | omega | (show allOne _ = true; simp [allOne, Value.oneCell', S]) | (simp only [qa, qb, qc, qd, qe, qf, qg, qh, qi, qj, nx_push, nx_set, nx_kill]; done) | (simp only [qa, qb, qc, qd, qe, qf, qg, qh, qi, qj, nx_push, nx_set, nx_kill]; omega)) only [go_sem, j2]
      have e1 : (i + 1) * k = c + k := by rw [Nat.succ_mul, hc]
      refine ⟨_, ?_, i + 1, Mj, g2, gw2, gh2, va2, rfl, .inr hk0, by omega, by omega, hN2, kN.trans k2, j2, ?_, ?_⟩
      · omega
      · rw [e1, show n + 1 - (c + k) = n + 1 - c - k by omega]; exact j3
      · rw [e1]; exact fle_of (by simp [flook])
  · have j1 := run_more (B := fuB n) (size := 1000) (k - (n + 1 - c)) 5000 (n + 1 - c) N Me 0 hNrun (by omega)
    rw [show n + 1 - c + (k - (n + 1 - c)) = k by omega, Nat.zero_add] at j1
    refine vm_Run hN hZK hBK hBl hBok k 5000 (by omega) _ Me j1 _ ?_
    intro K2 g2 gw2 gh2 va2 hN2 k2
    simp (disch := first | omega | (show allOne _ = true; simp [allOne, Value.oneCell', S]) | (simp only [qa, qb, qc, qd, qe, qf, qg, qh, qi, qj, nx_push, nx_set, nx_kill]; done) | (simp only [qa, qb, qc, qd, qe, qf, qg, qh, qi, qj, nx_push, nx_set, nx_kill]; omega)) only [go_sem]
    refine vm_State hN2 _ ?_
    simp (disch := first | omega | (show allOne _ = true; simp [allOne, Value.oneCell', S]) | (simp only [qa, qb, qc, qd, qe, qf, qg, qh, qi, qj, nx_push, nx_set, nx_kill]; done) | (simp only [qa, qb, qc, qd, qe, qf, qg, qh, qi, qj, nx_push, nx_set, nx_kill]; omega)) only [go_sem, hst3]
    refine vm_State hN2 _ ?_
    simp (disch := first | omega | (show allOne _ = true; simp [allOne, Value.oneCell', S]) | (simp only [qa, qb, qc, qd, qe, qf, qg, qh, qi, qj, nx_push, nx_set, nx_kill]; done) | (simp only [qa, qb, qc, qd, qe, qf, qg, qh, qi, qj, nx_push, nx_set, nx_kill]; omega)) only [go_sem, hst3]
    refine vm_Value hN2 _ ?_
    simp (disch := first | omega | (show allOne _ = true; simp [allOne, Value.oneCell', S]) | (simp only [qa, qb, qc, qd, qe, qf, qg, qh, qi, qj, nx_push, nx_set, nx_kill]; done) | (simp only [qa, qb, qc, qd, qe, qf, qg, qh, qi, qj, nx_push, nx_set, nx_kill]; omega)) only [go_sem, hval]
    rw [decide_eq_true (by omega)]
end Go.HL
