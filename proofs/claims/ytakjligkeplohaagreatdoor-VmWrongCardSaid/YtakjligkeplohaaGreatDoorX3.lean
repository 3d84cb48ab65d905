/-
  VmWrong: what was run, said of the model.
-/
import Derived.Test.YtakjligkeplohaaGreatDoorX2
namespace Go.HL
open Go.Proofs Go.RowKit
set_option maxRecDepth 1000000
set_option linter.unusedSimpArgs false
set_option linter.unusedVariables false

theorem hev_ins {sz : Nat} {fr : Tr Value} {t : Nat} {v : Value} (hp : placed t = true) : hev (absF sz (put1 fr t v)) (.tmp t) = some v := by
  show Tr.at (fr.ins (some v) (path t)) t = some v
  rw [Tr.at_ins hp, if_pos rfl]
theorem hev_ins_ne {sz : Nat} {fr : Tr Value} {t u : Nat} {v : Value} (hp : placed u = true) (h : t ≠ u) : hev (absF sz (put1 fr u v)) (.tmp t) = hev (absF sz fr) (.tmp t) := by
  show Tr.at (fr.ins (some v) (path u)) t = Tr.at fr t
  rw [Tr.at_ins hp, if_neg h]
theorem put_eq {sz : Nat} {fr : Tr Value} {t : Nat} {v : Value} (hp : placed t = true) (hs : t < sz) : hput (absF sz fr) (some t) v = absF sz (put1 fr t v) := absF_put hp hs v
theorem pl0 : placed 0 = true := by kernel_rfl
theorem pl1 : placed 1 = true := by kernel_rfl
theorem pl6 : placed 6 = true := by kernel_rfl
theorem pl8 : placed 8 = true := by kernel_rfl
theorem pl22 : placed 22 = true := by kernel_rfl
theorem pl30 : placed 30 = true := by kernel_rfl
theorem pl31 : placed 31 = true := by kernel_rfl
theorem pl32 : placed 32 = true := by kernel_rfl
theorem pl33 : placed 33 = true := by kernel_rfl
theorem pl34 : placed 34 = true := by kernel_rfl
theorem pl103 : placed 103 = true := by kernel_rfl
theorem pl104 : placed 104 = true := by kernel_rfl
theorem pl105 : placed 105 = true := by kernel_rfl
theorem wSz_eq : wSz = 167 := by kernel_rfl
theorem und5 : Tryz.prog.underlying 5 = some (.int .u8) := by kernel_rfl
theorem und3 : Tryz.prog.underlying 3 = some (.int .i64) := by kernel_rfl
theorem und26 : Tryz.prog.underlying 26 = some (.slice 9) := by kernel_rfl
theorem wOrdAll : drawnOk Tryz.prog wBody = true := hOrd _ _ _ wFn_eq wBody_eq

theorem wFrame0 (w m : Nat) : hframe0 [.int .u8 (.ofNat w), .int .u8 (.ofNat m)] wFn.ntmps = absF wSz (wFr0 w m) := by
  have hs : 2 ≤ wSz := by rw [wSz_eq]; omega
  show HFrame.mk (2 + (wSz - 2)) _ = HFrame.mk wSz _
  rw [show 2 + (wSz - 2) = wSz by omega]
  congr 1
  · funext t
    unfold wFr0
    rw [Tr.at_ins pl1, Tr.at_ins pl0, Tr.at_nil]
    by_cases h1 : t = 1
    · subst h1; rfl
    · rw [if_neg h1]
      by_cases h0 : t = 0
      · subst h0; rfl
      · rw [if_neg h0, List.getElem?_eq_none (by simp; omega)]

theorem tmod_nat (a b : Nat) : Int.tmod (.ofNat a) (.ofNat b) = .ofNat (a % b) := rfl
/-- The fifth piece: the first number's rest by nine. -/
theorem wRowB {w : Nat} (hw : w < 256) {fr : Tr Value} {n : Nat} {h : Tr HObj} (h0 : fr.walk (path 0) = some (.int .u8 (.ofNat w))) (h6 : fr.walk (path 6) = some (.slice (some ⟨0, 0, none⟩) 9 9)) :
    HRows Tryz.prog rowB.toArray rowB (absF wSz fr) (absH n h) fun F H => F = absF wSz (wFrB w (w % 9) fr) ∧ H = absH n h := by
  have hs := wSz_eq
  unfold rowB
  refine HRows.val (H' := absH n h) (v := .int .u8 (.ofNat w)) (by simp only [hop, absF_at pl0 h0, Option.map_some]) ?_
  rw [put_eq pl30 (by omega)]
  refine HRows.val (H' := absH n h) (v := .int .i64 (.ofNat w)) ?_ ?_
  · simp only [hop, hev_ins pl30, Option.bind_some, hconvert, und5, und3, Option.map_some]
    rw [kcap_wrap (k := .i64) (z := w) (Nat.ble_eq_true_of_le (by show w ≤ 9223372036854775807; omega))]
  rw [put_eq pl31 (by omega)]
  refine HRows.val (H' := absH n h) (v := .slice (some ⟨0, 0, none⟩) 9 9) ?_ ?_
  · simp only [hop]
    rw [hev_ins_ne pl31 (by omega), hev_ins_ne pl30 (by omega), absF_at pl6 h6]; rfl
  rw [put_eq pl32 (by omega)]
  refine HRows.val (H' := absH n h) (v := .int .i64 (.ofNat 9)) ?_ ?_
  · rw [k_hop_call]
    simp only [hevs, hev_ins pl32, Option.bind_some, Option.map_some, hbuiltin, hlen, und26]
    rfl
  rw [put_eq pl33 (by omega)]
  refine HRows.val (H' := absH n h) (v := .int .i64 (.ofNat (w % 9))) ?_ ?_
  · simp only [hop]
    rw [hev_ins_ne pl33 (by omega), hev_ins_ne pl32 (by omega), hev_ins pl31, hev_ins pl33]
    simp only [Option.bind_some, hbin, if_true, hint, tmod_nat]
    rw [if_neg (by decide)]; rfl
  rw [put_eq pl34 (by omega)]
  refine HRows.val (H' := absH n h) (v := .int .i64 (.ofNat (w % 9))) (by simp only [hop, hev_ins pl34, Option.map_some]) ?_
  rw [put_eq pl8 (by omega)]
  exact ⟨rfl, rfl⟩
theorem mkc0 : hmakeCells Tryz.prog 45 (.int .u8 (.ofNat 0)) (.int .u8 (.ofNat 0)) = some (wCells 0, 0, 0) := by kernel_rfl
theorem mkc1 : hmakeCells Tryz.prog 45 (.int .u8 (.ofNat 1)) (.int .u8 (.ofNat 1)) = some (wCells 1, 1, 1) := by kernel_rfl
theorem mkc2 : hmakeCells Tryz.prog 45 (.int .u8 (.ofNat 2)) (.int .u8 (.ofNat 2)) = some (wCells 2, 2, 2) := by kernel_rfl
theorem mkc3 : hmakeCells Tryz.prog 45 (.int .u8 (.ofNat 3)) (.int .u8 (.ofNat 3)) = some (wCells 3, 3, 3) := by kernel_rfl
theorem mk45 (n : Nat) (h : Tr HObj) (hp : placed n = true) (j : Nat) (hj : j < 4) : hmakeSlice Tryz.prog (absH n h) 45 (.int .u8 (.ofNat j)) (.int .u8 (.ofNat j)) = some (.slice (some ⟨n, 0, none⟩) j j, absH (Nat.succ n) (h.ins (some (.cells (wCells j) true)) (path n))) := by
  rw [hmakeSlice_eq]
  have key : ∀ j, j < 4 → hmakeCells Tryz.prog 45 (.int .u8 (.ofNat j)) (.int .u8 (.ofNat j)) = some (wCells j, j, j) := by
    intro j hj
    match j, hj with
    | 0, _ => exact mkc0
    | 1, _ => exact mkc1
    | 2, _ => exact mkc2
    | 3, _ => exact mkc3
    | j + 4, hj => omega
  rw [key j hj, Option.map_some]
  simp only
  rw [absH_push hp]; rfl
/-- The piece that makes so many words. -/
theorem wRowD {m : Nat} {fr : Tr Value} {n : Nat} {h : Tr HObj} (hp : placed n = true) (h1 : fr.walk (path 1) = some (.int .u8 (.ofNat m))) :
    HRows Tryz.prog rowD.toArray rowD (absF wSz fr) (absH n h) fun F H => F = absF wSz (wFrD m (m % 4) fr n) ∧ H = absH (Nat.succ n) (h.ins (some (.cells (wCells (m % 4)) true)) (path n)) := by
  have hs := wSz_eq
  have hj : m % 4 < 4 := Nat.mod_lt _ (by omega)
  unfold rowD
  refine HRows.val (H' := absH n h) (v := .int .u8 (.ofNat m)) (by simp only [hop, absF_at pl1 h1, Option.map_some]) ?_
  rw [put_eq pl103 (by omega)]
  refine HRows.val (H' := absH n h) (v := .int .u8 (.ofNat (m % 4))) ?_ ?_
  · simp only [hop, hev_ins pl103, Option.bind_some]
    rw [show hev (absF wSz (put1 fr 103 (.int .u8 (.ofNat m)))) (.const (.int .u8 4)) = some (.int .u8 (.ofNat 4)) from rfl]
    simp only [Option.bind_some, hbin, if_true, hint, tmod_nat]
    rw [if_neg (by decide)]; rfl
  rw [put_eq pl104 (by omega)]
  refine HRows.val (v := .slice (some ⟨n, 0, none⟩) (m % 4) (m % 4)) (H' := absH (Nat.succ n) (h.ins (some (.cells (wCells (m % 4)) true)) (path n))) ?_ ?_
  · simp only [hop, hev_ins pl104]
    exact mk45 n h hp (m % 4) hj
  rw [put_eq pl105 (by omega)]
  refine HRows.val (H' := absH (Nat.succ n) (h.ins (some (.cells (wCells (m % 4)) true)) (path n))) (v := .slice (some ⟨n, 0, none⟩) (m % 4) (m % 4)) (by simp only [hop, hev_ins pl105, Option.map_some]) ?_
  rw [put_eq pl22 (by omega)]
  exact ⟨rfl, rfl⟩
/-- VmWrong is true, wherever it is called, of numbers whose run was told true. -/
theorem wTrue (w m : Nat) (hw : w < 256) (hm : m < 256) (hrun : wChk (w % 9) w m = wGood w m) (H : HHeap) : HCalls Tryz.prog 4 [.int .u8 (.ofNat w), .int .u8 (.ofNat m)] H fun v' H' => v' = .bool true ∧ H' = H := by
  refine HCalls.anywhere (by rfl) (by rfl) ?_ H
  have hz : H0 = absH 0 .nil := by
    unfold absH H0
    congr 1
    funext b
    exact (Tr.at_nil b).symm
  rw [hz]
  refine HCalls.of_body wFn_eq wBody_eq ?_
  rw [wFrame0, wBody_split]
  have hord := wOrdAll
  rw [wBody_split] at hord
  obtain ⟨oA, o1⟩ := drawnOk_seqs _ _ hord
  simp only [drawnOk, Bool.and_eq_true] at o1
  obtain ⟨oB, o2⟩ := o1
  obtain ⟨oC, o3⟩ := drawnOk_seqs _ _ o2
  simp only [drawnOk, Bool.and_eq_true] at o3
  obtain ⟨oD, oE⟩ := o3
  unfold wChk wGood at hrun
  simp only [Prod.mk.injEq] at hrun
  obtain ⟨r0, r6, r1, rE⟩ := hrun
  cases hx0 : wX0 w m with
  | bad => rw [hx0] at r0; cases r0
  | ok e0 fr0 n0 h0 =>
    rw [hx0] at r0 r6
    refine Hwp.seqs call2_ok wA oA hx0 ?_
    refine Hwp.seq ?_
    rw [wB_eq]
    refine Hwp.rows ?_
    have key : ∀ (l : List Oper) (ops : Array Oper) (K K' : HFrame → HHeap → Prop) F H, (∀ F H, K F H → K' F H) → HRows Tryz.prog ops l F H K → HRows Tryz.prog ops l F H K' := by
      intro l ops K K'
      induction l with
      | nil => exact fun F H hK h => hK _ _ h
      | cons o l ih =>
        intro F H hK h
        rcases h with ⟨hw, h⟩ | ⟨hw, ⟨v, H', h1, h2⟩ | ⟨fn, args, h1, h2⟩⟩
        · exact .inl ⟨hw, ih _ _ hK h⟩
        · exact .inr ⟨hw, .inl ⟨v, H', h1, ih _ _ hK h2⟩⟩
        · exact .inr ⟨hw, .inr ⟨fn, args, h1, h2.mono fun v H' r => ih _ _ hK r⟩⟩
    refine key _ _ _ _ _ _ ?_ (wRowB hw r0 r6)
    rintro F H ⟨rfl, rfl⟩
    show Hwp Tryz.prog _ _ _ _
    cases hx1 : wX1 (w % 9) w m with
    | bad => rw [hx1] at r1; cases r1
    | ok e1 fr1 n1 h1 =>
      rw [hx1] at r1 rE
      have hx1' : krun Tryz.prog wSz call2 100000 wC (wFrB w (w % 9) fr0) n0 h0 = .ok e1 fr1 n1 h1 := by
        unfold wX1 at hx1
        rw [hx0] at hx1
        exact hx1
      refine Hwp.seqs call2_ok wC oC hx1' ?_
      refine Hwp.seq ?_
      rw [wD_eq]
      refine Hwp.rows ?_
      simp only [Bool.and_eq_true] at rE
      obtain ⟨⟨⟨⟨hp, e0'⟩, e1'⟩, e2'⟩, e3'⟩ := rE
      refine key _ _ _ _ _ _ ?_ (wRowD hp r1)
      rintro F H ⟨rfl, rfl⟩
      show Hwp Tryz.prog _ _ _ _
      have hj : m % 4 < 4 := Nat.mod_lt _ (by omega)
      have hend : wEnd m (m % 4) fr1 n1 h1 = true := by
        generalize m % 4 = j at hj
        match j, hj with
        | 0, _ => exact e0'
        | 1, _ => exact e1'
        | 2, _ => exact e2'
        | 3, _ => exact e3'
        | j + 4, hj => omega
      exact Hwp.finish call2_ok oE hend
end Go.HL
