/-
  Joined: M22, M23, M24.
-/
import Derived.Test.YtdccndcdmfhmiaaGreatDoorPFM21
set_option linter.unusedVariables false
set_option linter.unusedSimpArgs false
/-
  Walks: a call.
-/
namespace Go.HL
open Go.RowKit Go.Proofs
set_option maxHeartbeats 4000000
set_option maxRecDepth 100000
set_option linter.unusedSimpArgs false
set_option linter.unusedVariables false
section
variable {Z : Zs} {H : HHeap} {p size : Nat} {vb : Value} {g gw gh : Nat} {vn vk va : Value} {M : MS} {B : List Bk}
/-- A thing out of a fresh row. -/
theorem vm_fresh (hM : MIn Z H p size vb g gw gh vn vk va M) (hok : H.Ok) (hZ : ∀ b, Z b → b < H.next) (k : Nat) (hk : 1 ≤ k ∧ k ≤ 9) (l : List Nat) (hl : ∀ x ∈ l, x < 18446744073709551616) (n : Nat) (hn : n = l.length) (cs : List Value) (hcs : cs = l.map U) (R : Value → HHeap → Prop)
    (hR : ∀ H', MIn Z H' p size vb g gw gh vn vk va { M with T := makeT size M.T k l } → Kp Z H H' → makeW size M.T l < 18446744073709551616 → R (U (makeW size M.T l)) H') :
    HCalls Tryz.prog 31 [ptr p 0, I (k : Nat), .slice (some ⟨H.next, 0, none⟩) n n] (H.push (.cells cs true)) R := by
  subst hn
  subst hcs
  have hO := Old.push H (.cells (l.map U) true)
  have hx := HHeap.push_next H (.cells (l.map U) true)
  have hg : (H.push (.cells (l.map U) true)).get H.next = some (.cells (l.map U) true) := get_push_same _
  have hM2 := hM.old hok hO hZ (fun _ h => h) (fun _ h => .inl h)
  have hlt := hM.lt hok
  generalize H.push (.cells (l.map U) true) = H2 at *
  refine vm_made hM2 k hk _ l hl ⟨fun x => False ∨ x = H.next, Sl.fresh hg, by simp; omega, by simp; omega, by simp; omega⟩ _ ?_
  intro H3 h1 h2 h3
  exact hR H3 h1 ((hO.kp hZ).trans ⟨by omega, fun b hb => h2 b (by rintro rfl; exact hM.zp.2.1 hb) (by rintro rfl; exact hM.zp.2.2.1 hb) (by rintro rfl; exact hM.zp.2.2.2.1 hb)⟩) (makeW_lt (by have := hM.A.room; have := hM.A.big; omega) _)
theorem vm_room0z (hM : MIn Z H p size vb g gw gh vn vk va M) (hZ : ∀ b, Z b → b < H.next) (n : Nat) (hn : n < 1000000) (z : Int) (hz : z = (n : Nat)) (R : Value → HHeap → Prop)
    (hR : ∀ H' g' gw' gh', MIn Z H' p size vb g' gw' gh' vn vk va (M.room size n []).2.1 → Kp Z H H' → H'.Ok → R (.bool (M.room size n []).1) H') :
    HCalls Tryz.prog 30 [ptr p 0, I z, .slice none 0 0] H R := by
  subst hz
  exact HCalls.gotOk (vm_room0 hM hZ n hn _ fun H' g' gw' gh' h1 h2 h3 _ => hR H' g' gw' gh' h1 h2 h3)
theorem apply_none {n : Nat} {cc tail : Bool} (h : M.take n = none) : M.apply B size n cc tail = some (M.fail 100) := by unfold MS.apply; rw [h]
theorem apply_bad {n : Nat} {cc tail : Bool} {x : List Nat × Nat} {c : Bool × Nat} (h : M.take n = some x) (hc : callF B M.T M.v (if cc then 1 else n) = c) (h2 : c.2 ≠ 0) : M.apply B size n cc tail = some (M.fail c.2) := by
  unfold MS.apply; rw [h]; simp only; rw [hc, if_pos h2]
theorem apply_ok {n : Nat} {cc tail own : Bool} {x : List Nat × Nat} (h : M.take n = some x) (hc : callF B M.T M.v (if cc then 1 else n) = (own, 0)) {need : Nat} (hn : need = (if (!tail && (own || cc)) then 6 else 0) + (if cc then 2 else 0) + (if own then 2 + (if cc then 1 else n) else 0)) :
    M.apply B size n cc tail = if (M.room size need []).1 then (M.room size need []).2.1.apply2 B size n cc (!tail && (own || cc)) else some { (M.room size need []).2.1 with st := 5 } := by
  unfold MS.apply; rw [h]; simp only; rw [hc, if_neg (by simp)]; simp only; rw [hn]
theorem vm_apply_ff (hM : MIn Z H p size vb g gw gh vn vk va M) (hZ : ∀ b, Z b → b < H.next) (hB : Sl rBk Z H vb B) (hBl : B.length < 1000000) (n : Nat) (hn : n ≤ 255) (hpc : M.pc + 1 < 1000000) (M' : MS) (hA : M.apply B size n false false = some M') (R : Value → HHeap → Prop)
    (hR : ∀ H' g' gw' gh', MIn Z H' p size vb g' gw' gh' vn vk va M' → Kp Z H H' → R (.tuple #[]) H') :
    HCalls Tryz.prog 77 [ptr p 0, I (n : Nat), .bool false, .bool false] H R := by
  refine HCalls.ok fun hok => ?_
  refine HCalls.of_hw Tryz.func77 rfl _ Tryz.ntmps77 _ (by rw [Tryz.results77]) ?_
  rw [hframe0_eq _ _ (by simp)]
  simp only [List.zipIdx_cons, List.zipIdx_nil, List.map_cons, List.map_nil, Nat.reduceAdd]
  simp (disch := first | omega | (show allOne _ = true; simp [allOne, Value.oneCell', S]) | (simp only [qz]; first | done | omega)) only [go_sem]
  refine HCalls.gotOk (vm_take hM hZ n (by omega) _ ?_)
  intro v0 K0 hO0 hG0
  have hM0 := hM.old hok hO0 hZ (fun _ h => h) (fun _ h => .inl h)
  have k0 : Kp Z H K0 := hO0.kp hZ
  have hZ0 : ∀ b, Z b → b < K0.next := fun b hb => Nat.lt_of_lt_of_le (hZ b hb) hO0.1
  cases ht : M.take n with
  | none =>
    rw [apply_none ht] at hA
    cases hA
    intro _ _
    unfold takeV
    simp (disch := first | omega | (show allOne _ = true; simp [allOne, Value.oneCell', S]) | (simp only [qz]; first | done | omega)) only [go_sem]
    refine vm_fail hM0 100 _ ?_
    intro k1 k2
    simp (disch := first | omega | (show allOne _ = true; simp [allOne, Value.oneCell', S]) | (simp only [qz]; first | done | omega)) only [go_sem]
    exact hR _ _ _ _ k1 (k0.trans k2)
  | some x0 =>
    obtain ⟨l0, s0⟩ := x0
    obtain ⟨hGr0, _⟩ := hG0 l0 s0 ht
    obtain ⟨a0, hv0⟩ := hGr0.len
    subst hv0
    intro hok0 _
    unfold takeV
    simp (disch := first | omega | (show allOne _ = true; simp [allOne, Value.oneCell', S]) | (simp only [qz]; first | done | omega)) only [go_sem, hM0.m, ldc_cells, mcells]
    refine vm_callable hM0 (hB.ext k0.ext) M.v n hM.ok.v (by omega) _ ?_
    cases hc : callF B M.T M.v n with
    | mk own er =>
    by_cases he : er = 0
    · subst he
      cases own with
      | false =>
        rw [apply_ok (own := false) (need := 0) ht hc (by simp <;> omega)] at hA
        simp (disch := first | omega | (show allOne _ = true; simp [allOne, Value.oneCell', S]) | (simp only [qz]; first | done | omega)) only [go_sem]
        refine vm_room0z hM0 hZ0 (0) (by omega) _ (by omega) _ ?_
        intro H1 g1 gw1 gh1 hN kN0 hok1
        have kN := k0.trans kN0
        have hpc1 : (M.room size (0) []).2.1.pc + 1 < 1000000 := by rw [room_pc]; exact hpc
        have hZ1 : ∀ b, Z b → b < H1.next := fun b hb => Nat.lt_of_lt_of_le (hZ b hb) kN.next
        cases hr : (M.room size (0) []).1 with
        | false =>
          rw [hr, if_neg (by simp)] at hA
          generalize (M.room size (0) []).2.1 = N at *
          cases hA
          simp (disch := first | omega | (show allOne _ = true; simp [allOne, Value.oneCell', S]) | (simp only [qz]; first | done | omega)) only [go_sem, hN.m, ldc_cells, mcells, stc_cells, set_set]
          exact hR _ _ _ _ (hN.put (M' := { N with st := 5 }) rfl rfl rfl rfl ⟨hN.ok.v, hN.ok.e, hN.ok.s, hN.ok.f, hN.ok.nm, hN.ok.ask, hN.ok.bl, hN.ok.pc, hN.ok.nml, hN.ok.kpl, hN.ok.askl⟩) (kN.trans (Kp.set hN.zp.1))
        | true =>
          rw [hr, if_pos rfl] at hA
          generalize (M.room size (0) []).2.1 = N at *
          unfold MS.apply2 at hA
          simp (disch := first | omega | (show allOne _ = true; simp [allOne, Value.oneCell', S]) | (simp only [qz]; first | done | omega)) only [go_sem]
          refine HCalls.gotOk (vm_take hN hZ1 n (by omega) _ ?_)
          intro v2 K2 hO2 hG2 hok2 _
          cases ht2 : N.take n with
          | none => rw [ht2] at hA; cases hA
          | some x =>
          obtain ⟨l, s⟩ := x
          rw [ht2] at hA
          simp only [Bool.not_true, Bool.not_false, Bool.and_true, Bool.true_and, Bool.false_and, Bool.and_false, Bool.or_true, Bool.true_or, Bool.or_false, Bool.or_self, if_true, Bool.false_eq_true, if_false] at hA
          obtain ⟨hGr, hfr⟩ := hG2 l s ht2
          have hbl := take_lt hN ht2
          have hlt1 := hN.lt hok1
          obtain ⟨Z2, hZ2e⟩ : ∃ Z2 : Zs, Z2 = fun b => Z b ∨ b ∈ sblk v2 := ⟨_, rfl⟩
          have hN2 : MIn Z2 K2 p size vb g1 gw1 gh1 vn vk va N := by
            rw [hZ2e]
            exact hN.old hok1 hO2 hZ1 (fun _ h => .inl h) (fun b h => by rcases h with h | h; exact .inl h; exact .inr (hfr b h).1)
          have hS2 : Sl rW Z2 K2 v2 l := by rw [hZ2e]; exact hGr.stay
          have hZK2 : ∀ b, Z2 b → b < K2.next := by
            rw [hZ2e]
            intro b hb
            rcases hb with hb | hb
            · exact Nat.lt_of_lt_of_le (hZ1 b hb) hO2.1
            · exact (hfr b hb).2
          have hZZ : ∀ b, Z b → Z2 b := by rw [hZ2e]; exact fun b h => .inl h
          have kN2 : Kp Z H K2 := kN.trans (hO2.kp hZ1)
          have hB2 : Sl rBk Z2 K2 vb B := (hB.ext kN2.ext).ext fun b hb => ⟨hZZ b hb, rfl⟩
          clear hZ2e
          have hl2 := hbl.2.1
          have hll : l.length ≤ 255 := by omega
          clear hG2 hfr hok1 hN hO2 hlt1
          obtain ⟨a2, hv2⟩ := hGr.len
          subst hv2
          clear hGr
          unfold takeV
          simp (disch := first | omega | (show allOne _ = true; simp [allOne, Value.oneCell', S]) | (simp only [qz]; first | done | omega)) only [go_sem, hN2.m, ldc_cells, mcells]
          refine vm_call hN2 hZK2 (hB2.ext (Kp.refl Z2 K2).ext) hBl N.v hN2.ok.v _ l hl2 (by omega) ⟨Z2, hS2.ext (Kp.refl Z2 K2).ext, hZK2, hN2.zp.2.1, hN2.zp.2.2.1, hN2.zp.2.2.2.1⟩ N.f hN2.ok.f M' hA _ ?_
          intro H9 h9 k9
          simp (disch := first | omega | (show allOne _ = true; simp [allOne, Value.oneCell', S]) | (simp only [qz]; first | done | omega)) only [go_sem]
          exact hR H9 _ _ _ (h9.less hZZ) (kN2.trans (((Kp.refl Z2 K2).trans k9).less hZZ))
      | true =>
        rw [apply_ok (own := true) (need := 6+(2 + n)) ht hc (by simp <;> omega)] at hA
        simp (disch := first | omega | (show allOne _ = true; simp [allOne, Value.oneCell', S]) | (simp only [qz]; first | done | omega)) only [go_sem]
        refine vm_room0z hM0 hZ0 (6+(2 + n)) (by omega) _ (by omega) _ ?_
        intro H1 g1 gw1 gh1 hN kN0 hok1
        have kN := k0.trans kN0
        have hpc1 : (M.room size (6+(2 + n)) []).2.1.pc + 1 < 1000000 := by rw [room_pc]; exact hpc
        have hZ1 : ∀ b, Z b → b < H1.next := fun b hb => Nat.lt_of_lt_of_le (hZ b hb) kN.next
        cases hr : (M.room size (6+(2 + n)) []).1 with
        | false =>
          rw [hr, if_neg (by simp)] at hA
          generalize (M.room size (6+(2 + n)) []).2.1 = N at *
          cases hA
          simp (disch := first | omega | (show allOne _ = true; simp [allOne, Value.oneCell', S]) | (simp only [qz]; first | done | omega)) only [go_sem, hN.m, ldc_cells, mcells, stc_cells, set_set]
          exact hR _ _ _ _ (hN.put (M' := { N with st := 5 }) rfl rfl rfl rfl ⟨hN.ok.v, hN.ok.e, hN.ok.s, hN.ok.f, hN.ok.nm, hN.ok.ask, hN.ok.bl, hN.ok.pc, hN.ok.nml, hN.ok.kpl, hN.ok.askl⟩) (kN.trans (Kp.set hN.zp.1))
        | true =>
          rw [hr, if_pos rfl] at hA
          generalize (M.room size (6+(2 + n)) []).2.1 = N at *
          unfold MS.apply2 at hA
          simp (disch := first | omega | (show allOne _ = true; simp [allOne, Value.oneCell', S]) | (simp only [qz]; first | done | omega)) only [go_sem]
          refine HCalls.gotOk (vm_take hN hZ1 n (by omega) _ ?_)
          intro v2 K2 hO2 hG2 hok2 _
          cases ht2 : N.take n with
          | none => rw [ht2] at hA; cases hA
          | some x =>
          obtain ⟨l, s⟩ := x
          rw [ht2] at hA
          simp only [Bool.not_true, Bool.not_false, Bool.and_true, Bool.true_and, Bool.false_and, Bool.and_false, Bool.or_true, Bool.true_or, Bool.or_false, Bool.or_self, if_true, Bool.false_eq_true, if_false] at hA
          obtain ⟨hGr, hfr⟩ := hG2 l s ht2
          have hbl := take_lt hN ht2
          have hlt1 := hN.lt hok1
          obtain ⟨Z2, hZ2e⟩ : ∃ Z2 : Zs, Z2 = fun b => Z b ∨ b ∈ sblk v2 := ⟨_, rfl⟩
          have hN2 : MIn Z2 K2 p size vb g1 gw1 gh1 vn vk va N := by
            rw [hZ2e]
            exact hN.old hok1 hO2 hZ1 (fun _ h => .inl h) (fun b h => by rcases h with h | h; exact .inl h; exact .inr (hfr b h).1)
          have hS2 : Sl rW Z2 K2 v2 l := by rw [hZ2e]; exact hGr.stay
          have hZK2 : ∀ b, Z2 b → b < K2.next := by
            rw [hZ2e]
            intro b hb
            rcases hb with hb | hb
            · exact Nat.lt_of_lt_of_le (hZ1 b hb) hO2.1
            · exact (hfr b hb).2
          have hZZ : ∀ b, Z b → Z2 b := by rw [hZ2e]; exact fun b h => .inl h
          have kN2 : Kp Z H K2 := kN.trans (hO2.kp hZ1)
          have hB2 : Sl rBk Z2 K2 vb B := (hB.ext kN2.ext).ext fun b hb => ⟨hZZ b hb, rfl⟩
          clear hZ2e
          have hl2 := hbl.2.1
          have hll : l.length ≤ 255 := by omega
          clear hG2 hfr hok1 hN hO2 hlt1
          obtain ⟨a2, hv2⟩ := hGr.len
          subst hv2
          clear hGr
          unfold takeV
          simp (disch := first | omega | (show allOne _ = true; simp [allOne, Value.oneCell', S]) | (simp only [qz]; first | done | omega)) only [go_sem, hN2.m, ldc_cells, mcells]
          refine Hwp.drawn mixed [0, 0, 2, 6, 14, 30, 0, 64, 192, 448, 960, 2046, 0, 4096, 12288, 28672, 61440, 0, 0, 262144, 786432, 1835008, 3932160, 8388606, 16777215, 33554431] (.op 0 (.op 1 (.op 2 (.op 3 (.op 4 (.op 6 (.op 7 (.op 8 (.op 9 (.op 10 (.op 12 (.op 13 (.op 14 (.op 15 (.op 16 (.op 17 (.op 18 (.op 19 (.op 20 (.op 21 (.op 22 (.eff 5 (.eff 11 (.eff 23 (.eff 24 (.op 25 .done) .stop) .stop) .stop) .stop)))))))))))))))))))))) (by kernel_rfl) ?_
          simp (disch := first | omega | (show allOne _ = true; simp [allOne, Value.oneCell', S]) | (simp only [qz]; first | done | omega)) only [go_sem, hN2.m, ldc_cells, mcells]
          refine vm_number (N.bl : Nat) (by have := hN2.ok.bl; omega) (by have := hN2.ok.bl; omega) _ _ ?_
          simp (disch := first | omega | (show allOne _ = true; simp [allOne, Value.oneCell', S]) | (simp only [qz]; first | done | omega)) only [go_sem, hN2.m, ldc_cells, mcells]
          refine vm_number ((N.pc : Int) + 1) (by omega) (by omega) _ _ ?_
          simp (disch := first | omega | (show allOne _ = true; simp [allOne, Value.oneCell', S]) | (simp only [qz]; first | done | omega)) only [go_sem, hN2.m, ldc_cells, mcells]
          refine HCalls.gotOk (vm_fresh hN2 hok2 hZK2 4 (by omega) [wInt N.bl, wInt (N.pc + 1), N.e, s, N.f] (by intro x hx; simp at hx; rcases hx with rfl | rfl | rfl | rfl | rfl; exact wInt_lt _; exact wInt_lt _; exact hN2.ok.e; exact hbl.2.2; exact hN2.ok.f) 5 rfl _ rfl _ ?_)
          intro K3 hN3 k3 hw3 hok3 _
          have hZK3 : ∀ b, Z2 b → b < K3.next := fun b hb => Nat.lt_of_lt_of_le (hZK2 b hb) k3.next
          simp (disch := first | omega | (show allOne _ = true; simp [allOne, Value.oneCell', S]) | (simp only [qz]; first | done | omega)) only [go_sem, hN3.m, ldc_cells, mcells]
          refine vm_call hN3 hZK3 (hB2.ext k3.ext) hBl N.v hN2.ok.v _ l hl2 (by omega) ⟨Z2, hS2.ext k3.ext, hZK3, hN3.zp.2.1, hN3.zp.2.2.1, hN3.zp.2.2.2.1⟩ (makeW size N.T [wInt N.bl, wInt (N.pc + 1), N.e, s, N.f]) hw3 M' hA _ ?_
          intro H9 h9 k9
          simp (disch := first | omega | (show allOne _ = true; simp [allOne, Value.oneCell', S]) | (simp only [qz]; first | done | omega)) only [go_sem]
          exact hR H9 _ _ _ (h9.less hZZ) (kN2.trans ((k3.trans k9).less hZZ))
    · rw [apply_bad ht hc he] at hA
      cases hA
      simp (disch := first | omega | (show allOne _ = true; simp [allOne, Value.oneCell', S]) | (simp only [qz]; first | done | omega)) only [go_sem]
      refine vm_fail hM0 er _ ?_
      intro k1 k2
      simp (disch := first | omega | (show allOne _ = true; simp [allOne, Value.oneCell', S]) | (simp only [qz]; first | done | omega)) only [go_sem]
      exact hR _ _ _ _ k1 (k0.trans k2)
theorem vm_apply_ft (hM : MIn Z H p size vb g gw gh vn vk va M) (hZ : ∀ b, Z b → b < H.next) (hB : Sl rBk Z H vb B) (hBl : B.length < 1000000) (n : Nat) (hn : n ≤ 255) (hpc : M.pc + 1 < 1000000) (M' : MS) (hA : M.apply B size n false true = some M') (R : Value → HHeap → Prop)
    (hR : ∀ H' g' gw' gh', MIn Z H' p size vb g' gw' gh' vn vk va M' → Kp Z H H' → R (.tuple #[]) H') :
    HCalls Tryz.prog 77 [ptr p 0, I (n : Nat), .bool false, .bool true] H R := by
  refine HCalls.ok fun hok => ?_
  refine HCalls.of_hw Tryz.func77 rfl _ Tryz.ntmps77 _ (by rw [Tryz.results77]) ?_
  rw [hframe0_eq _ _ (by simp)]
  simp only [List.zipIdx_cons, List.zipIdx_nil, List.map_cons, List.map_nil, Nat.reduceAdd]
  simp (disch := first | omega | (show allOne _ = true; simp [allOne, Value.oneCell', S]) | (simp only [qz]; first | done | omega)) only [go_sem]
  refine HCalls.gotOk (vm_take hM hZ n (by omega) _ ?_)
  intro v0 K0 hO0 hG0
  have hM0 := hM.old hok hO0 hZ (fun _ h => h) (fun _ h => .inl h)
  have k0 : Kp Z H K0 := hO0.kp hZ
  have hZ0 : ∀ b, Z b → b < K0.next := fun b hb => Nat.lt_of_lt_of_le (hZ b hb) hO0.1
  cases ht : M.take n with
  | none =>
    rw [apply_none ht] at hA
    cases hA
    intro _ _
    unfold takeV
    simp (disch := first | omega | (show allOne _ = true; simp [allOne, Value.oneCell', S]) | (simp only [qz]; first | done | omega)) only [go_sem]
    refine vm_fail hM0 100 _ ?_
    intro k1 k2
    simp (disch := first | omega | (show allOne _ = true; simp [allOne, Value.oneCell', S]) | (simp only [qz]; first | done | omega)) only [go_sem]
    exact hR _ _ _ _ k1 (k0.trans k2)
  | some x0 =>
    obtain ⟨l0, s0⟩ := x0
    obtain ⟨hGr0, _⟩ := hG0 l0 s0 ht
    obtain ⟨a0, hv0⟩ := hGr0.len
    subst hv0
    intro hok0 _
    unfold takeV
    simp (disch := first | omega | (show allOne _ = true; simp [allOne, Value.oneCell', S]) | (simp only [qz]; first | done | omega)) only [go_sem, hM0.m, ldc_cells, mcells]
    refine vm_callable hM0 (hB.ext k0.ext) M.v n hM.ok.v (by omega) _ ?_
    cases hc : callF B M.T M.v n with
    | mk own er =>
    by_cases he : er = 0
    · subst he
      cases own with
      | false =>
        rw [apply_ok (own := false) (need := 0) ht hc (by simp <;> omega)] at hA
        simp (disch := first | omega | (show allOne _ = true; simp [allOne, Value.oneCell', S]) | (simp only [qz]; first | done | omega)) only [go_sem]
        refine vm_room0z hM0 hZ0 (0) (by omega) _ (by omega) _ ?_
        intro H1 g1 gw1 gh1 hN kN0 hok1
        have kN := k0.trans kN0
        have hpc1 : (M.room size (0) []).2.1.pc + 1 < 1000000 := by rw [room_pc]; exact hpc
        have hZ1 : ∀ b, Z b → b < H1.next := fun b hb => Nat.lt_of_lt_of_le (hZ b hb) kN.next
        cases hr : (M.room size (0) []).1 with
        | false =>
          rw [hr, if_neg (by simp)] at hA
          generalize (M.room size (0) []).2.1 = N at *
          cases hA
          simp (disch := first | omega | (show allOne _ = true; simp [allOne, Value.oneCell', S]) | (simp only [qz]; first | done | omega)) only [go_sem, hN.m, ldc_cells, mcells, stc_cells, set_set]
          exact hR _ _ _ _ (hN.put (M' := { N with st := 5 }) rfl rfl rfl rfl ⟨hN.ok.v, hN.ok.e, hN.ok.s, hN.ok.f, hN.ok.nm, hN.ok.ask, hN.ok.bl, hN.ok.pc, hN.ok.nml, hN.ok.kpl, hN.ok.askl⟩) (kN.trans (Kp.set hN.zp.1))
        | true =>
          rw [hr, if_pos rfl] at hA
          generalize (M.room size (0) []).2.1 = N at *
          unfold MS.apply2 at hA
          simp (disch := first | omega | (show allOne _ = true; simp [allOne, Value.oneCell', S]) | (simp only [qz]; first | done | omega)) only [go_sem]
          refine HCalls.gotOk (vm_take hN hZ1 n (by omega) _ ?_)
          intro v2 K2 hO2 hG2 hok2 _
          cases ht2 : N.take n with
          | none => rw [ht2] at hA; cases hA
          | some x =>
          obtain ⟨l, s⟩ := x
          rw [ht2] at hA
          simp only [Bool.not_true, Bool.not_false, Bool.and_true, Bool.true_and, Bool.false_and, Bool.and_false, Bool.or_true, Bool.true_or, Bool.or_false, Bool.or_self, if_true, Bool.false_eq_true, if_false] at hA
          obtain ⟨hGr, hfr⟩ := hG2 l s ht2
          have hbl := take_lt hN ht2
          have hlt1 := hN.lt hok1
          obtain ⟨Z2, hZ2e⟩ : ∃ Z2 : Zs, Z2 = fun b => Z b ∨ b ∈ sblk v2 := ⟨_, rfl⟩
          have hN2 : MIn Z2 K2 p size vb g1 gw1 gh1 vn vk va N := by
            rw [hZ2e]
            exact hN.old hok1 hO2 hZ1 (fun _ h => .inl h) (fun b h => by rcases h with h | h; exact .inl h; exact .inr (hfr b h).1)
          have hS2 : Sl rW Z2 K2 v2 l := by rw [hZ2e]; exact hGr.stay
          have hZK2 : ∀ b, Z2 b → b < K2.next := by
            rw [hZ2e]
            intro b hb
            rcases hb with hb | hb
            · exact Nat.lt_of_lt_of_le (hZ1 b hb) hO2.1
            · exact (hfr b hb).2
          have hZZ : ∀ b, Z b → Z2 b := by rw [hZ2e]; exact fun b h => .inl h
          have kN2 : Kp Z H K2 := kN.trans (hO2.kp hZ1)
          have hB2 : Sl rBk Z2 K2 vb B := (hB.ext kN2.ext).ext fun b hb => ⟨hZZ b hb, rfl⟩
          clear hZ2e
          have hl2 := hbl.2.1
          have hll : l.length ≤ 255 := by omega
          clear hG2 hfr hok1 hN hO2 hlt1
          obtain ⟨a2, hv2⟩ := hGr.len
          subst hv2
          clear hGr
          unfold takeV
          simp (disch := first | omega | (show allOne _ = true; simp [allOne, Value.oneCell', S]) | (simp only [qz]; first | done | omega)) only [go_sem, hN2.m, ldc_cells, mcells]
          refine vm_call hN2 hZK2 (hB2.ext (Kp.refl Z2 K2).ext) hBl N.v hN2.ok.v _ l hl2 (by omega) ⟨Z2, hS2.ext (Kp.refl Z2 K2).ext, hZK2, hN2.zp.2.1, hN2.zp.2.2.1, hN2.zp.2.2.2.1⟩ N.f hN2.ok.f M' hA _ ?_
          intro H9 h9 k9
          simp (disch := first | omega | (show allOne _ = true; simp [allOne, Value.oneCell', S]) | (simp only [qz]; first | done | omega)) only [go_sem]
          exact hR H9 _ _ _ (h9.less hZZ) (kN2.trans (((Kp.refl Z2 K2).trans k9).less hZZ))
      | true =>
        rw [apply_ok (own := true) (need := (2 + n)) ht hc (by simp <;> omega)] at hA
        simp (disch := first | omega | (show allOne _ = true; simp [allOne, Value.oneCell', S]) | (simp only [qz]; first | done | omega)) only [go_sem]
        refine vm_room0z hM0 hZ0 ((2 + n)) (by omega) _ (by omega) _ ?_
        intro H1 g1 gw1 gh1 hN kN0 hok1
        have kN := k0.trans kN0
        have hpc1 : (M.room size ((2 + n)) []).2.1.pc + 1 < 1000000 := by rw [room_pc]; exact hpc
        have hZ1 : ∀ b, Z b → b < H1.next := fun b hb => Nat.lt_of_lt_of_le (hZ b hb) kN.next
        cases hr : (M.room size ((2 + n)) []).1 with
        | false =>
          rw [hr, if_neg (by simp)] at hA
          generalize (M.room size ((2 + n)) []).2.1 = N at *
          cases hA
          simp (disch := first | omega | (show allOne _ = true; simp [allOne, Value.oneCell', S]) | (simp only [qz]; first | done | omega)) only [go_sem, hN.m, ldc_cells, mcells, stc_cells, set_set]
          exact hR _ _ _ _ (hN.put (M' := { N with st := 5 }) rfl rfl rfl rfl ⟨hN.ok.v, hN.ok.e, hN.ok.s, hN.ok.f, hN.ok.nm, hN.ok.ask, hN.ok.bl, hN.ok.pc, hN.ok.nml, hN.ok.kpl, hN.ok.askl⟩) (kN.trans (Kp.set hN.zp.1))
        | true =>
          rw [hr, if_pos rfl] at hA
          generalize (M.room size ((2 + n)) []).2.1 = N at *
          unfold MS.apply2 at hA
          simp (disch := first | omega | (show allOne _ = true; simp [allOne, Value.oneCell', S]) | (simp only [qz]; first | done | omega)) only [go_sem]
          refine HCalls.gotOk (vm_take hN hZ1 n (by omega) _ ?_)
          intro v2 K2 hO2 hG2 hok2 _
          cases ht2 : N.take n with
          | none => rw [ht2] at hA; cases hA
          | some x =>
          obtain ⟨l, s⟩ := x
          rw [ht2] at hA
          simp only [Bool.not_true, Bool.not_false, Bool.and_true, Bool.true_and, Bool.false_and, Bool.and_false, Bool.or_true, Bool.true_or, Bool.or_false, Bool.or_self, if_true, Bool.false_eq_true, if_false] at hA
          obtain ⟨hGr, hfr⟩ := hG2 l s ht2
          have hbl := take_lt hN ht2
          have hlt1 := hN.lt hok1
          obtain ⟨Z2, hZ2e⟩ : ∃ Z2 : Zs, Z2 = fun b => Z b ∨ b ∈ sblk v2 := ⟨_, rfl⟩
          have hN2 : MIn Z2 K2 p size vb g1 gw1 gh1 vn vk va N := by
            rw [hZ2e]
            exact hN.old hok1 hO2 hZ1 (fun _ h => .inl h) (fun b h => by rcases h with h | h; exact .inl h; exact .inr (hfr b h).1)
          have hS2 : Sl rW Z2 K2 v2 l := by rw [hZ2e]; exact hGr.stay
          have hZK2 : ∀ b, Z2 b → b < K2.next := by
            rw [hZ2e]
            intro b hb
            rcases hb with hb | hb
            · exact Nat.lt_of_lt_of_le (hZ1 b hb) hO2.1
            · exact (hfr b hb).2
          have hZZ : ∀ b, Z b → Z2 b := by rw [hZ2e]; exact fun b h => .inl h
          have kN2 : Kp Z H K2 := kN.trans (hO2.kp hZ1)
          have hB2 : Sl rBk Z2 K2 vb B := (hB.ext kN2.ext).ext fun b hb => ⟨hZZ b hb, rfl⟩
          clear hZ2e
          have hl2 := hbl.2.1
          have hll : l.length ≤ 255 := by omega
          clear hG2 hfr hok1 hN hO2 hlt1
          obtain ⟨a2, hv2⟩ := hGr.len
          subst hv2
          clear hGr
          unfold takeV
          simp (disch := first | omega | (show allOne _ = true; simp [allOne, Value.oneCell', S]) | (simp only [qz]; first | done | omega)) only [go_sem, hN2.m, ldc_cells, mcells]
          refine vm_call hN2 hZK2 (hB2.ext (Kp.refl Z2 K2).ext) hBl N.v hN2.ok.v _ l hl2 (by omega) ⟨Z2, hS2.ext (Kp.refl Z2 K2).ext, hZK2, hN2.zp.2.1, hN2.zp.2.2.1, hN2.zp.2.2.2.1⟩ N.f hN2.ok.f M' hA _ ?_
          intro H9 h9 k9
          simp (disch := first | omega | (show allOne _ = true; simp [allOne, Value.oneCell', S]) | (simp only [qz]; first | done | omega)) only [go_sem]
          exact hR H9 _ _ _ (h9.less hZZ) (kN2.trans (((Kp.refl Z2 K2).trans k9).less hZZ))
    · rw [apply_bad ht hc he] at hA
      cases hA
      simp (disch := first | omega | (show allOne _ = true; simp [allOne, Value.oneCell', S]) | (simp only [qz]; first | done | omega)) only [go_sem]
      refine vm_fail hM0 er _ ?_
      intro k1 k2
      simp (disch := first | omega | (show allOne _ = true; simp [allOne, Value.oneCell', S]) | (simp only [qz]; first | done | omega)) only [go_sem]
      exact hR _ _ _ _ k1 (k0.trans k2)
theorem vm_apply_tf (hM : MIn Z H p size vb g gw gh vn vk va M) (hZ : ∀ b, Z b → b < H.next) (hB : Sl rBk Z H vb B) (hBl : B.length < 1000000) (n : Nat) (hn : n ≤ 255) (hpc : M.pc + 1 < 1000000) (M' : MS) (hA : M.apply B size n true false = some M') (R : Value → HHeap → Prop)
    (hR : ∀ H' g' gw' gh', MIn Z H' p size vb g' gw' gh' vn vk va M' → Kp Z H H' → R (.tuple #[]) H') :
    HCalls Tryz.prog 77 [ptr p 0, I (n : Nat), .bool true, .bool false] H R := by
  refine HCalls.ok fun hok => ?_
  refine HCalls.of_hw Tryz.func77 rfl _ Tryz.ntmps77 _ (by rw [Tryz.results77]) ?_
  rw [hframe0_eq _ _ (by simp)]
  simp only [List.zipIdx_cons, List.zipIdx_nil, List.map_cons, List.map_nil, Nat.reduceAdd]
  simp (disch := first | omega | (show allOne _ = true; simp [allOne, Value.oneCell', S]) | (simp only [qz]; first | done | omega)) only [go_sem]
  refine HCalls.gotOk (vm_take hM hZ n (by omega) _ ?_)
  intro v0 K0 hO0 hG0
  have hM0 := hM.old hok hO0 hZ (fun _ h => h) (fun _ h => .inl h)
  have k0 : Kp Z H K0 := hO0.kp hZ
  have hZ0 : ∀ b, Z b → b < K0.next := fun b hb => Nat.lt_of_lt_of_le (hZ b hb) hO0.1
  cases ht : M.take n with
  | none =>
    rw [apply_none ht] at hA
    cases hA
    intro _ _
    unfold takeV
    simp (disch := first | omega | (show allOne _ = true; simp [allOne, Value.oneCell', S]) | (simp only [qz]; first | done | omega)) only [go_sem]
    refine vm_fail hM0 100 _ ?_
    intro k1 k2
    simp (disch := first | omega | (show allOne _ = true; simp [allOne, Value.oneCell', S]) | (simp only [qz]; first | done | omega)) only [go_sem]
    exact hR _ _ _ _ k1 (k0.trans k2)
  | some x0 =>
    obtain ⟨l0, s0⟩ := x0
    obtain ⟨hGr0, _⟩ := hG0 l0 s0 ht
    obtain ⟨a0, hv0⟩ := hGr0.len
    subst hv0
    intro hok0 _
    unfold takeV
    simp (disch := first | omega | (show allOne _ = true; simp [allOne, Value.oneCell', S]) | (simp only [qz]; first | done | omega)) only [go_sem, hM0.m, ldc_cells, mcells]
    refine vm_callable hM0 (hB.ext k0.ext) M.v 1 hM.ok.v (by omega) _ ?_
    cases hc : callF B M.T M.v 1 with
    | mk own er =>
    by_cases he : er = 0
    · subst he
      cases own with
      | false =>
        rw [apply_ok (own := false) (need := 6+2) ht hc (by simp <;> omega)] at hA
        simp (disch := first | omega | (show allOne _ = true; simp [allOne, Value.oneCell', S]) | (simp only [qz]; first | done | omega)) only [go_sem]
        refine vm_room0z hM0 hZ0 (6+2) (by omega) _ (by omega) _ ?_
        intro H1 g1 gw1 gh1 hN kN0 hok1
        have kN := k0.trans kN0
        have hpc1 : (M.room size (6+2) []).2.1.pc + 1 < 1000000 := by rw [room_pc]; exact hpc
        have hZ1 : ∀ b, Z b → b < H1.next := fun b hb => Nat.lt_of_lt_of_le (hZ b hb) kN.next
        cases hr : (M.room size (6+2) []).1 with
        | false =>
          rw [hr, if_neg (by simp)] at hA
          generalize (M.room size (6+2) []).2.1 = N at *
          cases hA
          simp (disch := first | omega | (show allOne _ = true; simp [allOne, Value.oneCell', S]) | (simp only [qz]; first | done | omega)) only [go_sem, hN.m, ldc_cells, mcells, stc_cells, set_set]
          exact hR _ _ _ _ (hN.put (M' := { N with st := 5 }) rfl rfl rfl rfl ⟨hN.ok.v, hN.ok.e, hN.ok.s, hN.ok.f, hN.ok.nm, hN.ok.ask, hN.ok.bl, hN.ok.pc, hN.ok.nml, hN.ok.kpl, hN.ok.askl⟩) (kN.trans (Kp.set hN.zp.1))
        | true =>
          rw [hr, if_pos rfl] at hA
          generalize (M.room size (6+2) []).2.1 = N at *
          unfold MS.apply2 at hA
          simp (disch := first | omega | (show allOne _ = true; simp [allOne, Value.oneCell', S]) | (simp only [qz]; first | done | omega)) only [go_sem]
          refine HCalls.gotOk (vm_take hN hZ1 n (by omega) _ ?_)
          intro v2 K2 hO2 hG2 hok2 _
          cases ht2 : N.take n with
          | none => rw [ht2] at hA; cases hA
          | some x =>
          obtain ⟨l, s⟩ := x
          rw [ht2] at hA
          simp only [Bool.not_true, Bool.not_false, Bool.and_true, Bool.true_and, Bool.false_and, Bool.and_false, Bool.or_true, Bool.true_or, Bool.or_false, Bool.or_self, if_true, Bool.false_eq_true, if_false] at hA
          obtain ⟨hGr, hfr⟩ := hG2 l s ht2
          have hbl := take_lt hN ht2
          have hlt1 := hN.lt hok1
          obtain ⟨Z2, hZ2e⟩ : ∃ Z2 : Zs, Z2 = fun b => Z b ∨ b ∈ sblk v2 := ⟨_, rfl⟩
          have hN2 : MIn Z2 K2 p size vb g1 gw1 gh1 vn vk va N := by
            rw [hZ2e]
            exact hN.old hok1 hO2 hZ1 (fun _ h => .inl h) (fun b h => by rcases h with h | h; exact .inl h; exact .inr (hfr b h).1)
          have hS2 : Sl rW Z2 K2 v2 l := by rw [hZ2e]; exact hGr.stay
          have hZK2 : ∀ b, Z2 b → b < K2.next := by
            rw [hZ2e]
            intro b hb
            rcases hb with hb | hb
            · exact Nat.lt_of_lt_of_le (hZ1 b hb) hO2.1
            · exact (hfr b hb).2
          have hZZ : ∀ b, Z b → Z2 b := by rw [hZ2e]; exact fun b h => .inl h
          have kN2 : Kp Z H K2 := kN.trans (hO2.kp hZ1)
          have hB2 : Sl rBk Z2 K2 vb B := (hB.ext kN2.ext).ext fun b hb => ⟨hZZ b hb, rfl⟩
          clear hZ2e
          have hl2 := hbl.2.1
          have hll : l.length ≤ 255 := by omega
          clear hG2 hfr hok1 hN hO2 hlt1
          obtain ⟨a2, hv2⟩ := hGr.len
          subst hv2
          clear hGr
          unfold takeV
          simp (disch := first | omega | (show allOne _ = true; simp [allOne, Value.oneCell', S]) | (simp only [qz]; first | done | omega)) only [go_sem, hN2.m, ldc_cells, mcells]
          refine Hwp.drawn mixed [0, 0, 2, 6, 14, 30, 0, 64, 192, 448, 960, 2046, 0, 4096, 12288, 28672, 61440, 0, 0, 262144, 786432, 1835008, 3932160, 8388606, 16777215, 33554431] (.op 0 (.op 1 (.op 2 (.op 3 (.op 4 (.op 6 (.op 7 (.op 8 (.op 9 (.op 10 (.op 12 (.op 13 (.op 14 (.op 15 (.op 16 (.op 17 (.op 18 (.op 19 (.op 20 (.op 21 (.op 22 (.eff 5 (.eff 11 (.eff 23 (.eff 24 (.op 25 .done) .stop) .stop) .stop) .stop)))))))))))))))))))))) (by kernel_rfl) ?_
          simp (disch := first | omega | (show allOne _ = true; simp [allOne, Value.oneCell', S]) | (simp only [qz]; first | done | omega)) only [go_sem, hN2.m, ldc_cells, mcells]
          refine vm_number (N.bl : Nat) (by have := hN2.ok.bl; omega) (by have := hN2.ok.bl; omega) _ _ ?_
          simp (disch := first | omega | (show allOne _ = true; simp [allOne, Value.oneCell', S]) | (simp only [qz]; first | done | omega)) only [go_sem, hN2.m, ldc_cells, mcells]
          refine vm_number ((N.pc : Int) + 1) (by omega) (by omega) _ _ ?_
          simp (disch := first | omega | (show allOne _ = true; simp [allOne, Value.oneCell', S]) | (simp only [qz]; first | done | omega)) only [go_sem, hN2.m, ldc_cells, mcells]
          refine HCalls.gotOk (vm_fresh hN2 hok2 hZK2 4 (by omega) [wInt N.bl, wInt (N.pc + 1), N.e, s, N.f] (by intro x hx; simp at hx; rcases hx with rfl | rfl | rfl | rfl | rfl; exact wInt_lt _; exact wInt_lt _; exact hN2.ok.e; exact hbl.2.2; exact hN2.ok.f) 5 rfl _ rfl _ ?_)
          intro K3 hN3 k3 hw3 hok3 _
          have hZK3 : ∀ b, Z2 b → b < K3.next := fun b hb => Nat.lt_of_lt_of_le (hZK2 b hb) k3.next
          simp (disch := first | omega | (show allOne _ = true; simp [allOne, Value.oneCell', S]) | (simp only [qz]; first | done | omega)) only [go_sem, hN3.m, ldc_cells, mcells]
          refine HCalls.gotOk (vm_fresh hN3 hok3 hZK3 5 (by omega) [(makeW size N.T [wInt N.bl, wInt (N.pc + 1), N.e, s, N.f])] (by intro x hx; simp at hx; rw [hx]; exact hw3) 1 rfl _ rfl _ ?_)
          intro K4 hN4 k4 hw4 hok4 _
          have k5 : Kp Z2 K2 K4 := k3.trans k4
          have hZK4 : ∀ b, Z2 b → b < K4.next := fun b hb => Nat.lt_of_lt_of_le (hZK3 b hb) k4.next
          simp (disch := first | omega | (show allOne _ = true; simp [allOne, Value.oneCell', S]) | (simp only [qz]; first | done | omega)) only [go_sem, hN4.m, ldc_cells, mcells]
          obtain ⟨w4, hw4e⟩ : ∃ w4, w4 = makeW size (makeT size N.T 4 [wInt N.bl, wInt (N.pc + 1), N.e, s, N.f]) [(makeW size N.T [wInt N.bl, wInt (N.pc + 1), N.e, s, N.f])] := ⟨_, rfl⟩
          rw [← hw4e] at hA hw4 ⊢
          have hO5 := Old.push K4 (.cells [U w4] true)
          have hx5 := HHeap.push_next K4 (.cells [U w4] true)
          have hg5 : (K4.push (.cells [U w4] true)).get K4.next = some (.cells ([w4].map U) true) := get_push_same _
          have hN5 := hN4.old hok4 hO5 hZK4 (fun _ h => h) (fun _ h => .inl h)
          have hlt4 := hN4.lt hok4
          have k6 : Kp Z2 K2 (K4.push (.cells [U w4] true)) := k5.trans (hO5.kp hZK4)
          simp (disch := first | omega | (show allOne _ = true; simp [allOne, Value.oneCell', S]) | (simp only [qz]; first | done | omega)) only [go_sem, hN4.m, hN5.m, ldc_cells, mcells]
          generalize K4.push (.cells [U w4] true) = K5 at *
          refine vm_call hN5 (fun b hb => Nat.lt_of_lt_of_le (hZK2 b hb) k6.next) (hB2.ext k6.ext) hBl N.v hN2.ok.v _ [w4] (by intro x hx; simp at hx; rw [hx]; exact hw4) (by simp) ⟨fun x => False ∨ x = K4.next, Sl.fresh hg5, by simp; omega, by simp; omega, by simp; omega, by simp; omega⟩ (makeW size N.T [wInt N.bl, wInt (N.pc + 1), N.e, s, N.f]) hw3 M' hA _ ?_
          intro H9 h9 k9
          simp (disch := first | omega | (show allOne _ = true; simp [allOne, Value.oneCell', S]) | (simp only [qz]; first | done | omega)) only [go_sem]
          exact hR H9 _ _ _ (h9.less hZZ) (kN2.trans ((k6.trans k9).less hZZ))
      | true =>
        rw [apply_ok (own := true) (need := 6+2+(2 + 1)) ht hc (by simp <;> omega)] at hA
        simp (disch := first | omega | (show allOne _ = true; simp [allOne, Value.oneCell', S]) | (simp only [qz]; first | done | omega)) only [go_sem]
        refine vm_room0z hM0 hZ0 (6+2+(2 + 1)) (by omega) _ (by omega) _ ?_
        intro H1 g1 gw1 gh1 hN kN0 hok1
        have kN := k0.trans kN0
        have hpc1 : (M.room size (6+2+(2 + 1)) []).2.1.pc + 1 < 1000000 := by rw [room_pc]; exact hpc
        have hZ1 : ∀ b, Z b → b < H1.next := fun b hb => Nat.lt_of_lt_of_le (hZ b hb) kN.next
        cases hr : (M.room size (6+2+(2 + 1)) []).1 with
        | false =>
          rw [hr, if_neg (by simp)] at hA
          generalize (M.room size (6+2+(2 + 1)) []).2.1 = N at *
          cases hA
          simp (disch := first | omega | (show allOne _ = true; simp [allOne, Value.oneCell', S]) | (simp only [qz]; first | done | omega)) only [go_sem, hN.m, ldc_cells, mcells, stc_cells, set_set]
          exact hR _ _ _ _ (hN.put (M' := { N with st := 5 }) rfl rfl rfl rfl ⟨hN.ok.v, hN.ok.e, hN.ok.s, hN.ok.f, hN.ok.nm, hN.ok.ask, hN.ok.bl, hN.ok.pc, hN.ok.nml, hN.ok.kpl, hN.ok.askl⟩) (kN.trans (Kp.set hN.zp.1))
        | true =>
          rw [hr, if_pos rfl] at hA
          generalize (M.room size (6+2+(2 + 1)) []).2.1 = N at *
          unfold MS.apply2 at hA
          simp (disch := first | omega | (show allOne _ = true; simp [allOne, Value.oneCell', S]) | (simp only [qz]; first | done | omega)) only [go_sem]
          refine HCalls.gotOk (vm_take hN hZ1 n (by omega) _ ?_)
          intro v2 K2 hO2 hG2 hok2 _
          cases ht2 : N.take n with
          | none => rw [ht2] at hA; cases hA
          | some x =>
          obtain ⟨l, s⟩ := x
          rw [ht2] at hA
          simp only [Bool.not_true, Bool.not_false, Bool.and_true, Bool.true_and, Bool.false_and, Bool.and_false, Bool.or_true, Bool.true_or, Bool.or_false, Bool.or_self, if_true, Bool.false_eq_true, if_false] at hA
          obtain ⟨hGr, hfr⟩ := hG2 l s ht2
          have hbl := take_lt hN ht2
          have hlt1 := hN.lt hok1
          obtain ⟨Z2, hZ2e⟩ : ∃ Z2 : Zs, Z2 = fun b => Z b ∨ b ∈ sblk v2 := ⟨_, rfl⟩
          have hN2 : MIn Z2 K2 p size vb g1 gw1 gh1 vn vk va N := by
            rw [hZ2e]
            exact hN.old hok1 hO2 hZ1 (fun _ h => .inl h) (fun b h => by rcases h with h | h; exact .inl h; exact .inr (hfr b h).1)
          have hS2 : Sl rW Z2 K2 v2 l := by rw [hZ2e]; exact hGr.stay
          have hZK2 : ∀ b, Z2 b → b < K2.next := by
            rw [hZ2e]
            intro b hb
            rcases hb with hb | hb
            · exact Nat.lt_of_lt_of_le (hZ1 b hb) hO2.1
            · exact (hfr b hb).2
          have hZZ : ∀ b, Z b → Z2 b := by rw [hZ2e]; exact fun b h => .inl h
          have kN2 : Kp Z H K2 := kN.trans (hO2.kp hZ1)
          have hB2 : Sl rBk Z2 K2 vb B := (hB.ext kN2.ext).ext fun b hb => ⟨hZZ b hb, rfl⟩
          clear hZ2e
          have hl2 := hbl.2.1
          have hll : l.length ≤ 255 := by omega
          clear hG2 hfr hok1 hN hO2 hlt1
          obtain ⟨a2, hv2⟩ := hGr.len
          subst hv2
          clear hGr
          unfold takeV
          simp (disch := first | omega | (show allOne _ = true; simp [allOne, Value.oneCell', S]) | (simp only [qz]; first | done | omega)) only [go_sem, hN2.m, ldc_cells, mcells]
          refine Hwp.drawn mixed [0, 0, 2, 6, 14, 30, 0, 64, 192, 448, 960, 2046, 0, 4096, 12288, 28672, 61440, 0, 0, 262144, 786432, 1835008, 3932160, 8388606, 16777215, 33554431] (.op 0 (.op 1 (.op 2 (.op 3 (.op 4 (.op 6 (.op 7 (.op 8 (.op 9 (.op 10 (.op 12 (.op 13 (.op 14 (.op 15 (.op 16 (.op 17 (.op 18 (.op 19 (.op 20 (.op 21 (.op 22 (.eff 5 (.eff 11 (.eff 23 (.eff 24 (.op 25 .done) .stop) .stop) .stop) .stop)))))))))))))))))))))) (by kernel_rfl) ?_
          simp (disch := first | omega | (show allOne _ = true; simp [allOne, Value.oneCell', S]) | (simp only [qz]; first | done | omega)) only [go_sem, hN2.m, ldc_cells, mcells]
          refine vm_number (N.bl : Nat) (by have := hN2.ok.bl; omega) (by have := hN2.ok.bl; omega) _ _ ?_
          simp (disch := first | omega | (show allOne _ = true; simp [allOne, Value.oneCell', S]) | (simp only [qz]; first | done | omega)) only [go_sem, hN2.m, ldc_cells, mcells]
          refine vm_number ((N.pc : Int) + 1) (by omega) (by omega) _ _ ?_
          simp (disch := first | omega | (show allOne _ = true; simp [allOne, Value.oneCell', S]) | (simp only [qz]; first | done | omega)) only [go_sem, hN2.m, ldc_cells, mcells]
          refine HCalls.gotOk (vm_fresh hN2 hok2 hZK2 4 (by omega) [wInt N.bl, wInt (N.pc + 1), N.e, s, N.f] (by intro x hx; simp at hx; rcases hx with rfl | rfl | rfl | rfl | rfl; exact wInt_lt _; exact wInt_lt _; exact hN2.ok.e; exact hbl.2.2; exact hN2.ok.f) 5 rfl _ rfl _ ?_)
          intro K3 hN3 k3 hw3 hok3 _
          have hZK3 : ∀ b, Z2 b → b < K3.next := fun b hb => Nat.lt_of_lt_of_le (hZK2 b hb) k3.next
          simp (disch := first | omega | (show allOne _ = true; simp [allOne, Value.oneCell', S]) | (simp only [qz]; first | done | omega)) only [go_sem, hN3.m, ldc_cells, mcells]
          refine HCalls.gotOk (vm_fresh hN3 hok3 hZK3 5 (by omega) [(makeW size N.T [wInt N.bl, wInt (N.pc + 1), N.e, s, N.f])] (by intro x hx; simp at hx; rw [hx]; exact hw3) 1 rfl _ rfl _ ?_)
          intro K4 hN4 k4 hw4 hok4 _
          have k5 : Kp Z2 K2 K4 := k3.trans k4
          have hZK4 : ∀ b, Z2 b → b < K4.next := fun b hb => Nat.lt_of_lt_of_le (hZK3 b hb) k4.next
          simp (disch := first | omega | (show allOne _ = true; simp [allOne, Value.oneCell', S]) | (simp only [qz]; first | done | omega)) only [go_sem, hN4.m, ldc_cells, mcells]
          obtain ⟨w4, hw4e⟩ : ∃ w4, w4 = makeW size (makeT size N.T 4 [wInt N.bl, wInt (N.pc + 1), N.e, s, N.f]) [(makeW size N.T [wInt N.bl, wInt (N.pc + 1), N.e, s, N.f])] := ⟨_, rfl⟩
          rw [← hw4e] at hA hw4 ⊢
          have hO5 := Old.push K4 (.cells [U w4] true)
          have hx5 := HHeap.push_next K4 (.cells [U w4] true)
          have hg5 : (K4.push (.cells [U w4] true)).get K4.next = some (.cells ([w4].map U) true) := get_push_same _
          have hN5 := hN4.old hok4 hO5 hZK4 (fun _ h => h) (fun _ h => .inl h)
          have hlt4 := hN4.lt hok4
          have k6 : Kp Z2 K2 (K4.push (.cells [U w4] true)) := k5.trans (hO5.kp hZK4)
          simp (disch := first | omega | (show allOne _ = true; simp [allOne, Value.oneCell', S]) | (simp only [qz]; first | done | omega)) only [go_sem, hN4.m, hN5.m, ldc_cells, mcells]
          generalize K4.push (.cells [U w4] true) = K5 at *
          refine vm_call hN5 (fun b hb => Nat.lt_of_lt_of_le (hZK2 b hb) k6.next) (hB2.ext k6.ext) hBl N.v hN2.ok.v _ [w4] (by intro x hx; simp at hx; rw [hx]; exact hw4) (by simp) ⟨fun x => False ∨ x = K4.next, Sl.fresh hg5, by simp; omega, by simp; omega, by simp; omega, by simp; omega⟩ (makeW size N.T [wInt N.bl, wInt (N.pc + 1), N.e, s, N.f]) hw3 M' hA _ ?_
          intro H9 h9 k9
          simp (disch := first | omega | (show allOne _ = true; simp [allOne, Value.oneCell', S]) | (simp only [qz]; first | done | omega)) only [go_sem]
          exact hR H9 _ _ _ (h9.less hZZ) (kN2.trans ((k6.trans k9).less hZZ))
    · rw [apply_bad ht hc he] at hA
      cases hA
      simp (disch := first | omega | (show allOne _ = true; simp [allOne, Value.oneCell', S]) | (simp only [qz]; first | done | omega)) only [go_sem]
      refine vm_fail hM0 er _ ?_
      intro k1 k2
      simp (disch := first | omega | (show allOne _ = true; simp [allOne, Value.oneCell', S]) | (simp only [qz]; first | done | omega)) only [go_sem]
      exact hR _ _ _ _ k1 (k0.trans k2)
theorem vm_apply_tt (hM : MIn Z H p size vb g gw gh vn vk va M) (hZ : ∀ b, Z b → b < H.next) (hB : Sl rBk Z H vb B) (hBl : B.length < 1000000) (n : Nat) (hn : n ≤ 255) (hpc : M.pc + 1 < 1000000) (M' : MS) (hA : M.apply B size n true true = some M') (R : Value → HHeap → Prop)
    (hR : ∀ H' g' gw' gh', MIn Z H' p size vb g' gw' gh' vn vk va M' → Kp Z H H' → R (.tuple #[]) H') :
    HCalls Tryz.prog 77 [ptr p 0, I (n : Nat), .bool true, .bool true] H R := by
  refine HCalls.ok fun hok => ?_
  refine HCalls.of_hw Tryz.func77 rfl _ Tryz.ntmps77 _ (by rw [Tryz.results77]) ?_
  rw [hframe0_eq _ _ (by simp)]
  simp only [List.zipIdx_cons, List.zipIdx_nil, List.map_cons, List.map_nil, Nat.reduceAdd]
  simp (disch := first | omega | (show allOne _ = true; simp [allOne, Value.oneCell', S]) | (simp only [qz]; first | done | omega)) only [go_sem]
  refine HCalls.gotOk (vm_take hM hZ n (by omega) _ ?_)
  intro v0 K0 hO0 hG0
  have hM0 := hM.old hok hO0 hZ (fun _ h => h) (fun _ h => .inl h)
  have k0 : Kp Z H K0 := hO0.kp hZ
  have hZ0 : ∀ b, Z b → b < K0.next := fun b hb => Nat.lt_of_lt_of_le (hZ b hb) hO0.1
  cases ht : M.take n with
  | none =>
    rw [apply_none ht] at hA
    cases hA
    intro _ _
    unfold takeV
    simp (disch := first | omega | (show allOne _ = true; simp [allOne, Value.oneCell', S]) | (simp only [qz]; first | done | omega)) only [go_sem]
    refine vm_fail hM0 100 _ ?_
    intro k1 k2
    simp (disch := first | omega | (show allOne _ = true; simp [allOne, Value.oneCell', S]) | (simp only [qz]; first | done | omega)) only [go_sem]
    exact hR _ _ _ _ k1 (k0.trans k2)
  | some x0 =>
    obtain ⟨l0, s0⟩ := x0
    obtain ⟨hGr0, _⟩ := hG0 l0 s0 ht
    obtain ⟨a0, hv0⟩ := hGr0.len
    subst hv0
    intro hok0 _
    unfold takeV
    simp (disch := first | omega | (show allOne _ = true; simp [allOne, Value.oneCell', S]) | (simp only [qz]; first | done | omega)) only [go_sem, hM0.m, ldc_cells, mcells]
    refine vm_callable hM0 (hB.ext k0.ext) M.v 1 hM.ok.v (by omega) _ ?_
    cases hc : callF B M.T M.v 1 with
    | mk own er =>
    by_cases he : er = 0
    · subst he
      cases own with
      | false =>
        rw [apply_ok (own := false) (need := 2) ht hc (by simp <;> omega)] at hA
        simp (disch := first | omega | (show allOne _ = true; simp [allOne, Value.oneCell', S]) | (simp only [qz]; first | done | omega)) only [go_sem]
        refine vm_room0z hM0 hZ0 (2) (by omega) _ (by omega) _ ?_
        intro H1 g1 gw1 gh1 hN kN0 hok1
        have kN := k0.trans kN0
        have hpc1 : (M.room size (2) []).2.1.pc + 1 < 1000000 := by rw [room_pc]; exact hpc
        have hZ1 : ∀ b, Z b → b < H1.next := fun b hb => Nat.lt_of_lt_of_le (hZ b hb) kN.next
        cases hr : (M.room size (2) []).1 with
        | false =>
          rw [hr, if_neg (by simp)] at hA
          generalize (M.room size (2) []).2.1 = N at *
          cases hA
          simp (disch := first | omega | (show allOne _ = true; simp [allOne, Value.oneCell', S]) | (simp only [qz]; first | done | omega)) only [go_sem, hN.m, ldc_cells, mcells, stc_cells, set_set]
          exact hR _ _ _ _ (hN.put (M' := { N with st := 5 }) rfl rfl rfl rfl ⟨hN.ok.v, hN.ok.e, hN.ok.s, hN.ok.f, hN.ok.nm, hN.ok.ask, hN.ok.bl, hN.ok.pc, hN.ok.nml, hN.ok.kpl, hN.ok.askl⟩) (kN.trans (Kp.set hN.zp.1))
        | true =>
          rw [hr, if_pos rfl] at hA
          generalize (M.room size (2) []).2.1 = N at *
          unfold MS.apply2 at hA
          simp (disch := first | omega | (show allOne _ = true; simp [allOne, Value.oneCell', S]) | (simp only [qz]; first | done | omega)) only [go_sem]
          refine HCalls.gotOk (vm_take hN hZ1 n (by omega) _ ?_)
          intro v2 K2 hO2 hG2 hok2 _
          cases ht2 : N.take n with
          | none => rw [ht2] at hA; cases hA
          | some x =>
          obtain ⟨l, s⟩ := x
          rw [ht2] at hA
          simp only [Bool.not_true, Bool.not_false, Bool.and_true, Bool.true_and, Bool.false_and, Bool.and_false, Bool.or_true, Bool.true_or, Bool.or_false, Bool.or_self, if_true, Bool.false_eq_true, if_false] at hA
          obtain ⟨hGr, hfr⟩ := hG2 l s ht2
          have hbl := take_lt hN ht2
          have hlt1 := hN.lt hok1
          obtain ⟨Z2, hZ2e⟩ : ∃ Z2 : Zs, Z2 = fun b => Z b ∨ b ∈ sblk v2 := ⟨_, rfl⟩
          have hN2 : MIn Z2 K2 p size vb g1 gw1 gh1 vn vk va N := by
            rw [hZ2e]
            exact hN.old hok1 hO2 hZ1 (fun _ h => .inl h) (fun b h => by rcases h with h | h; exact .inl h; exact .inr (hfr b h).1)
          have hS2 : Sl rW Z2 K2 v2 l := by rw [hZ2e]; exact hGr.stay
          have hZK2 : ∀ b, Z2 b → b < K2.next := by
            rw [hZ2e]
            intro b hb
            rcases hb with hb | hb
            · exact Nat.lt_of_lt_of_le (hZ1 b hb) hO2.1
            · exact (hfr b hb).2
          have hZZ : ∀ b, Z b → Z2 b := by rw [hZ2e]; exact fun b h => .inl h
          have kN2 : Kp Z H K2 := kN.trans (hO2.kp hZ1)
          have hB2 : Sl rBk Z2 K2 vb B := (hB.ext kN2.ext).ext fun b hb => ⟨hZZ b hb, rfl⟩
          clear hZ2e
          have hl2 := hbl.2.1
          have hll : l.length ≤ 255 := by omega
          clear hG2 hfr hok1 hN hO2 hlt1
          obtain ⟨a2, hv2⟩ := hGr.len
          subst hv2
          clear hGr
          unfold takeV
          simp (disch := first | omega | (show allOne _ = true; simp [allOne, Value.oneCell', S]) | (simp only [qz]; first | done | omega)) only [go_sem, hN2.m, ldc_cells, mcells]
          refine HCalls.gotOk (vm_fresh hN2 hok2 hZK2 5 (by omega) [N.f] (by intro x hx; simp at hx; rw [hx]; exact hN2.ok.f) 1 rfl _ rfl _ ?_)
          intro K4 hN4 k4 hw4 hok4 _
          have k5 : Kp Z2 K2 K4 := (Kp.refl Z2 K2).trans k4
          have hZK4 : ∀ b, Z2 b → b < K4.next := fun b hb => Nat.lt_of_lt_of_le (hZK2 b hb) k4.next
          simp (disch := first | omega | (show allOne _ = true; simp [allOne, Value.oneCell', S]) | (simp only [qz]; first | done | omega)) only [go_sem, hN4.m, ldc_cells, mcells]
          obtain ⟨w4, hw4e⟩ : ∃ w4, w4 = makeW size N.T [N.f] := ⟨_, rfl⟩
          rw [← hw4e] at hA hw4 ⊢
          have hO5 := Old.push K4 (.cells [U w4] true)
          have hx5 := HHeap.push_next K4 (.cells [U w4] true)
          have hg5 : (K4.push (.cells [U w4] true)).get K4.next = some (.cells ([w4].map U) true) := get_push_same _
          have hN5 := hN4.old hok4 hO5 hZK4 (fun _ h => h) (fun _ h => .inl h)
          have hlt4 := hN4.lt hok4
          have k6 : Kp Z2 K2 (K4.push (.cells [U w4] true)) := k5.trans (hO5.kp hZK4)
          simp (disch := first | omega | (show allOne _ = true; simp [allOne, Value.oneCell', S]) | (simp only [qz]; first | done | omega)) only [go_sem, hN4.m, hN5.m, ldc_cells, mcells]
          generalize K4.push (.cells [U w4] true) = K5 at *
          refine vm_call hN5 (fun b hb => Nat.lt_of_lt_of_le (hZK2 b hb) k6.next) (hB2.ext k6.ext) hBl N.v hN2.ok.v _ [w4] (by intro x hx; simp at hx; rw [hx]; exact hw4) (by simp) ⟨fun x => False ∨ x = K4.next, Sl.fresh hg5, by simp; omega, by simp; omega, by simp; omega, by simp; omega⟩ N.f hN2.ok.f M' hA _ ?_
          intro H9 h9 k9
          simp (disch := first | omega | (show allOne _ = true; simp [allOne, Value.oneCell', S]) | (simp only [qz]; first | done | omega)) only [go_sem]
          exact hR H9 _ _ _ (h9.less hZZ) (kN2.trans ((k6.trans k9).less hZZ))
      | true =>
        rw [apply_ok (own := true) (need := 2+(2 + 1)) ht hc (by simp <;> omega)] at hA
        simp (disch := first | omega | (show allOne _ = true; simp [allOne, Value.oneCell', S]) | (simp only [qz]; first | done | omega)) only [go_sem]
        refine vm_room0z hM0 hZ0 (2+(2 + 1)) (by omega) _ (by omega) _ ?_
        intro H1 g1 gw1 gh1 hN kN0 hok1
        have kN := k0.trans kN0
        have hpc1 : (M.room size (2+(2 + 1)) []).2.1.pc + 1 < 1000000 := by rw [room_pc]; exact hpc
        have hZ1 : ∀ b, Z b → b < H1.next := fun b hb => Nat.lt_of_lt_of_le (hZ b hb) kN.next
        cases hr : (M.room size (2+(2 + 1)) []).1 with
        | false =>
          rw [hr, if_neg (by simp)] at hA
          generalize (M.room size (2+(2 + 1)) []).2.1 = N at *
          cases hA
          simp (disch := first | omega | (show allOne _ = true; simp [allOne, Value.oneCell', S]) | (simp only [qz]; first | done | omega)) only [go_sem, hN.m, ldc_cells, mcells, stc_cells, set_set]
          exact hR _ _ _ _ (hN.put (M' := { N with st := 5 }) rfl rfl rfl rfl ⟨hN.ok.v, hN.ok.e, hN.ok.s, hN.ok.f, hN.ok.nm, hN.ok.ask, hN.ok.bl, hN.ok.pc, hN.ok.nml, hN.ok.kpl, hN.ok.askl⟩) (kN.trans (Kp.set hN.zp.1))
        | true =>
          rw [hr, if_pos rfl] at hA
          generalize (M.room size (2+(2 + 1)) []).2.1 = N at *
          unfold MS.apply2 at hA
          simp (disch := first | omega | (show allOne _ = true; simp [allOne, Value.oneCell', S]) | (simp only [qz]; first | done | omega)) only [go_sem]
          refine HCalls.gotOk (vm_take hN hZ1 n (by omega) _ ?_)
          intro v2 K2 hO2 hG2 hok2 _
          cases ht2 : N.take n with
          | none => rw [ht2] at hA; cases hA
          | some x =>
          obtain ⟨l, s⟩ := x
          rw [ht2] at hA
          simp only [Bool.not_true, Bool.not_false, Bool.and_true, Bool.true_and, Bool.false_and, Bool.and_false, Bool.or_true, Bool.true_or, Bool.or_false, Bool.or_self, if_true, Bool.false_eq_true, if_false] at hA
          obtain ⟨hGr, hfr⟩ := hG2 l s ht2
          have hbl := take_lt hN ht2
          have hlt1 := hN.lt hok1
          obtain ⟨Z2, hZ2e⟩ : ∃ Z2 : Zs, Z2 = fun b => Z b ∨ b ∈ sblk v2 := ⟨_, rfl⟩
          have hN2 : MIn Z2 K2 p size vb g1 gw1 gh1 vn vk va N := by
            rw [hZ2e]
            exact hN.old hok1 hO2 hZ1 (fun _ h => .inl h) (fun b h => by rcases h with h | h; exact .inl h; exact .inr (hfr b h).1)
          have hS2 : Sl rW Z2 K2 v2 l := by rw [hZ2e]; exact hGr.stay
          have hZK2 : ∀ b, Z2 b → b < K2.next := by
            rw [hZ2e]
            intro b hb
            rcases hb with hb | hb
            · exact Nat.lt_of_lt_of_le (hZ1 b hb) hO2.1
            · exact (hfr b hb).2
          have hZZ : ∀ b, Z b → Z2 b := by rw [hZ2e]; exact fun b h => .inl h
          have kN2 : Kp Z H K2 := kN.trans (hO2.kp hZ1)
          have hB2 : Sl rBk Z2 K2 vb B := (hB.ext kN2.ext).ext fun b hb => ⟨hZZ b hb, rfl⟩
          clear hZ2e
          have hl2 := hbl.2.1
          have hll : l.length ≤ 255 := by omega
          clear hG2 hfr hok1 hN hO2 hlt1
          obtain ⟨a2, hv2⟩ := hGr.len
          subst hv2
          clear hGr
          unfold takeV
          simp (disch := first | omega | (show allOne _ = true; simp [allOne, Value.oneCell', S]) | (simp only [qz]; first | done | omega)) only [go_sem, hN2.m, ldc_cells, mcells]
          refine HCalls.gotOk (vm_fresh hN2 hok2 hZK2 5 (by omega) [N.f] (by intro x hx; simp at hx; rw [hx]; exact hN2.ok.f) 1 rfl _ rfl _ ?_)
          intro K4 hN4 k4 hw4 hok4 _
          have k5 : Kp Z2 K2 K4 := (Kp.refl Z2 K2).trans k4
          have hZK4 : ∀ b, Z2 b → b < K4.next := fun b hb => Nat.lt_of_lt_of_le (hZK2 b hb) k4.next
          simp (disch := first | omega | (show allOne _ = true; simp [allOne, Value.oneCell', S]) | (simp only [qz]; first | done | omega)) only [go_sem, hN4.m, ldc_cells, mcells]
          obtain ⟨w4, hw4e⟩ : ∃ w4, w4 = makeW size N.T [N.f] := ⟨_, rfl⟩
          rw [← hw4e] at hA hw4 ⊢
          have hO5 := Old.push K4 (.cells [U w4] true)
          have hx5 := HHeap.push_next K4 (.cells [U w4] true)
          have hg5 : (K4.push (.cells [U w4] true)).get K4.next = some (.cells ([w4].map U) true) := get_push_same _
          have hN5 := hN4.old hok4 hO5 hZK4 (fun _ h => h) (fun _ h => .inl h)
          have hlt4 := hN4.lt hok4
          have k6 : Kp Z2 K2 (K4.push (.cells [U w4] true)) := k5.trans (hO5.kp hZK4)
          simp (disch := first | omega | (show allOne _ = true; simp [allOne, Value.oneCell', S]) | (simp only [qz]; first | done | omega)) only [go_sem, hN4.m, hN5.m, ldc_cells, mcells]
          generalize K4.push (.cells [U w4] true) = K5 at *
          refine vm_call hN5 (fun b hb => Nat.lt_of_lt_of_le (hZK2 b hb) k6.next) (hB2.ext k6.ext) hBl N.v hN2.ok.v _ [w4] (by intro x hx; simp at hx; rw [hx]; exact hw4) (by simp) ⟨fun x => False ∨ x = K4.next, Sl.fresh hg5, by simp; omega, by simp; omega, by simp; omega, by simp; omega⟩ N.f hN2.ok.f M' hA _ ?_
          intro H9 h9 k9
          simp (disch := first | omega | (show allOne _ = true; simp [allOne, Value.oneCell', S]) | (simp only [qz]; first | done | omega)) only [go_sem]
          exact hR H9 _ _ _ (h9.less hZZ) (kN2.trans ((k6.trans k9).less hZZ))
    · rw [apply_bad ht hc he] at hA
      cases hA
      simp (disch := first | omega | (show allOne _ = true; simp [allOne, Value.oneCell', S]) | (simp only [qz]; first | done | omega)) only [go_sem]
      refine vm_fail hM0 er _ ?_
      intro k1 k2
      simp (disch := first | omega | (show allOne _ = true; simp [allOne, Value.oneCell', S]) | (simp only [qz]; first | done | omega)) only [go_sem]
      exact hR _ _ _ _ k1 (k0.trans k2)
end
end Go.HL
/-
  Walks: an instruction.
-/
namespace Go.HL
open Go.RowKit Go.Proofs
set_option maxHeartbeats 4000000
set_option maxRecDepth 100000
set_option linter.unusedSimpArgs false
set_option linter.unusedVariables false
/-- What an instruction is taken to be here. -/
def InOk (i : In) : Prop := i.op < 256 ∧ i.a < 1000000 ∧ i.b < 1000000 ∧ i.w < 18446744073709551616 ∧ (i.op = 11 → 1 ≤ i.a) ∧ (i.op = 0 ∨ 12 ≤ i.op → i.a ≤ 255)
section
variable {Z : Zs} {H : HHeap} {p size : Nat} {vb : Value} {g gw gh : Nat} {vn vk va : Value} {M : MS} {B : List Bk}
theorem vm_step (hM : MIn Z H p size vb g gw gh vn vk va M) (hZ : ∀ b, Z b → b < H.next) (hB : Sl rBk Z H vb B) (hBl : B.length < 1000000) (i : In) (hi : InOk i) (hpc : M.pc + 1 < 1000000) (M' : MS) (hS : M.step B size i = some M') (R : Value → HHeap → Prop)
    (hR : ∀ H' g' gw' gh' va', MIn Z H' p size vb g' gw' gh' vn vk va' M' → Kp Z H H' → R (.tuple #[]) H') :
    HCalls Tryz.prog 39 [ptr p 0, insV i] H R := by
  obtain ⟨op, a, b, w⟩ := i
  obtain ⟨o1, o2, o3, o4, o5, o6⟩ := hi
  simp only at o1 o2 o3 o4 o5 o6
  unfold insV
  refine HCalls.ok fun hok => ?_
  refine HCalls.of_hw Tryz.func39 rfl _ Tryz.ntmps39 _ (by rw [Tryz.results39]) ?_
  rw [hframe0_eq _ _ (by simp)]
  simp only [List.zipIdx_cons, List.zipIdx_nil, List.map_cons, List.map_nil, Nat.reduceAdd]
  simp (disch := first | omega | (show allOne _ = true; simp [allOne, Value.oneCell', S]) | (simp only [qz]; first | done | omega)) only [go_sem, hbox_agg]
  have hO0 := Old.push H (.cells [.int .u8 (op : Nat), I (a : Nat), I (b : Nat), U w] true)
  have hx0 : (H.push (.cells [.int .u8 (op : Nat), I (a : Nat), I (b : Nat), U w] true)).next = H.next + 1 := HHeap.push_next _ _
  have hg0 : (H.push (.cells [.int .u8 (op : Nat), I (a : Nat), I (b : Nat), U w] true)).get H.next = some (.cells [.int .u8 (op : Nat), I (a : Nat), I (b : Nat), U w] true) := get_push_same _
  generalize H.push (.cells [.int .u8 (op : Nat), I (a : Nat), I (b : Nat), U w] true) = H0 at *
  have hM0' : MIn (fun x => Z x ∨ x = H.next) H0 p size vb g gw gh vn vk va M := hM.old hok hO0 hZ (fun _ h => .inl h) (fun x h => by rcases h with h | h; exact .inl h; exact .inr (by omega))
  have hZ0 : ∀ b, Z b → b < H0.next := fun b hb => by have := hZ b hb; omega
  have hpn : p ≠ H.next := fun h => hM0'.zp.1 (.inr h)
  have hM0 := hM0'.less (Z := Z) fun _ h => .inl h
  have k0 : Kp Z H H0 := hO0.kp hZ
  have hB0 := hB.ext k0.ext
  clear hM0'
  have hop : op = 1 ∨ op = 2 ∨ op = 3 ∨ op = 4 ∨ op = 5 ∨ op = 6 ∨ op = 7 ∨ op = 8 ∨ (op = 9 ∧ M.v = 10) ∨ (op = 9 ∧ ¬ M.v = 10) ∨ op = 10 ∨ op = 11 ∨ op = 12 ∨ op = 13 ∨ op = 14 ∨ op = 15 ∨ op = 16 ∨ (op = 0 ∨ 17 ≤ op) := by omega
  rcases hop with rfl | rfl | rfl | rfl | rfl | rfl | rfl | rfl | ⟨rfl, hv⟩ | ⟨rfl, hv⟩ | rfl | rfl | rfl | rfl | rfl | rfl | rfl | hop
  · -- 1
    have e : some { M with v := w, pc := M.pc + 1 } = some M' := hS
    cases e
    simp (disch := first | omega | (show allOne _ = true; simp [allOne, Value.oneCell', S]) | (simp only [qz]; first | done | omega)) only [go_sem, hM0.m, hg0, ldc_cells, mcells, stc_cells, set_set]
    exact hR _ _ _ _ _ (hM0.put (M' := { M with v := w, pc := M.pc + 1 }) rfl rfl rfl rfl ⟨o4, hM0.ok.e, hM0.ok.s, hM0.ok.f, hM0.ok.nm, hM0.ok.ask, hM0.ok.bl, hpc, hM0.ok.nml, hM0.ok.kpl, hM0.ok.askl⟩) (k0.trans (Kp.set hM0.zp.1))
  · -- 2
    have e : some (M.loc 2 a b) = some M' := hS
    cases e
    simp (disch := first | omega | (show allOne _ = true; simp [allOne, Value.oneCell', S]) | (simp only [qz]; first | done | omega)) only [go_sem, hg0, ldc_cells]
    refine vm_local hM0 2 a b (by omega) o2 o3 hpc _ ?_
    intro H1 h1 k1
    simp (disch := first | omega | (show allOne _ = true; simp [allOne, Value.oneCell', S]) | (simp only [qz]; first | done | omega)) only [go_sem]
    exact hR _ _ _ _ _ h1 (k0.trans k1)
  · -- 3
    have e : some (M.name 3 a) = some M' := hS
    cases e
    simp (disch := first | omega | (show allOne _ = true; simp [allOne, Value.oneCell', S]) | (simp only [qz]; first | done | omega)) only [go_sem, hg0, ldc_cells]
    refine vm_name hM0 3 a (by omega) o2 hpc _ ?_
    intro H1 h1 k1
    simp (disch := first | omega | (show allOne _ = true; simp [allOne, Value.oneCell', S]) | (simp only [qz]; first | done | omega)) only [go_sem]
    exact hR _ _ _ _ _ h1 (k0.trans k1)
  · -- 4
    have e : some (M.loc 4 a b) = some M' := hS
    cases e
    simp (disch := first | omega | (show allOne _ = true; simp [allOne, Value.oneCell', S]) | (simp only [qz]; first | done | omega)) only [go_sem, hg0, ldc_cells]
    refine vm_local hM0 4 a b (by omega) o2 o3 hpc _ ?_
    intro H1 h1 k1
    simp (disch := first | omega | (show allOne _ = true; simp [allOne, Value.oneCell', S]) | (simp only [qz]; first | done | omega)) only [go_sem]
    exact hR _ _ _ _ _ h1 (k0.trans k1)
  · -- 5
    have e : some (M.name 5 a) = some M' := hS
    cases e
    simp (disch := first | omega | (show allOne _ = true; simp [allOne, Value.oneCell', S]) | (simp only [qz]; first | done | omega)) only [go_sem, hg0, ldc_cells]
    refine vm_name hM0 5 a (by omega) o2 hpc _ ?_
    intro H1 h1 k1
    simp (disch := first | omega | (show allOne _ = true; simp [allOne, Value.oneCell', S]) | (simp only [qz]; first | done | omega)) only [go_sem]
    exact hR _ _ _ _ _ h1 (k0.trans k1)
  · -- 6
    have e : some (M.name 6 a) = some M' := hS
    cases e
    simp (disch := first | omega | (show allOne _ = true; simp [allOne, Value.oneCell', S]) | (simp only [qz]; first | done | omega)) only [go_sem, hg0, ldc_cells]
    refine vm_name hM0 6 a (by omega) o2 hpc _ ?_
    intro H1 h1 k1
    simp (disch := first | omega | (show allOne _ = true; simp [allOne, Value.oneCell', S]) | (simp only [qz]; first | done | omega)) only [go_sem]
    exact hR _ _ _ _ _ h1 (k0.trans k1)
  · -- 7
    have e : some (M.makes size ⟨7, a, b, w⟩) = some M' := hS
    cases e
    simp (disch := first | omega | (show allOne _ = true; simp [allOne, Value.oneCell', S]) | (simp only [qz]; first | done | omega)) only [go_sem, hg0, ldc_cells, lda_cells]
    refine vm_makes hM0 hZ0 ⟨7, a, b, w⟩ (by simp) o2 hpc _ ?_
    intro H1 g1 gw1 gh1 h1 k1
    simp (disch := first | omega | (show allOne _ = true; simp [allOne, Value.oneCell', S]) | (simp only [qz]; first | done | omega)) only [go_sem]
    exact hR _ _ _ _ _ h1 (k0.trans k1)
  · -- 8
    have e : some { M with pc := a } = some M' := hS
    cases e
    simp (disch := first | omega | (show allOne _ = true; simp [allOne, Value.oneCell', S]) | (simp only [qz]; first | done | omega)) only [go_sem, hM0.m, hg0, ldc_cells, mcells, stc_cells, set_set]
    exact hR _ _ _ _ _ (hM0.put (M' := { M with pc := a }) rfl rfl rfl rfl ⟨hM0.ok.v, hM0.ok.e, hM0.ok.s, hM0.ok.f, hM0.ok.nm, hM0.ok.ask, hM0.ok.bl, o2, hM0.ok.nml, hM0.ok.kpl, hM0.ok.askl⟩) (k0.trans (Kp.set hM0.zp.1))
  · -- 9
    have e : some { M with pc := if M.v = 10 then a else M.pc + 1 } = some M' := hS
    rw [if_pos hv] at e
    cases e
    simp (disch := first | omega | (show allOne _ = true; simp [allOne, Value.oneCell', S]) | (simp only [qz]; first | done | omega)) only [go_sem, hM0.m, hg0, ldc_cells, mcells, stc_cells, set_set, hv, get_set_ne]
    have := hR _ _ _ _ _ (hM0.put (M' := { M with pc := a }) rfl rfl rfl rfl ⟨hM0.ok.v, hM0.ok.e, hM0.ok.s, hM0.ok.f, hM0.ok.nm, hM0.ok.ask, hM0.ok.bl, o2, hM0.ok.nml, hM0.ok.kpl, hM0.ok.askl⟩) (k0.trans (Kp.set hM0.zp.1))
    unfold mcells at this
    simp only [hv] at this
    exact this
  · -- 9
    have e : some { M with pc := if M.v = 10 then a else M.pc + 1 } = some M' := hS
    rw [if_neg hv] at e
    cases e
    simp (disch := first | omega | (show allOne _ = true; simp [allOne, Value.oneCell', S]) | (simp only [qz]; first | done | omega)) only [go_sem, hM0.m, hg0, ldc_cells, mcells, stc_cells, set_set, get_set_ne]
    exact hR _ _ _ _ _ (hM0.put (M' := { M with pc := M.pc + 1 }) rfl rfl rfl rfl ⟨hM0.ok.v, hM0.ok.e, hM0.ok.s, hM0.ok.f, hM0.ok.nm, hM0.ok.ask, hM0.ok.bl, hpc, hM0.ok.nml, hM0.ok.kpl, hM0.ok.askl⟩) (k0.trans (Kp.set hM0.zp.1))
  · -- 10
    have e : some (M.makes size ⟨10, a, b, w⟩) = some M' := hS
    cases e
    simp (disch := first | omega | (show allOne _ = true; simp [allOne, Value.oneCell', S]) | (simp only [qz]; first | done | omega)) only [go_sem, hg0, ldc_cells, lda_cells]
    refine vm_makes hM0 hZ0 ⟨10, a, b, w⟩ (by simp) o2 hpc _ ?_
    intro H1 g1 gw1 gh1 h1 k1
    simp (disch := first | omega | (show allOne _ = true; simp [allOne, Value.oneCell', S]) | (simp only [qz]; first | done | omega)) only [go_sem]
    exact hR _ _ _ _ _ h1 (k0.trans k1)
  · -- 11
    have e : some (M.prim size a b) = some M' := hS
    cases e
    simp (disch := first | omega | (show allOne _ = true; simp [allOne, Value.oneCell', S]) | (simp only [qz]; first | done | omega)) only [go_sem, hg0, ldc_cells]
    refine vm_prim hM0 hZ0 a b (o5 rfl) o2 o3 hpc _ ?_
    intro H1 g1 gw1 gh1 va1 h1 k1
    simp (disch := first | omega | (show allOne _ = true; simp [allOne, Value.oneCell', S]) | (simp only [qz]; first | done | omega)) only [go_sem]
    exact hR _ _ _ _ _ h1 (k0.trans k1)
  · -- 12
    have e : M.apply B size a false false = some M' := hS
    simp (disch := first | omega | (show allOne _ = true; simp [allOne, Value.oneCell', S]) | (simp only [qz]; first | done | omega)) only [go_sem, hg0, ldc_cells]
    refine vm_apply_ff hM0 hZ0 hB0 hBl a (o6 (by omega)) hpc M' e _ ?_
    intro H1 g1 gw1 gh1 h1 k1
    simp (disch := first | omega | (show allOne _ = true; simp [allOne, Value.oneCell', S]) | (simp only [qz]; first | done | omega)) only [go_sem]
    exact hR _ _ _ _ _ h1 (k0.trans k1)
  · -- 13
    have e : M.apply B size a false true = some M' := hS
    simp (disch := first | omega | (show allOne _ = true; simp [allOne, Value.oneCell', S]) | (simp only [qz]; first | done | omega)) only [go_sem, hg0, ldc_cells]
    refine vm_apply_ft hM0 hZ0 hB0 hBl a (o6 (by omega)) hpc M' e _ ?_
    intro H1 g1 gw1 gh1 h1 k1
    simp (disch := first | omega | (show allOne _ = true; simp [allOne, Value.oneCell', S]) | (simp only [qz]; first | done | omega)) only [go_sem]
    exact hR _ _ _ _ _ h1 (k0.trans k1)
  · -- 14
    have e : M.apply B size a true false = some M' := hS
    simp (disch := first | omega | (show allOne _ = true; simp [allOne, Value.oneCell', S]) | (simp only [qz]; first | done | omega)) only [go_sem, hg0, ldc_cells]
    refine vm_apply_tf hM0 hZ0 hB0 hBl a (o6 (by omega)) hpc M' e _ ?_
    intro H1 g1 gw1 gh1 h1 k1
    simp (disch := first | omega | (show allOne _ = true; simp [allOne, Value.oneCell', S]) | (simp only [qz]; first | done | omega)) only [go_sem]
    exact hR _ _ _ _ _ h1 (k0.trans k1)
  · -- 15
    have e : M.apply B size a true true = some M' := hS
    simp (disch := first | omega | (show allOne _ = true; simp [allOne, Value.oneCell', S]) | (simp only [qz]; first | done | omega)) only [go_sem, hg0, ldc_cells]
    refine vm_apply_tt hM0 hZ0 hB0 hBl a (o6 (by omega)) hpc M' e _ ?_
    intro H1 g1 gw1 gh1 h1 k1
    simp (disch := first | omega | (show allOne _ = true; simp [allOne, Value.oneCell', S]) | (simp only [qz]; first | done | omega)) only [go_sem]
    exact hR _ _ _ _ _ h1 (k0.trans k1)
  · -- 16
    have e : some (MS.tell B M) = some M' := hS
    cases e
    simp (disch := first | omega | (show allOne _ = true; simp [allOne, Value.oneCell', S]) | (simp only [qz]; first | done | omega)) only [go_sem, hg0, ldc_cells]
    refine vm_tell hM0 hB0 hBl _ ?_
    intro H1 h1 k1
    simp (disch := first | omega | (show allOne _ = true; simp [allOne, Value.oneCell', S]) | (simp only [qz]; first | done | omega)) only [go_sem]
    exact hR _ _ _ _ _ h1 (k0.trans k1)
  · -- 0
    have e : M.apply B size a false false = some M' := by
      unfold MS.step at hS
      simp only at hS
      rw [if_neg (by omega), if_neg (by omega), if_neg (by omega), if_neg (by omega), if_neg (by omega), if_neg (by omega), if_neg (by omega), if_neg (by omega), decide_eq_false (by omega), decide_eq_false (by omega)] at hS
      exact hS
    simp (disch := first | omega | (show allOne _ = true; simp [allOne, Value.oneCell', S]) | (simp only [qz]; first | done | omega)) only [go_sem, hg0, ldc_cells]
    rw [decide_eq_false (show ¬ (op : Int) = 15 by omega)]
    refine vm_apply_ff hM0 hZ0 hB0 hBl a (o6 (by omega)) hpc M' e _ ?_
    intro H1 g1 gw1 gh1 h1 k1
    simp (disch := first | omega | (show allOne _ = true; simp [allOne, Value.oneCell', S]) | (simp only [qz]; first | done | omega)) only [go_sem]
    exact hR _ _ _ _ _ h1 (k0.trans k1)
end
end Go.HL
/-
  Walks: a machine goes on.
-/
namespace Go.HL
open Go.RowKit Go.Proofs
set_option maxHeartbeats 4000000
set_option maxRecDepth 100000
set_option linter.unusedSimpArgs false
set_option linter.unusedVariables false
section
variable {Z : Zs} {H : HHeap} {p size : Nat} {vb : Value} {g gw gh : Nat} {vn vk va : Value} {M : MS} {B : List Bk}
theorem vm_State (hM : MIn Z H p size vb g gw gh vn vk va M) (R : Value → HHeap → Prop) (hR : R (I (M.st : Nat)) H) : HCalls Tryz.prog 11 [ptr p 0] H R := by
  refine HCalls.of_hw Tryz.func11 rfl _ Tryz.ntmps11 _ (by rw [Tryz.results11]) ?_
  rw [hframe0_eq _ _ (by simp)]
  simp only [List.zipIdx_cons, List.zipIdx_nil, List.map_cons, List.map_nil, Nat.reduceAdd]
  simp (disch := first | omega | (show allOne _ = true; simp [allOne, Value.oneCell', S]) | (simp only [qz]; first | done | omega)) only [go_sem, hM.m, ldc_cells, mcells]
  exact hR
theorem vm_calls (op : Nat) (H : HHeap) (R : Value → HHeap → Prop) (hR : R (.bool (callsF op)) H) : HCalls Tryz.prog 38 [.int .u8 (op : Nat)] H R := by
  unfold callsF at hR
  refine HCalls.of_hw Tryz.func38 rfl _ Tryz.ntmps38 _ (by rw [Tryz.results38]) ?_
  rw [hframe0_eq _ _ (by simp)]
  simp only [List.zipIdx_cons, List.zipIdx_nil, List.map_cons, List.map_nil, Nat.reduceAdd]
  have h : op < 12 ∨ (12 ≤ op ∧ op ≤ 15) ∨ 15 < op := by omega
  rcases h with h | h | h
  · rw [decide_eq_false (by omega)] at hR
    simp (disch := first | omega | (show allOne _ = true; simp [allOne, Value.oneCell', S]) | (simp only [qz]; first | done | omega)) only [go_sem]
    exact hR
  · rw [decide_eq_true (by omega)] at hR
    simp (disch := first | omega | (show allOne _ = true; simp [allOne, Value.oneCell', S]) | (simp only [qz]; first | done | omega)) only [go_sem]
    rw [decide_eq_true (by omega)]
    exact hR
  · rw [decide_eq_false (by omega)] at hR
    simp (disch := first | omega | (show allOne _ = true; simp [allOne, Value.oneCell', S]) | (simp only [qz]; first | done | omega)) only [go_sem]
    rw [decide_eq_false (by omega)]
    exact hR
/-- An instruction in a heap. -/
theorem ins_at {v : Value} {l : List In} (h : Sl rIns Z H v l) {i : Nat} {x : In} (hx : l[i]? = some x) :
    ∃ b o k c cs rw, v = .slice (some ⟨b, o, k⟩) l.length c ∧ Z b ∧ H.get b = some (.cells cs rw) ∧ o + i * 4 + 4 ≤ cs.length ∧ (cs.drop (o + i * 4)).take 4 = [.int .u8 (x.op : Nat), I (x.a : Nat), I (x.b : Nat), U x.w] := by
  obtain ⟨b, o, k, c, cs, rw, h1, h2, h3, h4, h5, _⟩ := h.at hx
  have hi := (List.getElem?_eq_some_iff.1 hx).1
  have h4' : o + l.length * 4 ≤ cs.length := h4
  exact ⟨b, o, k, c, cs, rw, h1, h2, h3, by omega, h5⟩
def BOk (B : List Bk) : Prop := ∀ b ∈ B, ∀ i ∈ b.l, InOk i
theorem vm_Run (hM : MIn Z H p size vb g gw gh vn vk va M) (hZ : ∀ b, Z b → b < H.next) (hB : Sl rBk Z H vb B) (hBl : B.length < 1000000) (hBok : BOk B) (fuel n : Nat) (hf : fuel ≤ 1048576) (left : Nat) (M' : MS) (hr : MS.run B size n fuel M = some (left, M')) (R : Value → HHeap → Prop)
    (hR : ∀ H' g' gw' gh' va', MIn Z H' p size vb g' gw' gh' vn vk va' M' → Kp Z H H' → R (I (left : Nat)) H') :
    HCalls Tryz.prog 9 [ptr p 0, I (fuel : Nat)] H R := by
  refine HCalls.of_hw Tryz.func9 rfl _ Tryz.ntmps9 _ (by rw [Tryz.results9]) ?_
  rw [hframe0_eq _ _ (by simp)]
  simp only [List.zipIdx_cons, List.zipIdx_nil, List.map_cons, List.map_nil, Nat.reduceAdd]
  simp (disch := first | omega | (show allOne _ = true; simp [allOne, Value.oneCell', S]) | (simp only [qz]; first | done | omega)) only [go_sem]
  refine Hwp.loop (fun n fr K => ∃ (f : Nat) (N : MS) (g gw gh : Nat) (va : Value), f ≤ fuel ∧ MIn Z K p size vb g gw gh vn vk va N ∧ Kp Z H K ∧ MS.run B size n f N = some (left, M') ∧ FLe (hfr 41 [(5, I (f : Nat)), (0, ptr p 0)]) fr) n ?_ ?_
  · exact ⟨fuel, M, g, gw, gh, va, Nat.le_refl _, hM, Kp.refl _ _, hr, fle_of (by simp [flook])⟩
  rintro n fr K ⟨f, N, g, gw, gh, va, hff, hN, kN, hrun, hle⟩
  refine Hwp.weaken hle (HW.sound _ _ _ _ ?_)
  cases n with
  | zero => cases hrun
  | succ n =>
  rw [MS.run] at hrun
  simp (disch := first | omega | (show allOne _ = true; simp [allOne, Value.oneCell', S]) | (simp only [qz]; first | done | omega)) only [go_sem]
  refine vm_State hN _ ?_
  have hst : N.st = 1 ∨ ¬ N.st = 1 := by omega
  rcases hst with hst | hst
  · rw [if_pos hst] at hrun
    cases hi : insAt B N.bl N.pc with
    | none => rw [hi] at hrun; cases hrun
    | some i =>
    rw [hi] at hrun
    simp only at hrun
    simp (disch := first | omega | (show allOne _ = true; simp [allOne, Value.oneCell', S]) | (simp only [qz]; first | done | omega)) only [go_sem, hst]
    have hok : ∀ x, B[N.bl]? = some x → x.l[N.pc]? = some i := by
      intro x hx
      unfold insAt at hi
      rw [hx] at hi
      exact hi
    obtain ⟨x, hx⟩ : ∃ x, B[N.bl]? = some x := by
      unfold insAt at hi
      cases hx : B[N.bl]? with
      | none => rw [hx] at hi; cases hi
      | some x => exact ⟨x, rfl⟩
    have hxi := hok x hx
    have hiok := hBok x (List.mem_of_getElem? hx) i (List.mem_of_getElem? hxi)
    have hBK := hB.ext kN.ext
    obtain ⟨bb, o, k, c, cs, rw, v, rfl, zb, h3, h4, h5, h6, h7, h8⟩ := bk_at hBK hx
    obtain ⟨b2, o2, k2, c2, cs2, rw2, rfl, zb2, i3, i4, i5⟩ := ins_at h6 hxi
    have hpl := (List.getElem?_eq_some_iff.1 hxi).1
    have hbl := (List.getElem?_eq_some_iff.1 hx).1
    have hpc : N.pc + 1 < 1000000 := by omega
    have hZK : ∀ b, Z b → b < K.next := fun b hb => Nat.lt_of_lt_of_le (hZ b hb) kN.next
    refine Hwp.ok fun hokK => ?_
    have hb1 := hZK _ zb
    have hb2 := hZK _ zb2
    have hb3 := (hN.lt hokK).1
    refine Hwp.drawn mixed [0, 1, 3, 7, 0, 16, 48, 112, 255, 511, 1023, 0, 2048, 6144, 14336, 32767, 65535, 0, 262143] (.op 0 (.op 1 (.op 2 (.op 3 (.op 4 (.op 5 (.op 6 (.op 7 (.op 8 (.op 9 (.op 10 (.op 11 (.op 12 (.op 13 (.op 14 (.op 15 (.op 16 (.eff 17 (.eff 18 .done .stop) .stop)))))))))))))))))) (by kernel_rfl) ?_
    simp (disch := first | omega | (show allOne _ = true; simp [allOne, Value.oneCell', S]) | (simp only [qz]; first | done | omega)) only [go_sem, hN.m, ldc_cells, mcells, h3, ixa_ok, h5, i3, lda_cells, i5, get_push_same, get_set_same, sta_cells, get_push_ne, get_set_ne]
    have hO1 := Old.push_set K (.cells [.int .u8 0, .int .i64 0, .int .i64 0, .int .u64 0] true) (.cells [.int .u8 (i.op : Nat), I (i.a : Nat), I (i.b : Nat), U i.w] true)
    have hg1 : ((K.push (.cells [.int .u8 0, .int .i64 0, .int .i64 0, .int .u64 0] true)).set K.next (.cells [.int .u8 (i.op : Nat), I (i.a : Nat), I (i.b : Nat), U i.w] true)).get K.next = some (.cells [.int .u8 (i.op : Nat), I (i.a : Nat), I (i.b : Nat), U i.w] true) := get_set_same _ _
    generalize (K.push (.cells [.int .u8 0, .int .i64 0, .int .i64 0, .int .u64 0] true)).set K.next (.cells [.int .u8 (i.op : Nat), I (i.a : Nat), I (i.b : Nat), U i.w] true) = K1 at *
    have hN1 := hN.old hokK hO1 hZK (fun _ h => h) (fun _ h => .inl h)
    have hZ1 : ∀ b, Z b → b < K1.next := fun b hb => Nat.lt_of_lt_of_le (hZK b hb) hO1.1
    refine vm_calls i.op _ _ ?_
    cases hcf : callsF i.op with
    | true =>
      rw [hcf, if_pos rfl] at hrun
      have hf0 : f = 0 ∨ ¬ f = 0 := by omega
      rcases hf0 with hf0 | hf0
      · rw [if_pos hf0] at hrun
        cases hrun
        subst hf0
        simp (disch := first | omega | (show allOne _ = true; simp [allOne, Value.oneCell', S]) | (simp only [qz]; first | done | omega)) only [go_sem]
        exact hR K1 _ _ _ _ hN1 (kN.trans (hO1.kp hZK))
      rw [if_neg hf0] at hrun
      cases hs : N.step B size i with
      | none => rw [hs] at hrun; cases hrun
      | some N2 =>
      rw [hs] at hrun
      have hrun' : MS.run B size n (f - 1) N2 = some (left, M') := hrun
      simp (disch := first | omega | (show allOne _ = true; simp [allOne, Value.oneCell', S]) | (simp only [qz]; first | done | omega)) only [go_sem, hg1, ldc_cells, lda_cells]
      refine vm_step hN1 hZ1 (hB.ext (kN.trans (hO1.kp hZK)).ext) hBl i hiok hpc N2 hs _ ?_
      intro K2 g2 gw2 gh2 va2 hN2 k2
      simp (disch := first | omega | (show allOne _ = true; simp [allOne, Value.oneCell', S]) | (simp only [qz]; first | done | omega)) only [go_sem]
      exact ⟨n, by omega, f - 1, N2, g2, gw2, gh2, va2, by omega, hN2, kN.trans ((hO1.kp hZK).trans k2), hrun', fle_of (by simp [flook]; omega)⟩
    | false =>
      rw [hcf, if_neg (by simp)] at hrun
      cases hs : N.step B size i with
      | none => rw [hs] at hrun; cases hrun
      | some N2 =>
      rw [hs] at hrun
      have hrun' : MS.run B size n (f) N2 = some (left, M') := hrun
      simp (disch := first | omega | (show allOne _ = true; simp [allOne, Value.oneCell', S]) | (simp only [qz]; first | done | omega)) only [go_sem, hg1, ldc_cells, lda_cells]
      refine vm_step hN1 hZ1 (hB.ext (kN.trans (hO1.kp hZK)).ext) hBl i hiok hpc N2 hs _ ?_
      intro K2 g2 gw2 gh2 va2 hN2 k2
      simp (disch := first | omega | (show allOne _ = true; simp [allOne, Value.oneCell', S]) | (simp only [qz]; first | done | omega)) only [go_sem]
      exact ⟨n, by omega, f, N2, g2, gw2, gh2, va2, by omega, hN2, kN.trans ((hO1.kp hZK).trans k2), hrun', fle_of (by simp [flook])⟩
  · rw [if_neg hst] at hrun
    cases hrun
    simp (disch := first | omega | (show allOne _ = true; simp [allOne, Value.oneCell', S]) | (simp only [qz]; first | done | omega)) only [go_sem]
    exact hR K _ _ _ _ hN kN
end
end Go.HL
