/-
  What is kept stands for what it stood for, whatever is let go (VmKeeps): for every two rows the law answers true, and they read as before. Condition: the library's tables are laid as its text lays them (tied).
-/
import Derived.Test.YtaghhialaplgoaaGreatDoorPFED
import Derived.Test.YtaghhialaplgoaaGreatDoorPFM27
import Derived.Test.YtaghhialaplgoaaGreatDoorPFQ1
import Derived.Test.YtaghhialaplgoaaGreatDoorPFOB4
import Derived.Test.YtaghhialaplgoaaGreatDoorRows
import Derived.Test.YtaghhialaplgoaaGreatDoorCards
import Derived.Test.YtaghhialaplgoaaGreatDoorTie
import Derived.WalkKit
import Derived.ProofKit
import Derived.OpenShut
import Derived.Lay
import Derived.LaidOnce
import Derived.SevenTiedAt
import Derived.Lib.LaidTab
import Derived.Shelf.Vars
import Derived.JoinedCond
import Derived.Deep.DeepHandedRow
import Derived.Stop.LaidErr
set_option linter.unusedVariables false
set_option linter.unusedSimpArgs false
/-
  VmKeeps: the law's own function, walked.
-/
namespace Go.HL
open Go.Proofs Go.RowKit
set_option maxHeartbeats 4000000
set_option maxRecDepth 1000000
set_option linter.unusedSimpArgs false
set_option linter.unusedVariables false
theorem vm_Arena {Z : Zs} {H : HHeap} {p size : Nat} {vb : Value} {g gw gh : Nat} {vn vk va : Value} {M : MS} (hM : MIn Z H p size vb g gw gh vn vk va M) (R : Value → HHeap → Prop) (hR : R (ptr g 0) H) : HCalls Tryz.prog 11 [ptr p 0] H R := by
  refine HCalls.of_hw Tryz.func11 rfl _ Tryz.ntmps11 _ (by rw [Tryz.results11]) ?_
  rw [hframe0_eq _ _ (by simp)]
  simp only [List.zipIdx_cons, List.zipIdx_nil, List.map_cons, List.map_nil, Nat.reduceAdd]
  simp (disch := first | omega | (show allOne _ = true; simp [allOne, Value.oneCell', S]) | (simp only [qz]; first | done | omega)) only [go_sem, hM.m, ldc_cells, mcells]
  exact hR
theorem ke_walk (a0 a1 : Option Addr) (xs : List Int) (ds : List Bool) (k0 k1 : Nat) (g0 : xs.length ≤ k0) (g1 : ds.length ≤ k1) (z0 : a0 = none → xs.length = 0 ∧ k0 = 0) (z1 : a1 = none → ds.length = 0 ∧ k1 = 0) (hb : ∀ n ∈ xs, -9223372036854775808 ≤ n ∧ n ≤ 9223372036854775807) :
    HCalls Tryz.prog 3 [argV a0 0 xs.length k0, argV a1 1 ds.length k1] (argH (argO xs.length (xs.map fun n => I n)) (argO ds.length (ds.map Value.bool))) fun v' _ => v' = .bool true := by
  obtain ⟨o0, ho0⟩ : ∃ o, o = argO xs.length (xs.map fun n => I n) := ⟨_, rfl⟩
  obtain ⟨o1, ho1⟩ : ∃ o, o = argO ds.length (ds.map Value.bool) := ⟨_, rfl⟩
  have hr0 : RO o0 := by rw [ho0]; unfold argO; split; exact .inl rfl; exact .inr ⟨_, rfl⟩
  have hr1 : RO o1 := by rw [ho1]; unfold argO; split; exact .inl rfl; exact .inr ⟨_, rfl⟩
  have hah : argH o0 o1 = with01 o0 o1 (absH 2 .nil) := (ke_zero o0 o1).symm
  rw [← ho0, ← ho1, hah]
  obtain ⟨v0, hv0⟩ : ∃ v, v = argV a0 0 xs.length k0 := ⟨_, rfl⟩
  obtain ⟨v1, hv1⟩ : ∃ v, v = argV a1 1 ds.length k1 := ⟨_, rfl⟩
  rw [← hv0, ← hv1]
  obtain ⟨e, fr, mm, h, hx, hfl, hM, hZ⟩ := keStart v0 v1 o0 o1
  refine HCalls.of_hwp Tryz.func3 rfl _ Tryz.ntmps3 _ (by rw [Tryz.results3]) ?_
  rw [hframe0_eq _ _ (by simp)]
  simp only [List.zipIdx_cons, List.zipIdx_nil, List.map_cons, List.map_nil, Nat.reduceAdd]
  refine Hwp.cut (hfr 171 [(0, v0), (1, v1)]) (with01 o0 o1 (absH 2 .nil)) (by simp (disch := first | omega | (show allOne _ = true; simp [allOne, Value.oneCell', S]) | (simp only [qz]; first | done | omega)) only [go_sem]; first | exact fle_of (by simp [flook]) | exact ⟨rfl, fle_of (by simp [flook])⟩ | exact ⟨rfl, rfl, fle_of (by simp [flook])⟩) ?_
  refine Hwp.cut (hfr 171 [(0, v0), (1, v1), (5, .bool true)]) (with01 o0 o1 (absH 2 .nil)) ?_ ?_
  · simp (disch := first | omega | (show allOne _ = true; simp [allOne, Value.oneCell', S]) | (simp only [qz]; first | done | omega)) only [go_sem]
    refine shown_true _ _ ?_
    simp (disch := first | omega | (show allOne _ = true; simp [allOne, Value.oneCell', S]) | (simp only [qz]; first | done | omega)) only [go_sem]
    first | exact fle_of (by simp [flook]) | exact ⟨rfl, fle_of (by simp [flook])⟩ | exact ⟨rfl, rfl, fle_of (by simp [flook])⟩
  have key : ∀ (xs : List Code) (c : Code) (Q : Exit → HFrame → HHeap → Prop) (F : HFrame) (K : HHeap), xs = keA → Hwp Tryz.prog (seqs keA c) Q F K → Hwp Tryz.prog (seqs xs c) Q F K := by
    rintro _ c Q F K rfl h
    exact h
  refine key [_, _] _ _ _ _ (by kernel_rfl) ?_
  refine Hwp.weaken (fle_of_abs (l := [(0, v0), (1, v1), (5, .bool true)]) ?_) ?_
  · intro p hp
    simp only [List.mem_cons, List.not_mem_nil, or_false] at hp
    rcases hp with rfl | rfl | rfl
    · exact ⟨pl_ke (by simp), by simp [flook]⟩
    · exact ⟨pl_ke (by simp), by simp [flook]⟩
    · exact ⟨pl_ke (by simp), by simp [flook]⟩
  refine Hwp.seqs01 call2_ok hr0 hr1 keA (fun x hx => List.all_eq_true.1 keA_ord x hx) hx (Nat.le_refl 2) (Tr.at_nil 0) (Tr.at_nil 1) ?_
  refine Hwp.weaken hfl ?_
  clear key hx hfl
  have hq0 : (with01 o0 o1 (absH mm h)).get 0 = o0 := with01_0 _ _ _
  have hq1 : (with01 o0 o1 (absH mm h)).get 1 = o1 := with01_1 _ _ _
  generalize with01 o0 o1 (absH mm h) = H1 at *
  refine HW.sound _ _ _ _ ?_
  obtain ⟨m, hm⟩ : ∃ m, m = min xs.length 40 := ⟨_, rfl⟩
  obtain ⟨ns, hns⟩ : ∃ ns, ns = (xs.take 40).map fun n : Int => n.tmod 1000 := ⟨_, rfl⟩
  obtain ⟨D, hD⟩ : ∃ D, D = (List.range m).map fun k => ds.getD k false := ⟨_, rfl⟩
  have hnl : ns.length = m := by rw [hns, List.length_map, List.length_take, hm, Nat.min_comm]
  have hDl : D.length = m := by rw [hD, List.length_map, List.length_range]
  have hm40 : m ≤ 40 ∧ m ≤ xs.length := by omega
  have hxi : ∀ i, i < m → ∃ n, xs[i]? = some n ∧ ns[i]? = some (n.tmod 1000) ∧ (-9223372036854775808 ≤ n ∧ n ≤ 9223372036854775807) ∧ -1000 < n.tmod 1000 ∧ n.tmod 1000 < 1000 := by
    intro i hi
    have hlt : i < xs.length := by omega
    refine ⟨xs[i], List.getElem?_eq_getElem hlt, ?_, hb _ (List.getElem_mem hlt), Int.lt_tmod_of_pos _ (by omega), Int.tmod_lt_of_pos _ (by omega)⟩
    rw [hns, List.getElem?_map, List.getElem?_take, if_pos (by omega), List.getElem?_eq_getElem hlt]
    rfl
  have hDi : ∀ i, i < m → D[i]? = some (ds.getD i false) := by
    intro i hi
    rw [hD, List.getElem?_map, List.getElem?_range hi]
    rfl
  obtain ⟨s0, hs0⟩ : ∃ s0 : Option Addr, s0 = a0.map fun _ => ⟨0, 0, none⟩ := ⟨_, rfl⟩
  obtain ⟨s1, hs1⟩ : ∃ s1 : Option Addr, s1 = a1.map fun _ => ⟨1, 0, none⟩ := ⟨_, rfl⟩
  have e0 : v0 = .slice s0 xs.length k0 := by rw [hv0, hs0]; rfl
  have e1 : v1 = .slice s1 ds.length k1 := by rw [hv1, hs1]; rfl
  have t0 : 0 < xs.length → s0 = some ⟨0, 0, none⟩ ∧ H1.get 0 = some (.cells (xs.map fun n => I n) false) := by
    intro hp
    cases a0 with
    | none => have := z0 rfl; omega
    | some a => exact ⟨hs0, by rw [hq0, ho0]; unfold argO; rw [if_neg (by omega)]⟩
  have t1 : 0 < ds.length → s1 = some ⟨1, 0, none⟩ ∧ H1.get 1 = some (.cells (ds.map Value.bool) false) := by
    intro hp
    cases a1 with
    | none => have := z1 rfl; omega
    | some a => exact ⟨hs1, by rw [hq1, ho1]; unfold argO; rw [if_neg (by omega)]⟩
  have hmin : hmin2 (I (xs.length : Nat)) (I 40) = some (I (m : Nat)) := by
    show some (Value.int .i64 (if (40 : Int) < (xs.length : Nat) then 40 else (xs.length : Nat))) = _
    congr 2
    split <;> omega
  have hsl0 : hslice Tryz.prog 22 (.slice s0 xs.length k0) none (some (I (m : Nat))) none = some (.slice s0 m k0) := by
    cases a0 with
    | none =>
      obtain ⟨q1, q2⟩ := z0 rfl
      have qm : m = 0 := by omega
      rw [hs0, q1, q2, qm]
      show hslice Tryz.prog 22 (.slice none 0 0) _ _ _ = _
      rw [sln22]
      rfl
    | some a =>
      rw [hs0]
      show hslice Tryz.prog 22 (.slice (some ⟨0, 0, none⟩) _ _) _ _ _ = _
      rw [sl22, slx_hi _ _ _ _ _ _ _ (by omega) (by omega)]
      simp
  subst e0 e1
  clear hv0 hv1 hq0 hq1
  simp (disch := first | omega | (show allOne _ = true; simp [allOne, Value.oneCell', S]) | (simp only [qz]; first | done | omega)) only [go_sem, hmin, hsl0]
  refine Hwp.loop (fun r fr K => ∃ (i : Nat) (g gw gh : Nat) (vk : Value), r = m - i ∧ i ≤ m ∧ MIn keZ K 60 400 keVb g gw gh keVn vk (.slice none 0 0) (keM (ns.take i) (List.replicate i false)) ∧ Kp keZ H1 K ∧
    FLe (hfr 171 [(46, I (i : Nat)), (45, I (m : Nat)), (44, .slice s0 m k0), (1, .slice s1 ds.length k1), (5, .bool true), (6, ptr 60 0), (8, .slice s0 m k0)]) fr) m ?_ ?_
  · exact ⟨0, _, _, _, _, rfl, by omega, hM, Kp.refl _ _, fle_of (by simp [flook])⟩
  rintro r fr K ⟨i, g, gw, gh, vk, rfl, hi, hN, kN, hle⟩
  refine Hwp.weaken hle (HW.sound _ _ _ _ ?_)
  have hZK : ∀ b, keZ b → b < K.next := fun b hb => Nat.lt_of_lt_of_le (hZ b hb) kN.next
  have hcase : i < m ∨ i = m := by omega
  rcases hcase with hc | hc
  · obtain ⟨n, hx1, hx2, hx3, hx4, hx5⟩ := hxi i hc
    obtain ⟨rfl, hg0⟩ := t0 (by omega)
    have hgK : K.get 0 = some (.cells (xs.map fun n => I n) false) := by rw [kN.keep 0 (.inl rfl)]; exact hg0
    have hcell : (xs.map fun n => I n)[i]? = some (I n) := by rw [List.getElem?_map, hx1]; rfl
    obtain ⟨nr, hnr⟩ : ∃ nr, nr = n.tmod 1000 := ⟨_, rfl⟩
    rw [← hnr] at hx2 hx4 hx5
    have hul : usedOf (keM (ns.take i) (List.replicate i false)).T = 6 * i := by rw [keM_used0, List.length_take]; omega
    simp (disch := first | omega | (show allOne _ = true; simp [allOne, Value.oneCell', S]) | (simp only [qz]; first | done | omega)) only [go_sem, hgK, ixa_ok, ldc_cells, hcell, hint_tmod, ← hnr, shl_wInt]
    refine vm_Cons hN hZK (wInt nr) 2 (wInt_lt _) (by omega) (by rw [hul]; omega) _ ?_
    rw [hul]
    intro K2 g2 gw2 gh2 hN2 k2
    have hZ2 : ∀ b, keZ b → b < K2.next := fun b hb => Nat.lt_of_lt_of_le (hZK b hb) k2.next
    have hul2 : usedOf ((keM (ns.take i) (List.replicate i false)).T ++ [⟨1, [wInt nr, 2]⟩]) = 6 * i + 3 := by rw [usedOf_append, hul]; rfl
    simp (disch := first | omega | (show allOne _ = true; simp [allOne, Value.oneCell', S]) | (simp only [qz]; first | done | omega)) only [go_sem, shl_wInt]
    rw [show (i : Int) * 8 = ((wInt (i : Nat) : Nat) : Int) by unfold wInt; omega]
    refine vm_Cons hN2 hZ2 (wInt (i : Nat)) (wordAt (6 * i)) (wInt_lt _) (by unfold wordAt; omega) (by show usedOf ((keM (ns.take i) (List.replicate i false)).T ++ [⟨1, [wInt nr, 2]⟩]) + 3 ≤ 400; rw [hul2]; omega) _ ?_
    intro K3 g3 gw3 gh3 hN3 k3
    have hN3 : MIn keZ K3 60 400 keVb g3 gw3 gh3 keVn vk (.slice none 0 0) { keM (ns.take i) (List.replicate i false) with T := (kT 0 (ns.take i) ++ [⟨1, [wInt nr, 2]⟩]) ++ [⟨1, [wInt (i : Nat), wordAt (6 * i)]⟩] } := hN3
    have hwo : wordAt (usedOf ({ keM (ns.take i) (List.replicate i false) with T := (keM (ns.take i) (List.replicate i false)).T ++ [⟨1, [wInt nr, 2]⟩] } : MS).T) = wordAt (6 * i + 3) := by
      show wordAt (usedOf ((keM (ns.take i) (List.replicate i false)).T ++ [⟨1, [wInt nr, 2]⟩])) = _
      rw [hul2]
    rw [hwo]
    have hZ3 : ∀ b, keZ b → b < K3.next := fun b hb => Nat.lt_of_lt_of_le (hZ2 b hb) k3.next
    have hkl : (kK 0 (List.replicate i false)).length = i := by rw [kK_len, List.length_replicate]
    simp (disch := first | omega | (show allOne _ = true; simp [allOne, Value.oneCell', S]) | (simp only [qz]; first | done | omega)) only [go_sem]
    refine vm_Keep hN3 hZ3 (wordAt (6 * i + 3)) (by unfold wordAt; omega) (keM_rep_used i) (kK_lt _ 0 (by rw [List.length_replicate]; omega)) (by show (kK 0 (List.replicate i false)).length < 16384; rw [hkl]; omega) _ ?_
    intro K4 vk4 hN4 k4
    have hN5 : MIn keZ K4 60 400 keVb g3 gw3 gh3 keVn vk4 (.slice none 0 0) (keM (ns.take (i + 1)) (List.replicate (i + 1) false)) := by
      rw [← keM_next hx2]
      exact hN4
    have hkl' : ({ keM (ns.take i) (List.replicate i false) with T := (kT 0 (ns.take i) ++ [⟨1, [wInt nr, 2]⟩]) ++ [⟨1, [wInt (i : Nat), wordAt (6 * i)]⟩] } : MS).kp.length = i := hkl
    rw [hkl']
    simp (disch := first | omega | (show allOne _ = true; simp [allOne, Value.oneCell', S]) | (simp only [qz]; first | done | omega)) only [go_sem]
    refine ⟨_, ?_, i + 1, g3, gw3, gh3, vk4, rfl, by omega, hN5, ((kN.trans k2).trans k3).trans k4, fle_of (by simp [flook])⟩
    omega
  · subst hc
    have hnt : ns.take i = ns := List.take_of_length_le (by omega)
    rw [hnt] at hN
    have hN : MIn keZ K 60 400 keVb g gw gh keVn vk (.slice none 0 0) (keM ns (kD D 0)) := by rw [kD_zero, hDl]; exact hN
    simp (disch := first | omega | (show allOne _ = true; simp [allOne, Value.oneCell', S]) | (simp only [qz]; first | done | omega)) only [go_sem]
    refine Hwp.loop (fun r fr K2 => ∃ (j : Nat) (g gw gh : Nat) (vk : Value), r = i - j ∧ j ≤ i ∧ MIn keZ K2 60 400 keVb g gw gh keVn vk (.slice none 0 0) (keM ns (kD D j)) ∧ Kp keZ H1 K2 ∧
      FLe (hfr 171 [(17, I ((D.take j).count false : Nat)), (93, I (j : Nat)), (92, I (i : Nat)), (1, .slice s1 ds.length k1), (5, .bool true), (6, ptr 60 0), (8, .slice s0 i k0)]) fr) i ?_ ?_
    · exact ⟨0, _, _, _, _, rfl, by omega, hN, kN, fle_of (by simp [flook])⟩
    clear hle hN kN
    rintro r fr K ⟨j, g, gw, gh, vk, rfl, hj, hQ, kN, hle⟩
    refine Hwp.weaken hle (HW.sound _ _ _ _ ?_)
    have hZK : ∀ b, keZ b → b < K.next := fun b hb => Nat.lt_of_lt_of_le (hZ b hb) kN.next
    have hcb : (D.take j).count false ≤ 40 := Nat.le_trans List.count_le_length (by rw [List.length_take]; omega)
    have hcase : j < i ∨ j = i := by omega
    rcases hcase with hc | hc
    · have hDj := hDi j hc
      have hcnt : (D.take (j + 1)).count false = (D.take j).count false + if ds.getD j false then 0 else 1 := by
        rw [List.take_add_one, hDj, Option.toList_some, List.count_append]
        cases ds.getD j false <;> simp
      have hkd : ∀ d, D[j]? = some d → (keM ns (kD D j)).kp[j]? = some (wordAt (6 * j + 3), true) := by
        intro d _
        have := kK_at (kD D j) 0 j false (kD_rest (Nat.le_refl j) (by omega))
        rw [Nat.zero_add] at this
        exact this
      have hcs : (j < ds.length ∧ ds[j]? = some true) ∨ (j < ds.length ∧ ds[j]? = some false) ∨ ¬ j < ds.length := by
        by_cases h : j < ds.length
        · cases hd : ds[j] with
          | true => exact .inl ⟨h, by rw [List.getElem?_eq_getElem h, hd]⟩
          | false => exact .inr (.inl ⟨h, by rw [List.getElem?_eq_getElem h, hd]⟩)
        · exact .inr (.inr h)
      rcases hcs with ⟨h1, h2⟩ | ⟨h1, h2⟩ | h1
      · obtain ⟨rfl, hg1⟩ := t1 (by omega)
        have hgK : K.get 1 = some (.cells (ds.map Value.bool) false) := by rw [kN.keep 1 (.inr rfl)]; exact hg1
        have hcell : (ds.map Value.bool)[j]? = some (.bool true) := by rw [List.getElem?_map, h2]; rfl
        have hget : ds.getD j false = true := by rw [List.getD, h2]; rfl
        rw [hget] at hDj hcnt
        simp only [if_true, Nat.add_zero] at hcnt
        simp (disch := first | omega | (show allOne _ = true; simp [allOne, Value.oneCell', S]) | (simp only [qz]; first | done | omega)) only [go_sem, hgK, ixa_ok, ldc_cells, hcell]
        refine vm_Drop hQ j (by omega) _ (hkd _ hDj) _ ?_
        intro K2 hN2 k2
        have hN3 : MIn keZ K2 60 400 keVb g gw gh keVn vk (.slice none 0 0) (keM ns (kD D (j + 1))) := by
          rw [← keM_drop hDj]
          exact hN2
        simp (disch := first | omega | (show allOne _ = true; simp [allOne, Value.oneCell', S]) | (simp only [qz]; first | done | omega)) only [go_sem]
        rw [← hcnt]
        refine ⟨_, ?_, j + 1, g, gw, gh, vk, rfl, by omega, hN3, kN.trans k2, fle_of (by simp [flook])⟩
        omega
      · obtain ⟨rfl, hg1⟩ := t1 (by omega)
        have hgK : K.get 1 = some (.cells (ds.map Value.bool) false) := by rw [kN.keep 1 (.inr rfl)]; exact hg1
        have hcell : (ds.map Value.bool)[j]? = some (.bool false) := by rw [List.getElem?_map, h2]; rfl
        have hget : ds.getD j false = false := by rw [List.getD, h2]; rfl
        rw [hget] at hDj hcnt
        simp only [Bool.false_eq_true, if_false] at hcnt
        simp (disch := first | omega | (show allOne _ = true; simp [allOne, Value.oneCell', S]) | (simp only [qz]; first | done | omega)) only [go_sem, hgK, ixa_ok, ldc_cells, hcell]
        refine ⟨_, ?_, j + 1, g, gw, gh, vk, rfl, by omega, by rw [kD_next hDj]; exact hQ, kN, fle_of (by simp [flook]; omega)⟩
        omega
      · have hget : ds.getD j false = false := by rw [List.getD, List.getElem?_eq_none (by omega)]; rfl
        rw [hget] at hDj hcnt
        simp only [Bool.false_eq_true, if_false] at hcnt
        simp (disch := first | omega | (show allOne _ = true; simp [allOne, Value.oneCell', S]) | (simp only [qz]; first | done | omega)) only [go_sem]
        refine ⟨_, ?_, j + 1, g, gw, gh, vk, rfl, by omega, by rw [kD_next hDj]; exact hQ, kN, fle_of (by simp [flook]; omega)⟩
        omega
    · subst hc
      have hN2 : MIn keZ K 60 400 keVb g gw gh keVn vk (.slice none 0 0) (keM ns D) := by
        rw [show j = D.length by omega, kD_all] at hQ
        exact hQ
      have hDt : D.take j = D := List.take_of_length_le (by omega)
      have hdl : D.length = ns.length := by omega
      obtain ⟨cn, hcn⟩ : ∃ cn, cn = D.count false := ⟨_, rfl⟩
      have hcb2 : cn ≤ 40 := by rw [hcn]; exact Nat.le_trans List.count_le_length (by omega)
      have hlive := keM_live hdl
      have hused := keM_used hdl
      have hct : (D.take j).count false = cn := by rw [hDt, hcn]
      rw [← hcn] at hlive hused
      simp (disch := first | omega | (show allOne _ = true; simp [allOne, Value.oneCell', S]) | (simp only [qz]; first | done | omega)) only [go_sem]
      rw [hct]
      refine HCalls.ok fun hokK => ?_
      refine vm_Live hN2 hZK (by show (0 : Nat) ≤ _; omega) _ ?_
      rw [hlive]
      intro K2 hO2
      have hM2 := hN2.old hokK hO2 hZK (fun _ h => h) (fun _ h => .inl h)
      have k2 := kN.trans (hO2.kp hZK)
      have hZ2 : ∀ b, keZ b → b < K2.next := fun b hb => Nat.lt_of_lt_of_le (hZ b hb) k2.next
      simp (disch := first | omega | (show allOne _ = true; simp [allOne, Value.oneCell', S]) | (simp only [qz]; first | done | omega)) only [go_sem]
      refine vm_Collect hM2 hZ2 _ ?_
      intro K3 g3 gw3 gh3 hM3 k3
      have kk3 := k2.trans k3
      simp (disch := first | omega | (show allOne _ = true; simp [allOne, Value.oneCell', S]) | (simp only [qz]; first | done | omega)) only [go_sem]
      refine vm_Arena hM3 _ ?_
      simp (disch := first | omega | (show allOne _ = true; simp [allOne, Value.oneCell', S]) | (simp only [qz]; first | done | omega)) only [go_sem]
      refine arena_Used _ _ _ _ _ _ hM3.A _ ?_
      rw [hused]
      simp (disch := first | omega | (show allOne _ = true; simp [allOne, Value.oneCell', S]) | (simp only [qz]; first | done | omega)) only [go_sem]
      refine Hwp.loop (fun r fr K2 => ∃ (q : Nat), r = j - q ∧ q ≤ j ∧ MIn keZ K2 60 400 keVb g3 gw3 gh3 keVn vk (.slice none 0 0) ((keM ns D).collect []) ∧ Kp keZ H1 K2 ∧
        FLe (hfr 171 [(128, I (q : Nat)), (127, I (j : Nat)), (126, .slice s0 j k0), (1, .slice s1 ds.length k1), (5, .bool true), (6, ptr 60 0)]) fr) j ?_ ?_
      · exact ⟨0, rfl, by omega, hM3, kk3, fle_of (by simp [flook])⟩
      clear hle hM3 kk3 hM2 hN2 hQ
      rintro r fr K ⟨q, rfl, hq, hM4, kN4, hle⟩
      refine Hwp.weaken hle (HW.sound _ _ _ _ ?_)
      have hZK4 : ∀ b, keZ b → b < K.next := fun b hb => Nat.lt_of_lt_of_le (hZ b hb) kN4.next
      have hcase : q < j ∨ q = j := by omega
      rcases hcase with hc | hc
      · obtain ⟨n, hx1, hx2, hx3, hx4, hx5⟩ := hxi q hc
        obtain ⟨rfl, hg0⟩ := t0 (by omega)
        have hgK0 : K.get 0 = some (.cells (xs.map fun n => I n) false) := by rw [kN4.keep 0 (.inl rfl)]; exact hg0
        have hcell0 : (xs.map fun n => I n)[q]? = some (I n) := by rw [List.getElem?_map, hx1]; rfl
        obtain ⟨nr, hnr⟩ : ∃ nr, nr = n.tmod 1000 := ⟨_, rfl⟩
        rw [← hnr] at hx2 hx4 hx5
        obtain ⟨kt, kf⟩ := keM_kept hdl (by omega) hx2 ⟨by omega, by omega⟩
        have hDq := hDi q hc
        have hktx : (kText (q : Nat) nr == 40 :: (Lib.itoa (q : Nat) ++ [32] ++ Lib.itoa nr ++ [41])) = true := by simp [kText]
        simp (disch := first | omega | (show allOne _ = true; simp [allOne, Value.oneCell', S]) | (simp only [qz]; first | done | omega)) only [go_sem, hgK0, ixa_ok, ldc_cells, hcell0]
        refine vm_Kept hM4 q (by omega) _ ?_
        have hcs : (q < ds.length ∧ ds[q]? = some true) ∨ (q < ds.length ∧ ds[q]? = some false) ∨ ¬ q < ds.length := by
          by_cases h : q < ds.length
          · cases hd : ds[q] with
            | true => exact .inl ⟨h, by rw [List.getElem?_eq_getElem h, hd]⟩
            | false => exact .inr (.inl ⟨h, by rw [List.getElem?_eq_getElem h, hd]⟩)
          · exact .inr (.inr h)
        rcases hcs with ⟨h1, h2⟩ | ⟨h1, h2⟩ | h1
        · obtain ⟨rfl, hg1⟩ := t1 (by omega)
          have hgK : K.get 1 = some (.cells (ds.map Value.bool) false) := by rw [kN4.keep 1 (.inr rfl)]; exact hg1
          have hcell : (ds.map Value.bool)[q]? = some (.bool true) := by rw [List.getElem?_map, h2]; rfl
          have hget : ds.getD q false = true := by rw [List.getD, h2]; rfl
          rw [hget] at hDq
          rw [kt hDq]
          simp (disch := first | omega | (show allOne _ = true; simp [allOne, Value.oneCell', S]) | (simp only [qz]; first | done | omega)) only [go_sem, hgK, ixa_ok, ldc_cells, hcell]
          refine ⟨_, ?_, q + 1, rfl, by omega, hM4, kN4, fle_of (by simp [flook])⟩
          omega
        · obtain ⟨rfl, hg1⟩ := t1 (by omega)
          have hgK : K.get 1 = some (.cells (ds.map Value.bool) false) := by rw [kN4.keep 1 (.inr rfl)]; exact hg1
          have hcell : (ds.map Value.bool)[q]? = some (.bool false) := by rw [List.getElem?_map, h2]; rfl
          have hget : ds.getD q false = false := by rw [List.getD, h2]; rfl
          rw [hget] at hDq
          obtain ⟨w, w1, w2, w3⟩ := kf hDq
          rw [w1]
          simp (disch := first | omega | (show allOne _ = true; simp [allOne, Value.oneCell', S]) | (simp only [qz]; first | done | omega)) only [go_sem, hgK, ixa_ok, ldc_cells, hcell]
          refine vm_Arena hM4 _ ?_
          simp (disch := first | omega | (show allOne _ = true; simp [allOne, Value.oneCell', S]) | (simp only [qz]; first | done | omega)) only [go_sem]
          refine HCalls.ok fun hokK => ?_
          have l1 := itoa_len (q : Nat) (by omega) (by omega)
          have l2 := itoa_len nr (by omega) (by omega)
          refine show_Word 4 w3 hM4.A w2 (by unfold kText; simp only [List.length_append, List.length_cons, List.length_nil]; omega) _ ?_
          intro K5 hO5
          simp (disch := first | omega | (show allOne _ = true; simp [allOne, Value.oneCell', S]) | (simp only [qz]; first | done | omega)) only [go_sem]
          refine ref_Digits (q : Nat) (by omega) (by omega) _ _ ?_
          intro K6 hO6
          simp (disch := first | omega | (show allOne _ = true; simp [allOne, Value.oneCell', S]) | (simp only [qz]; first | done | omega)) only [go_sem, sadd_ok, hint_tmod, ← hnr]
          refine ref_Digits nr (by omega) (by omega) _ _ ?_
          intro K7 hO7
          have hO57 := (hO5.trans hO6).trans hO7
          have hM7 := hM4.old hokK hO57 hZK4 (fun _ h => h) (fun _ h => .inl h)
          simp (disch := first | omega | (show allOne _ = true; simp [allOne, Value.oneCell', S]) | (simp only [qz]; first | done | omega)) only [go_sem, sadd_ok, hktx, Bool.not_true]
          refine ⟨_, ?_, q + 1, rfl, by omega, hM7, kN4.trans (hO57.kp hZK4), fle_of (by simp [flook])⟩
          omega
        · have hget : ds.getD q false = false := by rw [List.getD, List.getElem?_eq_none (by omega)]; rfl
          rw [hget] at hDq
          obtain ⟨w, w1, w2, w3⟩ := kf hDq
          rw [w1]
          simp (disch := first | omega | (show allOne _ = true; simp [allOne, Value.oneCell', S]) | (simp only [qz]; first | done | omega)) only [go_sem]
          refine vm_Arena hM4 _ ?_
          simp (disch := first | omega | (show allOne _ = true; simp [allOne, Value.oneCell', S]) | (simp only [qz]; first | done | omega)) only [go_sem]
          refine HCalls.ok fun hokK => ?_
          have l1 := itoa_len (q : Nat) (by omega) (by omega)
          have l2 := itoa_len nr (by omega) (by omega)
          refine show_Word 4 w3 hM4.A w2 (by unfold kText; simp only [List.length_append, List.length_cons, List.length_nil]; omega) _ ?_
          intro K5 hO5
          simp (disch := first | omega | (show allOne _ = true; simp [allOne, Value.oneCell', S]) | (simp only [qz]; first | done | omega)) only [go_sem]
          refine ref_Digits (q : Nat) (by omega) (by omega) _ _ ?_
          intro K6 hO6
          simp (disch := first | omega | (show allOne _ = true; simp [allOne, Value.oneCell', S]) | (simp only [qz]; first | done | omega)) only [go_sem, sadd_ok, hint_tmod, ← hnr]
          refine ref_Digits nr (by omega) (by omega) _ _ ?_
          intro K7 hO7
          have hO57 := (hO5.trans hO6).trans hO7
          have hM7 := hM4.old hokK hO57 hZK4 (fun _ h => h) (fun _ h => .inl h)
          simp (disch := first | omega | (show allOne _ = true; simp [allOne, Value.oneCell', S]) | (simp only [qz]; first | done | omega)) only [go_sem, sadd_ok, hktx, Bool.not_true]
          refine ⟨_, ?_, q + 1, rfl, by omega, hM7, kN4.trans (hO57.kp hZK4), fle_of (by simp [flook])⟩
          omega
      · subst hc
        simp (disch := first | omega | (show allOne _ = true; simp [allOne, Value.oneCell', S]) | (simp only [qz]; first | done | omega)) only [go_sem]
end Go.HL
/-
  VmKeeps: the row's statement, of what was walked.
-/
namespace Go.Proofs.YtaghhialaplgoaaGreatDoor
open Go.HL Go.RowKit Go.Proofs Go.ChangeShapes Go.WideShapes Go.ChangeAt
set_option maxHeartbeats 4000000
set_option maxRecDepth 1000000
set_option linter.unusedVariables false
theorem k_own : ownKnob Tryz.prog.godebug = none := by kernel_rfl
theorem k_laidOut : laidOutB Tryz.prog = true := by kernel_rfl
theorem k_tabs (W : World) (h : laidMetH Tryz.prog Rows.vmKeepsRow.laid W) (hs : W.ShapedOpen Tryz.prog) : TabsOk W.heap.size W := by
  constructor
  · intro t ht
    rw [show htabs = [(1, (Lib.pow10Tab.map fun z => Value.int .u64 z).toArray)] from rfl, List.mem_singleton] at ht
    subst ht
    rw [MakeChecks.laidMetH_plain _ _ _ (by kernel_rfl)] at h
    have h2 : laidMet Tryz.prog (("internal/strconv.uint64pow10", Lib.tabData .u64 Lib.pow10Tab) :: _) W := h.tail.tail
    have h3 := Lib.tabIs_of_head (P := Tryz.prog) (g := 1) (t := 204) (e := 29) (n := 20) (by kernel_rfl) (by kernel_rfl) (by kernel_rfl) (by kernel_rfl) (by kernel_rfl) (by kernel_rfl) h2
    unfold Lib.TabIs World.var? at h3
    rw [show Tryz.prog.globalNamed "internal/strconv.uint64pow10" = some 1 by kernel_rfl] at h3
    simp only [Option.bind_some] at h3
    split at h3
    · rename_i cs e fz hh
      cases h3
      exact ⟨(Array.getElem?_eq_some_iff.1 hh).1, e, fz, hh⟩
    · cases h3
  · intro g hg
    rw [show hints = [0] from rfl, List.mem_singleton] at hg
    subst hg
    obtain ⟨m, hm⟩ := cell_of_shapedOpen_int (P := Tryz.prog) (g := 0) (t := 3) (zero := #[.int .i64 0]) (k := .i64) hs (of_decide_eq_true (by kernel_rfl)) (by kernel_rfl) rfl (by kernel_rfl) (by kernel_rfl) (by kernel_rfl)
    refine ⟨?_, m, hm⟩
    unfold World.cell? at hm
    split at hm
    · rename_i hh
      exact (Array.getElem?_eq_some_iff.1 hh).1
    · cases hm
theorem ints_of {P : Program} {L : Nat} {H : HHeap} {m : Nat} (he : P.underlying 3 = some (.int .i64)) : ∀ (n : Nat) (cells : List Value), cells.length = n * 1 → (∀ i, i < n → HArg P L H m 3 ((cells.drop (i * 1)).take 1)) → ∃ xs : List Int, xs.length = n ∧ cells = xs.map (fun n => I n) ∧ ∀ n ∈ xs, -9223372036854775808 ≤ n ∧ n ≤ 9223372036854775807
  | 0, cells, hl, _ => ⟨[], rfl, List.eq_nil_of_length_eq_zero (by omega), by simp⟩
  | n + 1, cells, hl, h => by
    obtain ⟨z, h1, h2⟩ := harg_int he (h 0 (by omega))
    cases cells with
    | nil => simp at hl
    | cons v cells =>
      obtain ⟨xs, k1, k2, k3⟩ := ints_of he n cells (by simp at hl; omega) (fun i hi => by
        have := h (i + 1) (by omega)
        rwa [show (i + 1) * 1 = i * 1 + 1 by omega, List.drop_succ_cons] at this)
      have hv : v = I z := by simpa using h1
      exact ⟨z :: xs, by simp [k1], by rw [hv, k2]; rfl, fun x hx => by rcases List.mem_cons.1 hx with rfl | hx; exact bounds_i64 h2; exact k3 x hx⟩
theorem bools_of {P : Program} {L : Nat} {H : HHeap} {m : Nat} (he : P.underlying 4 = some .bool) : ∀ (n : Nat) (cells : List Value), cells.length = n * 1 → (∀ i, i < n → HArg P L H m 4 ((cells.drop (i * 1)).take 1)) → ∃ xs : List Bool, xs.length = n ∧ cells = xs.map Value.bool
  | 0, cells, hl, _ => ⟨[], rfl, List.eq_nil_of_length_eq_zero (by omega)⟩
  | n + 1, cells, hl, h => by
    obtain ⟨z, h1⟩ := harg_bool he (h 0 (by omega))
    cases cells with
    | nil => simp at hl
    | cons v cells =>
      obtain ⟨xs, k1, k2⟩ := bools_of he n cells (by simp at hl; omega) (fun i hi => by
        have := h (i + 1) (by omega)
        rwa [show (i + 1) * 1 = i * 1 + 1 by omega, List.drop_succ_cons] at this)
      have hv : v = .bool z := by simpa using h1
      exact ⟨z :: xs, by simp [k1], by rw [hv, k2]; rfl⟩
theorem k_law (H : HHeap) (hargs : List Value) (h : HArgs Tryz.prog maxLen H [22, 23] hargs) : HCalls Tryz.prog 3 hargs H fun v _ => v = .bool true := by
  match hargs, h with
  | [v0, v1], ⟨h0, h1, _⟩ =>
    obtain ⟨n0, hs0, a0, b0⟩ := h0
    obtain ⟨n1, hs1, a1, b1⟩ := h1
    rw [Tryz.underlying22] at b0
    rw [Tryz.underlying23] at b1
    simp only at b0 b1
    obtain ⟨v, len, cells, m, rfl, hsl, hel⟩ := harg_slice Tryz.underlying22 a0
    obtain ⟨v', len', cells', m', rfl, hsl', hel'⟩ := harg_slice Tryz.underlying23 a1
    cases b0
    cases b1
    rw [show Tryz.prog.cellsOf 3 = 1 by kernel_rfl] at hsl hel
    rw [show Tryz.prog.cellsOf 4 = 1 by kernel_rfl] at hsl' hel'
    obtain ⟨xs, rfl, rfl, hb⟩ := ints_of Tryz.underlying3 len cells hsl.1 hel
    obtain ⟨ds, rfl, rfl⟩ := bools_of Tryz.underlying4 len' cells' hsl'.1 hel'
    refine two_args hsl hsl' (by simp [flat1]) (by simp [flat1]) fun c0 c1 k0 k1 q0 q1 z0 z1 => ?_
    exact ke_walk c0 c1 xs ds k0 k1 q0 q1 z0 z1 hb
theorem k_shaped (os : Os) : ((World.laidAll Tryz.prog os Rows.vmKeepsRow.laid).forCall (fun _ _ => 0) ⟨#[], #[.slice none 0 0, .slice none 0 0], []⟩).Shaped Tryz.prog :=
  World.shaped_of_ZipB (by kernel_rfl) (by kernel_rfl)
theorem k_met (os : Os) : laidMetH Tryz.prog Rows.vmKeepsRow.laid ((World.laidAll Tryz.prog os Rows.vmKeepsRow.laid).forCall (fun _ _ => 0) ⟨#[], #[.slice none 0 0, .slice none 0 0], []⟩).memory := by
  rw [MakeChecks.laidMetH_plain _ _ _ (by kernel_rfl)]; exact laidMet_laidAll _ (by kernel_rfl) (by kernel_rfl)
theorem k_reads (os : Os) {H : Type} (enc : TypeId × Value → H) : ∃ places, DataW.whole enc Tryz.prog ((World.laidAll Tryz.prog os Rows.vmKeepsRow.laid).forCall (fun _ _ => 0) ⟨#[], #[.slice none 0 0, .slice none 0 0], []⟩).memory Tryz.f3.params.toList Rows.vmKeepsSpec.vars false #[Value.slice none 0 0, .slice none 0 0].toList 8 = some ([.nil, .nil], [], places) :=
  ⟨[], by kernel_rfl⟩
theorem k_lifted (os : Os) (started : os.Started) (H : Type) (enc : TypeId × Value → H) (F : Stop.Interp) :
    ReturnsInHanded {} Tryz.checked os 3 .any ((OpenSpec.ofChange Rows.vmKeepsSpec).preRow enc Tryz.prog Tryz.f3 Rows.vmKeepsRow.domain false Rows.vmKeepsRow.laid) (((OpenSpec.ofChange Rows.vmKeepsSpec).at F).post enc Tryz.prog Tryz.f3 false true false false) := by
  obtain ⟨places, hx⟩ := k_reads os enc
  refine returns_said (C := Tryz.checked) (tb := 4) F k_own started (by kernel_rfl) Tryz.func3
    (witness_upto #[.slice none 0 0, .slice none 0 0] (k_shaped os) (by kernel_rfl)
      (OpenSpec.preRow_of_cond 8 hx (by kernel_rfl) (fun k hk => by cases hk) (by kernel_rfl) (k_met os)))
    k_laidOut (by kernel_rfl) (by kernel_rfl) (by kernel_rfl) (by kernel_rfl) Tryz.underlying4 rfl ?_ k_tabs ?_
  · intro ds hl
    rw [Tryz.params3] at hl
    match ds, hl with
    | [d0, d1], _ => rfl
  · intro H hargs hh
    rw [show Tryz.f3.params.toList = [22, 23] by rw [Tryz.params3]] at hh
    exact k_law H hargs hh
theorem k_c1 : Program.inPlace Tryz.prog 3 = Rows.vmKeepsRow.inPlace := by kernel_rfl
theorem k_c2 : Program.unfollowed Tryz.prog 3 = Rows.vmKeepsRow.unfollowed := by kernel_rfl
theorem k_c3 : Program.recurses Tryz.prog 3 = Rows.vmKeepsRow.recurses := by kernel_rfl
theorem k_c4 : Program.varsNamed Tryz.prog 3 = Rows.vmKeepsRow.named := by kernel_rfl
theorem k_c5 : Program.stopsHeard Tryz.prog = true := by kernel_rfl
theorem k_c6 : Program.mayEnter Tryz.prog = true := by kernel_rfl
theorem k_closed : joinedFacts Tryz.prog 3 Tryz.f3 (OpenSpec.ofChange Rows.vmKeepsSpec).bare Rows.vmKeepsRow = true := by
  unfold joinedFacts
  rw [k_c1, k_c2, k_c3, k_c4, k_c5, k_c6]
  kernel_rfl
theorem k_holds : Rows.VmKeepsSaid :=
  OpenClaim.holds_of_cond 3 Tryz.f3 rfl rfl rfl rfl rfl rfl rfl ⟨rfl, rfl, rfl, rfl, rfl⟩ rfl rfl rfl rfl rfl (by kernel_rfl) Tryz.func3 k_closed
    (of_decide_eq_true (by kernel_rfl)) (by unfold Func.isWrapper; first | (rw [if_pos (by decide +kernel)]; kernel_rfl) | (rw [if_neg (by decide +kernel)]; exact ⟨rfl, rfl⟩))
    (fun os started H enc _ F => by rw [OpenClaim.pre_eq_preRow]; exact k_lifted os started H enc F)
end Go.Proofs.YtaghhialaplgoaaGreatDoor
/-
  What is kept stands for what it stood for, whatever is let go (VmKeeps): for every two rows the law answers true, and they read as before. Condition: the library's tables are laid as its text lays them (tied).
-/
namespace Go.Proofs.YtaghhialaplgoaaGreatDoor
open Go.HL Go.RowKit Go.Proofs Go.ChangeShapes Go.WideShapes Go.ChangeAt
set_option maxHeartbeats 4000000
set_option maxRecDepth 1000000
set_option linter.unusedVariables false
theorem k_plain (f : FuncId) (fn : Func) (hf : Tryz.pinned.checked.prog.funcNamed "eddywheel/eddywheellaw13.VmKeeps" = some f) (hfn : Tryz.pinned.checked.prog.funcs[f]? = some fn) :
    true = Tryz.pinned.checked.prog.looks [] ∧ ∀ (j : Nat) t, fn.params[j]? = some t → Tryz.pinned.checked.prog.wantsStandIn t = false := by
  obtain rfl : f = 3 := Option.some.inj ((show Tryz.prog.funcNamed "eddywheel/eddywheellaw13.VmKeeps" = some 3 by kernel_rfl).symm.trans hf) |>.symm
  obtain rfl : fn = Tryz.f3 := (Option.some.inj (Tryz.func3.symm.trans hfn)).symm
  refine ⟨by kernel_rfl, fun j t ht => ?_⟩
  rw [Tryz.params3] at ht
  have hm : t ∈ [22, 23] := by simpa using Array.mem_of_getElem? ht
  have hall : ([22, 23].all fun u => !Tryz.prog.wantsStandIn u) = true := by kernel_rfl
  exact (show Tryz.prog.wantsStandIn t = false by simpa using List.all_eq_true.1 hall t hm)
theorem k_none : Tryz.prog.funcs.any Func.goes = false := by kernel_rfl
theorem k_goes : false = Rows.vmKeepsRow.goesBy Tryz.pinned.checked.prog := by
  have h : ∀ g : FuncId, (Tryz.prog.funcs[g]?).any Func.goes = false := by
    intro g
    cases hg : Tryz.prog.funcs[g]? with
    | none => rfl
    | some fn =>
      have := Array.any_eq_false.1 k_none g (Array.getElem?_eq_some_iff.1 hg).1
      rw [(Array.getElem?_eq_some_iff.1 hg).2] at this
      simpa using this
  have hp : ∀ f, Tryz.prog.goes f = false := by
    intro f
    unfold Program.goes
    rw [k_none, Bool.and_false, Bool.or_false, List.any_eq_false]
    intro g _
    simp [h g]
  show false = ((Tryz.prog.funcNamed _).any Tryz.prog.goes || false)
  rw [Bool.or_false]
  cases Tryz.prog.funcNamed Rows.vmKeepsRow.func with
  | none => rfl
  | some f => exact (hp f).symm
theorem k_main : Tryz.pinned.checked.prog.mainIs = some (true, "9cd56fba04100b07dde72e5cc729b3fae7e0a9ba4502b5f23e368ef4b5c0f210".toList) := by kernel_rfl
theorem k_wf : Rows.vmKeepsRow.wfByText (OpenSpec.ofChange Rows.vmKeepsSpec) = true := by kernel_rfl
theorem keeps_holds : Rows.VmKeepsCardSaid :=
  Claim7.holds_tied_plain_at .later [] [.data, .data, .data, .data, .pinned] true (true, "9cd56fba04100b07dde72e5cc729b3fae7e0a9ba4502b5f23e368ef4b5c0f210") true k_holds (fun _ h => by cases h) k_wf (fun _ h => by cases h) vmKeeps_row_tie rfl ⟨rfl, rfl⟩ k_main rfl k_plain k_goes
#print axioms keeps_holds
end Go.Proofs.YtaghhialaplgoaaGreatDoor
