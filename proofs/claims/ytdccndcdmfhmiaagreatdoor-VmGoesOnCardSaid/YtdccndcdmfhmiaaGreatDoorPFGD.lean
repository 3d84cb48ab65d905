/-
  Joined: GB, GC, M27, GD.
-/
import Derived.Test.YtdccndcdmfhmiaaGreatDoorPFML
import Derived.Test.YtdccndcdmfhmiaaGreatDoorPFU14
import Derived.Test.YtdccndcdmfhmiaaGreatDoorPFM29
import Derived.KernelRfl
import Derived.Test.YtdccndcdmfhmiaaGreatDoorPFGA
import Derived.Test.YtdccndcdmfhmiaaGreatDoorPFM28
set_option linter.unusedVariables false
set_option linter.unusedSimpArgs false
/-
  VmGoesOn: the machine as plain data, round by round. No program in sight.
-/
namespace Go.HL
set_option maxRecDepth 1000000
set_option linter.unusedSimpArgs false
set_option linter.unusedVariables false
def goB : List Bk := [⟨0, [⟨1, 0, 0, 56⟩, ⟨6, 0, 0, 0⟩, ⟨3, 0, 0, 0⟩, ⟨7, 0, 0, 0⟩, ⟨10, 1, 0, 0⟩, ⟨14, 0, 0, 0⟩, ⟨7, 0, 0, 0⟩, ⟨11, 12, 2, 0⟩, ⟨7, 0, 0, 0⟩, ⟨11, 19, 1, 0⟩, ⟨16, 0, 0, 0⟩]⟩, ⟨1, [⟨2, 0, 0, 0⟩, ⟨16, 0, 0, 0⟩]⟩]
def goT0 : Things := [⟨2, [0, 2]⟩, ⟨3, [2]⟩, ⟨1, [56, 2]⟩, ⟨2, [8, 25]⟩, ⟨4, [0, 48, 25, 41, 2]⟩, ⟨5, [89]⟩, ⟨3, [25, 137]⟩, ⟨1, [137, 41]⟩, ⟨1, [56, 137]⟩, ⟨1, [201, 2]⟩]
def goM0 : MS := ⟨goT0, [(56, true)], [(137, true)], 4, 0, 10, 201, 25, 2, 2, 1, 0, []⟩
/-- What is left when all else is let go of. -/
def goT (w : Nat) : Things := [⟨1, [56, w]⟩, ⟨3, [2]⟩, ⟨5, [57]⟩, ⟨4, [0, 48, 25, 105, 2]⟩, ⟨1, [56, 2]⟩]
def goS (w : Nat) : MS := ⟨goT w, [(56, true)], [(41, true)], 4, 0, 10, 1, 25, 2, 2, 1, 0, []⟩
/-- A round: what is begun, and where it asks. -/
def goB1 (w : Nat) : MS := ⟨goT0, [(56, true)], [(137, true)], 1, 0, 6, w, 25, 41, 2, 0, 0, []⟩
def goR1 (w : Nat) : MS := ⟨goT0 ++ [⟨1, [w, 41]⟩] ++ [⟨1, [56, w]⟩] ++ [⟨1, [273, 2]⟩], [(56, true)], [(137, true)], 2, 0, 10, 273, 25, 2, 2, 0, 19, [273]⟩
def goB2 (w w' : Nat) : MS := ⟨goT w, [(56, true)], [(41, true)], 1, 0, 6, w', 25, 105, 2, 0, 0, []⟩
def goR2 (w w' : Nat) : MS := ⟨goT w ++ [⟨1, [w', 105]⟩] ++ [⟨1, [56, w']⟩] ++ [⟨1, [153, 2]⟩], [(56, true)], [(41, true)], 2, 0, 10, 153, 25, 2, 2, 0, 19, [153]⟩
theorem go_begin1 (w : Nat) : goM0.begin goB 400 137 [w] = some (0, goB1 w) := by kernel_rfl
theorem go_begin2 (w w' : Nat) : (goS w).begin goB 400 41 [w'] = some (0, goB2 w w') := by kernel_rfl
theorem go_run1 (w : Nat) : MS.run goB 400 5000 0 (goB1 w) = some (0, goR1 w) := by kernel_rfl
theorem go_run2 (w w' : Nat) : MS.run goB 400 5000 0 (goB2 w w') = some (0, goR2 w w') := by kernel_rfl
/-- Two words put for two. -/
def twoF (w w' : Nat) (y : Nat) : Nat := if y = 800 then w else if y = 808 then w' else y
theorem twoF_soft {w w' : Nat} (h : w % 8 = 0) (h' : w' % 8 = 0) : Soft (twoF w w') where
  fix := fun y hy => by unfold twoF; rw [if_neg (by omega), if_neg (by omega)]
  soft := fun y hy => by unfold twoF; split; omega; split; omega; exact hy
  unit := by unfold twoF; rfl
theorem goR1_re (w : Nat) : (goR1 800).re (twoF w w) = goR1 w := by kernel_rfl
theorem goR2_re (w w' : Nat) : (goR2 800 808).re (twoF w w') = goR2 w w' := by kernel_rfl
def goC (w : Nat) : MS := ⟨goT w, [(56, true)], [(41, true)], 2, 0, 10, 1, 25, 2, 2, 0, 19, [1]⟩
theorem goC_re1 (w : Nat) : (goC 800).re (twoF w w) = goC w := by kernel_rfl
theorem goC_re2 (w w' : Nat) : (goC 808).re (twoF w w') = goC w' := by kernel_rfl
theorem goC1 : (goR1 800).collect [] = goC 800 := by kernel_rfl
theorem goC2 : (goR2 800 808).collect [] = goC 808 := by kernel_rfl
theorem go_collect1 {w : Nat} (h : w % 8 = 0) : (goR1 w).collect [] = goC w := by
  have := collect_re (twoF_soft h h) (goR1 800) []
  rw [goR1_re, goC1, goC_re1] at this
  exact this
theorem go_collect2 {w w' : Nat} (h : w % 8 = 0) (h' : w' % 8 = 0) : (goR2 w w').collect [] = goC w' := by
  have := collect_re (twoF_soft h h') (goR2 800 808) []
  rw [goR2_re, goC2, goC_re2] at this
  exact this
theorem go_fail (w : Nat) : (goC w).failX 1 = (0, goS w) := by kernel_rfl
/-- What is shown. -/
def goText (v : Int) : List UInt8 := [40, 55, 32, 46, 32] ++ Lib.itoa v ++ [41]
theorem itoa7 : Lib.itoa 7 = [55] := by
  unfold Lib.itoa
  rw [if_neg (by omega), Lib.decDigits, dif_pos (by decide)]
  rfl
theorem wInt_mod (v : Int) : wInt v % 8 = 0 := by unfold wInt; omega
theorem pairW_int (T : Things) (v : Int) : pairW T (wInt v) = false := by
  unfold pairW kindN findT
  rw [if_neg (by have := wInt_mod v; omega)]
  simp
theorem go_show {T : Things} {x : Nat} {v : Int} (h : -1099511627776 < v) (h' : v < 1099511627776) (h0 : pairW T x = true) (h1 : gt T x 0 = 56) (h2 : gt T x 1 = wInt v) : showF T 3 true x = some (goText v) := by
  have e56 : (56 : Nat) = wInt 7 := by decide
  have p7 : pairW T 56 = false := by rw [e56]; exact pairW_int T 7
  have t7 : toIntF 56 = some 7 := by rw [e56]; exact toInt_wInt (by omega) (by omega)
  have n2 : wInt v ≠ 2 := by have := wInt_mod v; omega
  have a1 : showF T 2 true 56 = some [55] := by
    rw [showF, if_neg (by simp [p7]), if_pos rfl]
    unfold plainF
    rw [t7]
    simp only [itoa7]
  have a2 : showF T 2 false (wInt v) = some ([32, 46, 32] ++ (Lib.itoa v ++ [41])) := by
    rw [showF, if_neg (by simp [pairW_int]), if_neg (by simp), if_neg n2]
    unfold plainF
    rw [toInt_wInt h h']
    rfl
  rw [showF, if_pos h0, h1, h2, a1, a2]
  simp [goText]
theorem go_show1 {v : Int} (h : -1099511627776 < v) (h' : v < 1099511627776) : showF (goR1 (wInt v)).T 3 true 273 = some (goText v) :=
  go_show h h' (by kernel_rfl) (by kernel_rfl) (by kernel_rfl)
theorem go_show2 {w : Nat} {v : Int} (h : -1099511627776 < v) (h' : v < 1099511627776) : showF (goR2 w (wInt v)).T 3 true 153 = some (goText v) :=
  go_show h h' (by kernel_rfl) (by kernel_rfl) (by kernel_rfl)
theorem goText_len {v : Int} (h : -1099511627776 < v) (h' : v < 1099511627776) : (goText v).length ≤ 26 := by
  have := itoa_len v (by omega) (by omega)
  unfold goText
  simp only [List.length_append, List.length_cons, List.length_nil]
  omega
/-- What a round needs. -/
def goOk (N : MS) : Prop := ∃ c, N.kept 0 = (c, 0) ∧ c < 18446744073709551616 ∧ ∀ v : Int, -1099511627776 < v → v < 1099511627776 → ∃ N1 N2 x, N.begin goB 400 c [wInt v] = some (0, N1) ∧ MS.run goB 400 5000 0 N1 = some (0, N2) ∧ N2.st = 2 ∧ N2.op = 19 ∧ N2.ask = [x] ∧
  x < 18446744073709551616 ∧ showF N2.T 3 true x = some (goText v) ∧ (N2.collect []).failX 1 = (0, goS (wInt v))
theorem goOk_M0 : goOk goM0 := ⟨137, rfl, by omega, fun v h h' => ⟨_, _, 273, go_begin1 _, go_run1 _, rfl, rfl, rfl, by omega, go_show1 h h', by rw [go_collect1 (wInt_mod v), go_fail]⟩⟩
theorem goOk_S {w : Nat} (hw : w % 8 = 0) : goOk (goS w) := ⟨41, rfl, by omega, fun v h h' => ⟨_, _, 153, go_begin2 _ _, go_run2 _ _, rfl, rfl, rfl, by omega, go_show2 h h', by rw [go_collect2 hw (wInt_mod v), go_fail]⟩⟩
end Go.HL
/-
  VmGoesOn, run inside the kernel up to its loop: what is looked at.
-/
namespace Go.HL
open Go.Proofs Go.RowKit
set_option maxRecDepth 1000000
set_option linter.unusedSimpArgs false
set_option linter.unusedVariables false
noncomputable def goChk (x y z : Value) : Option (List (Option Value) × List (Option HObj) × Nat) :=
  KX.rec none (fun _ fr m h => some ([fr.walk (path 0), fr.walk (path 1), fr.walk (path 2), fr.walk (path 7), fr.walk (path 13), fr.walk (path 21), fr.walk (path 23)],
    [h.walk (path 676), h.walk (path 673), h.walk (path 671), h.walk (path 672), h.walk (path 674), h.walk (path 742), h.walk (path 686), h.walk (path 679), h.walk (path 684)], m)) (goX x y z)
def goI1 : List In := match goB with | [a, _] => a.l | _ => []
def goI2 : List In := match goB with | [_, b] => b.l | _ => []
def goVb : Value := .slice (some ⟨686, 0, some 4⟩) 2 2
def goVn : Value := .slice (some ⟨674, 0, none⟩) 1 1
def goVk : Value := .slice (some ⟨742, 0, some 4⟩) 1 1
def goGood (x y z : Value) : Option (List (Option Value) × List (Option HObj) × Nat) :=
  some ([some x, some y, some z, some (.bool true), some (ptr 676 0), some (I (0 : Nat)), some (ptr 744 0)],
    [some (.cells (mcells goVb 673 goVn goVk (.slice none 0 0) goM0) true), some (.cells (acells 671 672 400 goM0.T) true), some (.cells (wcells 400 goM0.T) true), some (.cells (hcells 400 goM0.T) true), some (.cells (scells goM0.nm) true),
      some (.cells (scells goM0.kp) true), some (.cells [I (0 : Nat), .slice (some ⟨679, 0, some 8⟩) 11 11, I (1 : Nat), .slice (some ⟨684, 0, some 8⟩) 2 2] true), some (.cells (icells goI1) true), some (.cells (icells goI2) true)], 747)
theorem goRun (x y z : Value) : goChk x y z = goGood x y z := by kernel_rfl
end Go.HL
/-
  Walks: what is not reached is let go of, from outside. (Not built yet: the seat vm2 does not reach it.)
-/
namespace Go.HL
open Go.RowKit Go.Proofs
set_option maxHeartbeats 4000000
set_option maxRecDepth 100000
set_option linter.unusedSimpArgs false
set_option linter.unusedVariables false
section
variable {Z : Zs} {H : HHeap} {p size : Nat} {vb : Value} {g gw gh : Nat} {vn vk va : Value} {M : MS} {B : List Bk}
theorem vm_Collect (hM : MIn Z H p size vb g gw gh vn vk va M) (hZ : ∀ b, Z b → b < H.next) (R : Value → HHeap → Prop)
    (hR : ∀ H' g' gw' gh', MIn Z H' p size vb g' gw' gh' vn vk va (M.collect []) → Kp Z H H' → R (.tuple #[]) H') :
    HCalls Tryz.prog 20 [ptr p 0] H R := by
  refine HCalls.of_hw Tryz.func20 rfl _ Tryz.ntmps20 _ (by rw [Tryz.results20]) ?_
  rw [hframe0_eq _ _ (by simp)]
  simp only [List.zipIdx_cons, List.zipIdx_nil, List.map_cons, List.map_nil, Nat.reduceAdd]
  simp (disch := first | omega | (show allOne _ = true; simp [allOne, Value.oneCell', S]) | (simp only [qz]; first | done | omega)) only [go_sem]
  refine vm_collect hM hZ _ [] [] (.inl (Gr.nil _ _ _)) (by simp) (by simp [sblk]) .nil (by simp) (by simp) (by simp) _ ?_
  intro H' g' gw' gh' h1 h2 _ _ _
  simp (disch := first | omega | (show allOne _ = true; simp [allOne, Value.oneCell', S]) | (simp only [qz]; first | done | omega)) only [go_sem]
  exact hR H' g' gw' gh' h1 h2
end
end Go.HL
/-
  VmGoesOn: the machine of which a place is kept, out of what was looked at.
-/
namespace Go.HL
open Go.Proofs Go.RowKit
set_option maxHeartbeats 4000000
set_option maxRecDepth 1000000
set_option linter.unusedSimpArgs false
set_option linter.unusedVariables false
def goZ : Zs := fun b => b = 686 ∨ b = 679 ∨ b = 684
def mokB (M : MS) : Bool := decide (M.v < 18446744073709551616) && decide (M.e < 18446744073709551616) && decide (M.s < 18446744073709551616) && decide (M.f < 18446744073709551616) && M.nm.all (fun x => decide (x.1 < 18446744073709551616)) && M.ask.all (fun x => decide (x < 18446744073709551616)) &&
  decide (M.bl < 1000000) && decide (M.pc < 1000000) && decide (M.nm.length ≤ 4096) && decide (M.kp.length ≤ 16384) && decide (M.ask.length ≤ 1000000)
theorem mokB_ok {M : MS} (h : mokB M = true) : MOk M := by
  unfold mokB at h
  simp only [Bool.and_eq_true, decide_eq_true_eq, List.all_eq_true] at h
  obtain ⟨⟨⟨⟨⟨⟨⟨⟨⟨⟨a, b⟩, c⟩, d⟩, e⟩, f⟩, g⟩, i⟩, j⟩, k⟩, l⟩ := h
  exact ⟨a, b, c, d, e, f, g, i, j, k, l⟩
def tokB (T : Things) : Bool := T.all fun t => decide (1 ≤ t.kind) && decide (t.kind ≤ 9) && decide (t.l.length ≤ 255) && t.l.all fun x => decide (x < 18446744073709551616)
theorem tokB_ok {T : Things} (h : tokB T = true) : TOk T := by
  intro t ht
  unfold tokB at h
  have := List.all_eq_true.1 h t ht
  simp only [Bool.and_eq_true, decide_eq_true_eq, List.all_eq_true] at this
  obtain ⟨⟨⟨a, b⟩, c⟩, d⟩ := this
  exact ⟨a, b, c, d⟩
theorem goB_ok : BOk goB := okB_ok (by kernel_rfl)
theorem pl_go : [0, 1, 2, 7, 13, 21, 23, 676, 673, 671, 672, 674, 742, 686, 679, 684].all placed = true := by kernel_rfl
theorem pl_in {b : Nat} (h : b ∈ [0, 1, 2, 7, 13, 21, 23, 676, 673, 671, 672, 674, 742, 686, 679, 684]) : placed b = true := List.all_eq_true.1 pl_go b h
theorem go_begun {H : HHeap}
    (h0 : H.get 676 = some (.cells (mcells goVb 673 goVn goVk (.slice none 0 0) goM0) true))
    (h1 : H.get 673 = some (.cells (acells 671 672 400 goM0.T) true)) (h2 : H.get 671 = some (.cells (wcells 400 goM0.T) true)) (h3 : H.get 672 = some (.cells (hcells 400 goM0.T) true)) (h4 : H.get 674 = some (.cells (scells goM0.nm) true)) (h5 : H.get 742 = some (.cells (scells goM0.kp) true)) :
    MIn goZ H 676 400 goVb 673 671 672 goVn goVk (.slice none 0 0) goM0 where
  m := h0
  A := ⟨h1, h2, h3, by show (31 : Nat) ≤ 400; omega, by omega, by omega, tokB_ok (by kernel_rfl), by omega, by omega, by omega⟩
  nm := ⟨674, rfl, h4⟩
  kp := .inr (.inr ⟨742, _, by show [(137, true)] ≠ []; simp, rfl, by unfold goZ; omega, h5, rfl, fun i x hx => by
    match i, hx with
    | 0, hx => cases hx; exact ⟨rfl, by show (137 : Nat) < _; omega⟩
    | i + 1, hx => exact absurd hx (by show ([(137, true)] : List (Nat × Bool))[i + 1]? ≠ some x; simp)⟩)
  ask := Gr.nil _ _ _
  ok := mokB_ok (by kernel_rfl)
  zp := by
    unfold goZ goVn
    refine ⟨by omega, by omega, by omega, by omega, fun b hb => ?_⟩
    simp [sblk] at hb
    omega
  pg := by omega
  dn := fun b hb => by simp [sblk, goVn] at hb; omega
  dk := fun b hb => by simp [sblk, goVk] at hb; subst hb; simp [sblk, goVn]
  da := fun b hb => by simp [sblk] at hb
theorem goStart (x y z : Value) : ∃ e fr m h, goX x y z = .ok e fr m h ∧ FLe (hfr 176 [(0, x), (1, y), (2, z), (7, .bool true), (13, ptr 676 0), (21, I (0 : Nat)), (23, ptr 744 0)]) (absF 176 fr) ∧
    MIn goZ (absH m h) 676 400 goVb 673 671 672 goVn goVk (.slice none 0 0) goM0 ∧ Sl rBk goZ (absH m h) goVb goB ∧ ∀ b, goZ b → b < (absH m h).next := by
  have hc := goRun x y z
  unfold goChk goGood at hc
  cases hx : goX x y z with
  | bad => rw [hx] at hc; cases hc
  | ok e fr m h =>
    rw [hx] at hc
    simp only [Option.some.injEq, Prod.mk.injEq, List.cons.injEq, and_true] at hc
    obtain ⟨⟨s0, s1, s2, s7, s13, s21, s23⟩, ⟨b0, b1, b2, b3, b4, b5, b6, b7, b8⟩, hm⟩ := hc
    refine ⟨e, fr, m, h, rfl, fle_abs fun p hp => ?_, go_begun (at_of (pl_in (by simp)) b0) (at_of (pl_in (by simp)) b1) (at_of (pl_in (by simp)) b2) (at_of (pl_in (by simp)) b3) (at_of (pl_in (by simp)) b4) (at_of (pl_in (by simp)) b5), ?_, ?_⟩
    · simp only [List.mem_cons, List.not_mem_nil, or_false] at hp
      rcases hp with rfl | rfl | rfl | rfl | rfl | rfl | rfl
      · exact ⟨pl_in (by simp), s0⟩
      · exact ⟨pl_in (by simp), s1⟩
      · exact ⟨pl_in (by simp), s2⟩
      · exact ⟨pl_in (by simp), s7⟩
      · exact ⟨pl_in (by simp), s13⟩
      · exact ⟨pl_in (by simp), s21⟩
      · exact ⟨pl_in (by simp), s23⟩
    · have hb := goB_ok
      exact Sl.two (l1 := goI1) (l2 := goI2) (.inl rfl) (.inr (.inl rfl)) (.inr (.inr rfl)) (at_of (pl_in (by simp)) b6) (at_of (pl_in (by simp)) b7) (at_of (pl_in (by simp)) b8) (fun i hi => hb ⟨0, goI1⟩ (by simp [goB, goI1]) i hi) (fun i hi => hb ⟨1, goI2⟩ (by simp [goB, goI2]) i hi) ⟨by show (11 : Nat) < _; omega, by omega⟩ ⟨by show (2 : Nat) < _; omega, by omega⟩
    · intro b hb
      show b < m
      unfold goZ at hb
      omega
theorem vm_Arena {Z : Zs} {H : HHeap} {p size : Nat} {vb : Value} {g gw gh : Nat} {vn vk va : Value} {M : MS} (hM : MIn Z H p size vb g gw gh vn vk va M) (R : Value → HHeap → Prop) (hR : R (ptr g 0) H) : HCalls Tryz.prog 12 [ptr p 0] H R := by
  refine HCalls.of_hw Tryz.func12 rfl _ Tryz.ntmps12 _ (by rw [Tryz.results12]) ?_
  rw [hframe0_eq _ _ (by simp)]
  simp only [List.zipIdx_cons, List.zipIdx_nil, List.map_cons, List.map_nil, Nat.reduceAdd]
  simp (disch := first | omega | (show allOne _ = true; simp [allOne, Value.oneCell', S]) | (simp only [qz]; first | done | omega)) only [go_sem, hM.m, ldc_cells, mcells]
  exact hR
end Go.HL
