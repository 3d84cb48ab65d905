/-
  Where it goes on, taken and called again, goes on there with another word each time (VmGoesOn): for every three numbers the law answers true, and they read as before. Condition: the library's tables are laid as its text lays them (tied).
-/
import Derived.Test.YtdccndcdmfhmiaaGreatDoorPFGD
import Derived.Test.YtdccndcdmfhmiaaGreatDoorPFQ1
import Derived.Test.YtdccndcdmfhmiaaGreatDoorRows
import Derived.Test.YtdccndcdmfhmiaaGreatDoorCards
import Derived.Test.YtdccndcdmfhmiaaGreatDoorTie
import Derived.WalkKit
import Derived.ProofKit
import Derived.OpenShut
import Derived.Lay
import Derived.LaidOnce
import Derived.SevenTiedAt
import Derived.Lib.LaidTab
import Derived.Shelf.Vars
import Derived.JoinedCond
import Derived.Deep.DeepHandedRow
import Derived.Stop.LaidErr
set_option linter.unusedVariables false
set_option linter.unusedSimpArgs false
/-
  VmGoesOn: the law's own function, walked.
-/
namespace Go.HL
open Go.Proofs Go.RowKit
set_option maxHeartbeats 4000000
set_option maxRecDepth 1000000
set_option linter.unusedSimpArgs false
set_option linter.unusedVariables false
theorem Sl.fresh0 {Z : Zs} {H : HHeap} {b : Nat} {l : List Nat} {rw : Bool} (hz : Z b) (h : H.get b = some (.cells (l.map U) rw)) : Sl rW Z H (.slice (some ⟨b, 0, none⟩) l.length l.length) l :=
  ⟨_, _, rfl, Nat.le_refl _, .inr ⟨b, 0, _, rfl, (by intro q e; cases e), .inr ⟨_, rw, hz, h, by simp; exact Nat.le_of_eq (Nat.mul_one _), fun i x hx => flatW_U _ _ _ _ _ hx⟩⟩⟩
theorem go_walk (a b : Int) (c : Nat) (ha : -32768 ≤ a ∧ a ≤ 32767) (hb : -32768 ≤ b ∧ b ≤ 32767) (hc : c < 256) (H : HHeap) :
    HCalls Tryz.prog 3 [.int .i16 a, .int .i16 b, .int .u8 (c : Nat)] H fun v' H' => v' = .bool true ∧ H' = H := by
  refine HCalls.anywhere (by rfl) (by rfl) ?_ H
  have hz : H0 = absH 0 .nil := by
    unfold absH H0
    congr 1
    funext b
    exact (Tr.at_nil b).symm
  rw [hz]
  clear hz
  obtain ⟨e, fr, mm, h, hx, hfl, hM, hB, hZ⟩ := goStart (.int .i16 a) (.int .i16 b) (.int .u8 (c : Nat))
  refine HCalls.of_hwp Tryz.func3 rfl _ Tryz.ntmps3 _ (by rw [Tryz.results3]) ?_
  rw [hframe0_eq _ _ (by simp)]
  simp only [List.zipIdx_cons, List.zipIdx_nil, List.map_cons, List.map_nil, Nat.reduceAdd]
  refine Hwp.cut (hfr 176 [(0, .int .i16 a), (1, .int .i16 b), (2, .int .u8 (c : Nat))]) (absH 0 .nil) (by simp (disch := first | omega | (show allOne _ = true; simp [allOne, Value.oneCell', S]) | (simp only [qz]; first | done | omega)) only [go_sem]; first | exact fle_of (by simp [flook]) | exact ⟨rfl, fle_of (by simp [flook])⟩ | exact ⟨rfl, rfl, fle_of (by simp [flook])⟩) ?_
  refine Hwp.cut (hfr 176 [(0, .int .i16 a), (1, .int .i16 b), (2, .int .u8 (c : Nat)), (7, .bool true)]) (absH 0 .nil) ?_ ?_
  · simp (disch := first | omega | (show allOne _ = true; simp [allOne, Value.oneCell', S]) | (simp only [qz]; first | done | omega)) only [go_sem]
    refine shown_true _ _ ?_
    simp (disch := first | omega | (show allOne _ = true; simp [allOne, Value.oneCell', S]) | (simp only [qz]; first | done | omega)) only [go_sem]
    first | exact fle_of (by simp [flook]) | exact ⟨rfl, fle_of (by simp [flook])⟩ | exact ⟨rfl, rfl, fle_of (by simp [flook])⟩
  have key : ∀ (xs : List Code) (c : Code) (Q : Exit → HFrame → HHeap → Prop) (F : HFrame) (K : HHeap), xs = goA → Hwp Tryz.prog (seqs goA c) Q F K → Hwp Tryz.prog (seqs xs c) Q F K := by
    rintro _ c Q F K rfl h
    exact h
  refine key [_, _, _, _, _, _, _, _, _, _, _, _, _] _ _ _ _ (by kernel_rfl) ?_
  refine Hwp.weaken (fle_of_abs (l := [(0, .int .i16 a), (1, .int .i16 b), (2, .int .u8 (c : Nat)), (7, .bool true)]) ?_) ?_
  · intro p hp
    simp only [List.mem_cons, List.not_mem_nil, or_false] at hp
    rcases hp with rfl | rfl | rfl | rfl
    · exact ⟨pl_in (by simp), by simp [flook]⟩
    · exact ⟨pl_in (by simp), by simp [flook]⟩
    · exact ⟨pl_in (by simp), by simp [flook]⟩
    · exact ⟨pl_in (by simp), by simp [flook]⟩
  refine Hwp.seqs call2_ok goA (fun x hx => List.all_eq_true.1 goA_ord x hx) hx ?_
  refine Hwp.weaken hfl ?_
  clear key hx hfl
  generalize absH mm h = H1 at *
  have hBl : goB.length < 1000000 := by show (2 : Nat) < _; omega
  have hBok := goB_ok
  refine HW.sound _ _ _ _ ?_
  simp (disch := first | omega | (show allOne _ = true; simp [allOne, Value.oneCell', S]) | (simp only [qz]; first | done | omega)) only [go_sem]
  obtain ⟨ar, har⟩ : ∃ ar, ar = a.tmod 1000 := ⟨_, rfl⟩
  obtain ⟨br, hbr⟩ : ∃ br, br = b.tmod 1000 := ⟨_, rfl⟩
  have hab : -1000 < ar ∧ ar < 1000 := by subst har; have := Int.tmod_lt_of_pos a (show (0 : Int) < 1000 by omega); have := Int.lt_tmod_of_pos a (show (0 : Int) < 1000 by omega); omega
  have hbb : -1000 < br ∧ br < 1000 := by subst hbr; have := Int.tmod_lt_of_pos b (show (0 : Int) < 1000 by omega); have := Int.lt_tmod_of_pos b (show (0 : Int) < 1000 by omega); omega
  refine Hwp.loop (fun r fr K => ∃ (i : Nat) (N : MS) (g gw gh : Nat) (va : Value), r = c % 20 + 1 - i ∧ i ≤ c % 20 + 1 ∧ MIn goZ K 676 400 goVb g gw gh goVn goVk va N ∧ Kp goZ H1 K ∧ goOk N ∧
    FLe (hfr 176 [(103, I (i : Nat)), (102, I ((c % 20 + 1 : Nat) : Int)), (0, .int .i16 a), (1, .int .i16 b), (7, .bool true), (13, ptr 676 0), (21, I (0 : Nat)), (23, ptr 744 0)]) fr) (c % 20 + 1) ?_ ?_
  · exact ⟨0, goM0, _, _, _, _, rfl, by omega, hM, Kp.refl _ _, goOk_M0, fle_of (by simp [flook])⟩
  rintro r fr K ⟨i, N, g, gw, gh, va, rfl, hi, hN, kN, hok, hle⟩
  refine Hwp.weaken hle (Hwp.ok fun hokK => HW.sound _ _ _ _ ?_)
  have hcase : i < c % 20 + 1 ∨ i = c % 20 + 1 := by omega
  rcases hcase with hi1 | hi1
  · have hZK : ∀ b, goZ b → b < K.next := fun b hb => Nat.lt_of_lt_of_le (hZ b hb) kN.next
    have hBK := hB.ext kN.ext
    obtain ⟨cw, hk, hcw, hround⟩ := hok
    obtain ⟨pr, hpr⟩ : ∃ pr, pr = (i : Int) * br := ⟨_, rfl⟩
    have hpb : -18981 ≤ pr ∧ pr ≤ 18981 := by
      have h1 : (i : Int) * br ≤ i * 999 := Int.mul_le_mul_of_nonneg_left (by omega) (by omega)
      have h2 : (i : Int) * (-999) ≤ i * br := Int.mul_le_mul_of_nonneg_left (by omega) (by omega)
      omega
    obtain ⟨N1, N2, x, hbeg, hrun, hst, hop, hask, hx, hshow, hfail⟩ := hround (ar + pr) (by omega) (by omega)
    have hmul : hint .mul .i64 (i : Int) br = some (I pr) := by
      unfold hint
      simp only
      rw [← hpr, IntKind.wrap_i64]
      congr 2
      omega
    simp (disch := first | omega | (show allOne _ = true; simp [allOne, Value.oneCell', S]) | (simp only [qz]; first | done | omega)) only [go_sem, hint_tmod, ← har, ← hbr, hmul]
    refine vm_Kept hN 0 (by omega) _ ?_
    rw [hk]
    simp (disch := first | omega | (show allOne _ = true; simp [allOne, Value.oneCell', S]) | (simp only [qz]; first | done | omega)) only [go_sem, shl_wInt, ← hpr]
    have hO1 := Old.push K (.cells [U (wInt (ar + pr))] true)
    have hx1 := HHeap.push_next K (.cells [U (wInt (ar + pr))] true)
    have hg1 : (K.push (.cells [U (wInt (ar + pr))] true)).get K.next = some (.cells [U (wInt (ar + pr))] true) := get_push_same _
    have k1 : Kp goZ H1 (K.push (.cells [U (wInt (ar + pr))] true)) := kN.trans (hO1.kp hZK)
    have hM1 := hN.old hokK hO1 hZK (fun _ h => h) (fun _ h => .inl h)
    have hlt := hN.lt hokK
    generalize K.push (.cells [U (wInt (ar + pr))] true) = K1 at *
    refine vm_Begin hM1 (fun b hb => by have := hZK b hb; omega) (hB.ext k1.ext) hBl cw hcw _ [wInt (ar + pr)] (by intro y hy; simp at hy; rw [hy]; exact wInt_lt _) (by simp) (fun y => y = K.next) (Sl.fresh0 (Z := fun y => y = K.next) (l := [wInt (ar + pr)]) rfl hg1) (fun y hy => by subst hy; omega) ⟨by omega, by omega, by omega, by omega, fun y hy => by subst hy; exact ⟨fun h => by have := hlt.2.2.2.2.1 _ h; omega, fun h => by have := hlt.2.2.2.2.2.1 _ h; omega, fun h => by have := hlt.2.2.2.2.2.2 _ h; omega⟩⟩ 0 N1 hbeg _ ?_
    intro K2 g2 gw2 gh2 hM2 k2
    have kk2 := k1.trans k2
    have hZ2 : ∀ b, goZ b → b < K2.next := fun b hb => Nat.lt_of_lt_of_le (hZ b hb) kk2.next
    simp (disch := first | omega | (show allOne _ = true; simp [allOne, Value.oneCell', S]) | (simp only [qz]; first | done | omega)) only [go_sem]
    refine vm_Run hM2 hZ2 (hB.ext kk2.ext) hBl hBok 0 5000 (by omega) 0 N2 hrun _ ?_
    intro K3 g3 gw3 gh3 va3 hM3 k3
    have kk3 := kk2.trans k3
    have hZ3 : ∀ b, goZ b → b < K3.next := fun b hb => Nat.lt_of_lt_of_le (hZ b hb) kk3.next
    simp (disch := first | omega | (show allOne _ = true; simp [allOne, Value.oneCell', S]) | (simp only [qz]; first | done | omega)) only [go_sem]
    refine HCalls.ok fun hok3 => ?_
    refine vm_Asked hM3 hZ3 _ ?_
    rw [hop, hask]
    intro v' K4 hG hfr hO4
    have hM4 := hM3.old hok3 hO4 hZ3 (fun _ h => h) (fun _ h => .inl h)
    have kk4 := kk3.trans (hO4.kp hZ3)
    obtain ⟨yb, rfl, hyg⟩ : ∃ yb, v' = .slice (some ⟨yb, 0, some 2⟩) 1 1 ∧ K4.get yb = some (.cells [U x] true) := by
      rcases hG with ⟨h0, _⟩ | ⟨_, _, _, h0, _⟩ | ⟨yb, cs, _, rfl, _, hyg, hyl, hyr⟩
      · cases h0
      · cases h0
      · have := Gr.cellsW (b := yb) hyl hyr
        subst this
        exact ⟨yb, rfl, hyg⟩
    simp (disch := first | omega | (show allOne _ = true; simp [allOne, Value.oneCell', S]) | (simp only [qz]; first | done | omega)) only [go_sem]
    have hlen := itoa_len (ar + pr) (by omega) (by omega)
    have hgl := goText_len (v := ar + pr) (by omega) (by omega)
    have heq : (goText (ar + pr) == 40 :: 55 :: 32 :: 46 :: 32 :: (Lib.itoa (ar + pr) ++ [41])) = true := by simp [goText]
    refine Hwp.drawn mixed [0, 1, 3, 7, 15, 31, 63, 127, 255, 511, 1023, 2047, 4095, 8191, 16383, 8191, 8191, 73727, 204799, 524287, 8191, 2097151, 4194303, 8388607, 16777215, 33554431] (.op 0 (.eff 1 (.op 2 (.op 3 (.op 4 (.op 5 (.op 6 (.op 7 (.op 8 (.op 9 (.op 10 (.op 11 (.op 12 (.op 13 (.op 15 (.op 16 (.op 17 (.op 18 (.op 20 (.eff 14 (.eff 19 (.eff 21 (.op 22 (.op 23 (.op 24 (.op 25 .done)))) .stop) .stop) .stop)))))))))))))))))) .stop)) (by kernel_rfl) ?_
    simp (disch := first | omega | (show allOne _ = true; simp [allOne, Value.oneCell', S]) | (simp only [qz]; first | done | omega)) only [go_sem, hyg, ixa_ok, ldc_cells]
    refine vm_State hM4 _ ?_
    rw [hst]
    simp (disch := first | omega | (show allOne _ = true; simp [allOne, Value.oneCell', S]) | (simp only [qz]; first | done | omega)) only [go_sem, hyg, ixa_ok, ldc_cells]
    refine vm_Arena hM4 _ ?_
    simp (disch := first | omega | (show allOne _ = true; simp [allOne, Value.oneCell', S]) | (simp only [qz]; first | done | omega)) only [go_sem, hyg, ixa_ok, ldc_cells]
    refine HCalls.ok fun hok4 => ?_
    refine show_Word 3 hshow hM4.A hx (by omega) _ ?_
    intro K5 hO5
    simp (disch := first | omega | (show allOne _ = true; simp [allOne, Value.oneCell', S]) | (simp only [qz]; first | done | omega)) only [go_sem, hyg, ixa_ok, ldc_cells]
    refine ref_Digits (ar + pr) (by omega) (by omega) _ _ ?_
    intro K6 hO6
    have hZ4 : ∀ b, goZ b → b < K4.next := fun b hb => Nat.lt_of_lt_of_le (hZ b hb) kk4.next
    have hM6 := hM4.old hok4 (hO5.trans hO6) hZ4 (fun _ h => h) (fun _ h => .inl h)
    have kk6 := kk4.trans ((hO5.trans hO6).kp hZ4)
    have hZ6 : ∀ b, goZ b → b < K6.next := fun b hb => Nat.lt_of_lt_of_le (hZ b hb) kk6.next
    simp (disch := first | omega | (show allOne _ = true; simp [allOne, Value.oneCell', S]) | (simp only [qz]; first | done | omega)) only [go_sem, sadd_ok, heq, Bool.not_true]
    refine vm_Collect hM6 hZ6 _ ?_
    intro K7 g7 gw7 gh7 hM7 k7
    simp (disch := first | omega | (show allOne _ = true; simp [allOne, Value.oneCell', S]) | (simp only [qz]; first | done | omega)) only [go_sem]
    refine vm_Fail hM7 1 (by omega) _ ?_
    rw [hfail]
    intro K8 va8 hM8 k8
    simp (disch := first | omega | (show allOne _ = true; simp [allOne, Value.oneCell', S]) | (simp only [qz]; first | done | omega)) only [go_sem]
    refine ⟨_, ?_, i + 1, goS (wInt (ar + pr)), g7, gw7, gh7, va8, rfl, by omega, hM8, (kk6.trans k7).trans k8, goOk_S (wInt_mod _), fle_of (by simp [flook])⟩
    omega
  · subst hi1
    simp (disch := first | omega | (show allOne _ = true; simp [allOne, Value.oneCell', S]) | (simp only [qz]; first | done | omega)) only [go_sem]
end Go.HL
/-
  VmGoesOn: the row's statement, of what was walked.
-/
namespace Go.Proofs.YtdccndcdmfhmiaaGreatDoor
open Go.HL Go.RowKit Go.Proofs Go.ChangeShapes Go.WideShapes Go.ChangeAt
set_option maxHeartbeats 4000000
set_option maxRecDepth 1000000
set_option linter.unusedVariables false
theorem g_own : ownKnob Tryz.prog.godebug = none := by kernel_rfl
theorem g_tabs (W : World) (h : laidMetH Tryz.prog Rows.vmGoesOnRow.laid W) (hs : W.ShapedOpen Tryz.prog) : TabsOk W.heap.size W := by
  constructor
  · intro t ht
    rw [show htabs = [(1, (Lib.pow10Tab.map fun z => Value.int .u64 z).toArray)] from rfl, List.mem_singleton] at ht
    subst ht
    rw [MakeChecks.laidMetH_plain _ _ _ (by kernel_rfl)] at h
    have h2 : laidMet Tryz.prog (("internal/strconv.uint64pow10", Lib.tabData .u64 Lib.pow10Tab) :: _) W := h.tail.tail
    have h3 := Lib.tabIs_of_head (P := Tryz.prog) (g := 1) (t := 288) (e := 34) (n := 20) (by kernel_rfl) (by kernel_rfl) (by kernel_rfl) (by kernel_rfl) (by kernel_rfl) (by kernel_rfl) h2
    unfold Lib.TabIs World.var? at h3
    rw [show Tryz.prog.globalNamed "internal/strconv.uint64pow10" = some 1 by kernel_rfl] at h3
    simp only [Option.bind_some] at h3
    split at h3
    · rename_i cs e fz hh
      cases h3
      exact ⟨(Array.getElem?_eq_some_iff.1 hh).1, e, fz, hh⟩
    · cases h3
  · intro g hg
    rw [show hints = [0] from rfl, List.mem_singleton] at hg
    subst hg
    obtain ⟨m, hm⟩ := cell_of_shapedOpen_int (P := Tryz.prog) (g := 0) (t := 3) (zero := #[.int .i64 0]) (k := .i64) hs (of_decide_eq_true (by kernel_rfl)) (by kernel_rfl) rfl (by kernel_rfl) (by kernel_rfl) (by kernel_rfl)
    refine ⟨?_, m, hm⟩
    unfold World.cell? at hm
    split at hm
    · rename_i hh
      exact (Array.getElem?_eq_some_iff.1 hh).1
    · cases hm
theorem g_calls (a0 a1 a2 : Int) (w0 : (Lit.int .i16 a0).wf = true) (w1 : (Lit.int .i16 a1).wf = true) (w2 : (Lit.int .u8 a2).wf = true) (w : World) (ht : TabsOk w.heap.size w) :
    Calls Tryz.prog 3 #[.int .i16 a0, .int .i16 a1, .int .u8 a2] w fun e w' => e = .returned (.bool true) ∧ Below w.heap.size w w' := by
  have b0 : -32768 ≤ a0 ∧ a0 ≤ 32767 := by simpa [Lit.wf, IntKind.min, IntKind.max, IntKind.signed, IntKind.bits] using w0
  have b1 : -32768 ≤ a1 ∧ a1 ≤ 32767 := by simpa [Lit.wf, IntKind.min, IntKind.max, IntKind.signed, IntKind.bits] using w1
  have b2 : 0 ≤ a2 ∧ a2 ≤ 255 := by simpa [Lit.wf, IntKind.min, IntKind.max, IntKind.signed, IntKind.bits] using w2
  obtain ⟨n2, rfl⟩ := Int.eq_ofNat_of_zero_le b2.1
  have h := go_walk a0 a1 n2 b0 b1 (by omega) H0
  refine (h w.heap.size (fun _ => none) w [.int .i16 a0, .int .i16 a1, .int .u8 (n2 : Int)] (Rel.nothing w ht) (.of_flat1 (by rfl))).mono ?_
  rintro e w' ⟨μ', u, H', u', rfl, ⟨rfl, rfl⟩, hu, s⟩
  cases hu
  exact ⟨rfl, s.below (Rel.nothing w ht)⟩
theorem g_shaped (os : Os) : ((World.laidAll Tryz.prog os Rows.vmGoesOnRow.laid).forCall (fun _ _ => 0) ⟨#[], #[.int .i16 0, .int .i16 0, .int .u8 0], []⟩).Shaped Tryz.prog :=
  World.shaped_of_ZipB (by kernel_rfl) (by kernel_rfl)
theorem g_met (os : Os) : laidMetH Tryz.prog Rows.vmGoesOnRow.laid ((World.laidAll Tryz.prog os Rows.vmGoesOnRow.laid).forCall (fun _ _ => 0) ⟨#[], #[.int .i16 0, .int .i16 0, .int .u8 0], []⟩).memory := by
  rw [MakeChecks.laidMetH_plain _ _ _ (by kernel_rfl)]; exact laidMet_laidAll _ (by kernel_rfl) (by kernel_rfl)
theorem g_reads (os : Os) {H : Type} (enc : TypeId × Value → H) : ∃ places, DataW.whole enc Tryz.prog ((World.laidAll Tryz.prog os Rows.vmGoesOnRow.laid).forCall (fun _ _ => 0) ⟨#[], #[.int .i16 0, .int .i16 0, .int .u8 0], []⟩).memory Tryz.f3.params.toList Rows.vmGoesOnSpec.vars false #[Value.int .i16 0, .int .i16 0, .int .u8 0].toList 8 = some ([.lit (.int .i16 0), .lit (.int .i16 0), .lit (.int .u8 0)], [], places) :=
  ⟨[], by kernel_rfl⟩
theorem g_witness {Hd : Type} {enc : TypeId × Value → Hd} {C : Checked} {os : Os} {f : FuncId} {fn : Func} {s : OpenSpec} {conds : List PathCond} {laid : List (String × DataW Unit)} (args : Array Value)
    (hsh : ((World.laidAll C.prog os laid).forCall (fun _ _ => 0) ⟨#[], args, []⟩).Shaped C.prog)
    (hok : Input.okWideB C.prog ((World.laidAll C.prog os laid).forCall (fun _ _ => 0) ⟨#[], args, []⟩) f ⟨#[], args, []⟩ = true)
    (hrow : s.preRow enc C.prog fn conds false laid ((World.laidAll C.prog os laid).forCall (fun _ _ => 0) ⟨#[], args, []⟩).memory args) :
    ∃ (w : World) (tape : Tape) (i : Input), w.os = os ∧ (w.forCall tape i).Shaped C.prog ∧ i.vars = [] ∧ Input.okWide C.prog (w.forCall tape i) .any w.heap.size f i ∧
      s.preRow enc C.prog fn conds false laid (w.forCall tape i).memory i.args ∧ ({} : Assume).holds C.prog (lone (Frame.enter C.prog f i.args .normal) [] (w.forCall tape i)) :=
  ⟨World.laidAll C.prog os laid, fun _ _ => 0, ⟨#[], args, []⟩, World.laidAll_os _ _ _, hsh, (Input.okWide_of_okWideB (base := 0) hok).1, (Input.okWide_of_okWideB hok).2, hrow, by
    simp only [Assume.holds]
    exact ⟨by simp, by simp, fun _ => Modest.zero, by simp, by simp⟩⟩
theorem g_lifted (os : Os) (started : os.Started) (H : Type) (enc : TypeId × Value → H) (F : Stop.Interp) :
    ReturnsInHanded {} Tryz.checked os 3 .any ((OpenSpec.ofChange Rows.vmGoesOnSpec).preRow enc Tryz.prog Tryz.f3 Rows.vmGoesOnRow.domain false Rows.vmGoesOnRow.laid) (((OpenSpec.ofChange Rows.vmGoesOnSpec).at F).post enc Tryz.prog Tryz.f3 false true false false) := by
  obtain ⟨places, hx⟩ := g_reads os enc
  refine returnsInHanded_of_row (C := Tryz.checked) (s := OpenSpec.ofChange Rows.vmGoesOnSpec) g_own started (by kernel_rfl) Tryz.func3
    (g_witness #[.int .i16 0, .int .i16 0, .int .u8 0] (g_shaped os) (by kernel_rfl)
      (OpenSpec.preRow_of_cond 8 hx (by kernel_rfl) (fun k hk => by cases hk) (by kernel_rfl) (g_met os))) ?_
  intro W base args ds gs before hval0 hW _ _ _ hL hsh _
  have hval : ∀ (j : Nat) t v, Tryz.f3.params[j]? = some t → args[j]? = some v → Value.okWide Tryz.prog W .any base t v := hval0
  have hW' := hW
  obtain ⟨p, q, hA0, hV, rfl, _, _⟩ := hW
  have hA : DataW.TrodAll enc Tryz.prog W 0 (fun _ => true) true Tryz.f3.params.toList args.toList ds p := hA0
  rw [Tryz.params3] at hA hval
  obtain ⟨v0, vs0, d0, ds0, p0, q0, hargs, rfl, rfl, h0, r0⟩ := trodAll_cons hA
  obtain ⟨v1, vs1, d1, ds1, p1, q1, rfl, rfl, rfl, h1, r1⟩ := trodAll_cons r0
  obtain ⟨v2, vs2, d2, ds2, p2, q2, rfl, rfl, rfl, h2, r2⟩ := trodAll_cons r1
  obtain ⟨rfl, rfl, rfl⟩ := trodAll_nil r2
  obtain rfl : args = #[v0, v1, v2] := by cases args; simp_all
  obtain ⟨rfl, rfl⟩ := trodVars_none hV
  obtain ⟨a0, rfl, rfl, rfl, w0⟩ := open_int Tryz.underlying22 (hval 0 22 v0 rfl rfl) h0
  obtain ⟨a1, rfl, rfl, rfl, w1⟩ := open_int Tryz.underlying22 (hval 1 22 v1 rfl rfl) h1
  obtain ⟨a2, rfl, rfl, rfl, w2⟩ := open_int Tryz.underlying5 (hval 2 5 v2 rfl rfl) h2
  clear hA0 hval0
  simp only [List.append_nil] at hW'
  refine (g_calls a0 a1 a2 w0 w1 w2 W (g_tabs W hL hsh)).mono fun e W' ⟨he, hb⟩ => ?_
  subst he
  exact ⟨_, rfl, _, _, _, [], [], [], hW', (trodAll_cons_mk (shut_bool Tryz.underlying4 _) trodAll_mk0), (trodAll_cons_mk (shut_int Tryz.underlying22 w0) (trodAll_cons_mk (shut_int Tryz.underlying22 w1) (trodAll_cons_mk (shut_int Tryz.underlying5 w2) trodAll_mk0))), rfl, hb.frame _, fun h => by cases h⟩
theorem g_c1 : Program.inPlace Tryz.prog 3 = Rows.vmGoesOnRow.inPlace := by kernel_rfl
theorem g_c2 : Program.unfollowed Tryz.prog 3 = Rows.vmGoesOnRow.unfollowed := by kernel_rfl
theorem g_c3 : Program.recurses Tryz.prog 3 = Rows.vmGoesOnRow.recurses := by kernel_rfl
theorem g_c4 : Program.varsNamed Tryz.prog 3 = Rows.vmGoesOnRow.named := by kernel_rfl
theorem g_c5 : Program.stopsHeard Tryz.prog = true := by kernel_rfl
theorem g_c6 : Program.mayEnter Tryz.prog = true := by kernel_rfl
theorem g_closed : joinedFacts Tryz.prog 3 Tryz.f3 (OpenSpec.ofChange Rows.vmGoesOnSpec).bare Rows.vmGoesOnRow = true := by
  unfold joinedFacts
  rw [g_c1, g_c2, g_c3, g_c4, g_c5, g_c6]
  kernel_rfl
theorem g_holds : Rows.VmGoesOnSaid :=
  OpenClaim.holds_of_cond 3 Tryz.f3 rfl rfl rfl rfl rfl rfl rfl ⟨rfl, rfl, rfl, rfl, rfl⟩ rfl rfl rfl rfl rfl (by kernel_rfl) Tryz.func3 g_closed
    (of_decide_eq_true (by kernel_rfl)) (by unfold Func.isWrapper; first | (rw [if_pos (by decide +kernel)]; kernel_rfl) | (rw [if_neg (by decide +kernel)]; exact ⟨rfl, rfl⟩))
    (fun os started H enc _ F => by rw [OpenClaim.pre_eq_preRow]; exact g_lifted os started H enc F)
end Go.Proofs.YtdccndcdmfhmiaaGreatDoor
/-
  Where it goes on, taken and called again, goes on there with another word each time (VmGoesOn): for every three numbers the law answers true, and they read as before. Condition: the library's tables are laid as its text lays them (tied).
-/
namespace Go.Proofs.YtdccndcdmfhmiaaGreatDoor
open Go.HL Go.RowKit Go.Proofs Go.ChangeShapes Go.WideShapes Go.ChangeAt
set_option maxHeartbeats 4000000
set_option maxRecDepth 1000000
set_option linter.unusedVariables false
theorem g_plain (f : FuncId) (fn : Func) (hf : Tryz.pinned.checked.prog.funcNamed "eddywheel/eddywheellaw13.VmGoesOn" = some f) (hfn : Tryz.pinned.checked.prog.funcs[f]? = some fn) :
    true = Tryz.pinned.checked.prog.looks [] ∧ ∀ (j : Nat) t, fn.params[j]? = some t → Tryz.pinned.checked.prog.wantsStandIn t = false := by
  obtain rfl : f = 3 := Option.some.inj ((show Tryz.prog.funcNamed "eddywheel/eddywheellaw13.VmGoesOn" = some 3 by kernel_rfl).symm.trans hf) |>.symm
  obtain rfl : fn = Tryz.f3 := (Option.some.inj (Tryz.func3.symm.trans hfn)).symm
  refine ⟨by kernel_rfl, fun j t ht => ?_⟩
  rw [Tryz.params3] at ht
  have hm : t ∈ [22, 22, 5] := by simpa using Array.mem_of_getElem? ht
  have hall : ([22, 22, 5].all fun u => !Tryz.prog.wantsStandIn u) = true := by kernel_rfl
  exact (show Tryz.prog.wantsStandIn t = false by simpa using List.all_eq_true.1 hall t hm)
theorem g_none : Tryz.prog.funcs.any Func.goes = false := by kernel_rfl
theorem g_goes : false = Rows.vmGoesOnRow.goesBy Tryz.pinned.checked.prog := by
  have h : ∀ g : FuncId, (Tryz.prog.funcs[g]?).any Func.goes = false := by
    intro g
    cases hg : Tryz.prog.funcs[g]? with
    | none => rfl
    | some fn =>
      have := Array.any_eq_false.1 g_none g (Array.getElem?_eq_some_iff.1 hg).1
      rw [(Array.getElem?_eq_some_iff.1 hg).2] at this
      simpa using this
  have hp : ∀ f, Tryz.prog.goes f = false := by
    intro f
    unfold Program.goes
    rw [g_none, Bool.and_false, Bool.or_false, List.any_eq_false]
    intro g _
    simp [h g]
  show false = ((Tryz.prog.funcNamed _).any Tryz.prog.goes || false)
  rw [Bool.or_false]
  cases Tryz.prog.funcNamed Rows.vmGoesOnRow.func with
  | none => rfl
  | some f => exact (hp f).symm
theorem g_main : Tryz.pinned.checked.prog.mainIs = some (true, "968da6ad923fc2c0b3e23bb142a94f531fa1977d2d4c5a78df450fc830d8af56".toList) := by kernel_rfl
theorem g_wf : Rows.vmGoesOnRow.wfByText (OpenSpec.ofChange Rows.vmGoesOnSpec) = true := by kernel_rfl
theorem goes_on_holds : Rows.VmGoesOnCardSaid :=
  Claim7.holds_tied_plain_at .later [] [.data, .data, .data, .data, .pinned] true (true, "968da6ad923fc2c0b3e23bb142a94f531fa1977d2d4c5a78df450fc830d8af56") true g_holds (fun _ h => by cases h) g_wf (fun _ h => by cases h) vmGoesOn_row_tie rfl ⟨rfl, rfl⟩ g_main rfl g_plain g_goes
#print axioms goes_on_holds
end Go.Proofs.YtdccndcdmfhmiaaGreatDoor
