/-
  Joined: M8, M10, M11.
-/
import Derived.Test.YtdccndcdmfhmiaaGreatDoorPFKY
import Derived.Test.YtdccndcdmfhmiaaGreatDoorPFT
import Derived.Test.YtdccndcdmfhmiaaGreatDoorPFM9b
import Derived.Test.YtdccndcdmfhmiaaGreatDoorPFK13
import Derived.Test.YtdccndcdmfhmiaaGreatDoorPFW3
set_option linter.unusedVariables false
set_option linter.unusedSimpArgs false
/-
  Rows of words by the library's functions: what append makes of so many zeros, and cap, as the model does them.
-/
namespace Go.HL
open Go.RowKit Go.Proofs
set_option maxHeartbeats 4000000
set_option maxRecDepth 100000
set_option linter.unusedSimpArgs false
set_option linter.unusedVariables false
variable {P : Program}
theorem meet_make {fr : HFrame} {H : HHeap} {o : Oper} {st xt u : TypeId} {s x : Operand} {e : Elem} {kk ik : IntKind} {m : Nat} (ho : o.op = .call ⟨.builtin .append, ⟨[s, x]⟩, ⟨[st, xt]⟩⟩) (hu : P.underlying st = some (.slice u)) (hd : P.underlying xt = some (.int kk)) (hel : helem P u = some e) (hpos : 0 < e.size)
    (h1 : hev fr s = some (.slice none 0 0)) (h3 : hev fr x = some (.int ik (m : Int))) (d1 : 1 ≤ m) (d2 : m * e.bytes ≤ 1099511627776) (d3 : m ≤ 1099511627776) :
    HMeet P fr H o (.slice (some ⟨H.next, 0, some (2 * e.size)⟩) m m) (H.push (.cells (hzeros e.zero (m * e.size)) true)) := by
  intro D B μ w ac hR hf
  have r1 := hev_rel hf h1
  have r2 := hev_rel hf h3
  have e1 : ac.eval s = .slice none 0 0 := by generalize ac.eval s = z at r1; cases r1; rfl
  have e2 : ac.eval x = .int ik (m : Int) := by generalize ac.eval x = z at r2; cases r2; rfl
  obtain ⟨i, z, hi, hz, hze, hsz, hby, hfl, hzl⟩ := helem_spec hel
  have hpz : 0 < e.zero.length := by omega
  have hflat := hzeros_flat hfl (m * e.size) hpz
  have hge := grownCap_ge w m 0 u
  have st' := hR.drew.allocCells (hzeros e.zero (m * e.size)) (Builtin.zeroCells e.zero.toArray m ++ Builtin.zeroCells e.zero.toArray (grownCap w m 0 u - m)) u
    (by
      rw [Array.toList_append, zeroCells_list _ _ hpz, hzl, List.take_left]
      exact .of_flat1 hflat) (allFlat_one hflat)
  refine ⟨_, _, .slice (some ⟨w.heap.size, 0, none⟩) m (grownCap w m 0 u), (Step.drew hR).trans st', ?_, .inl ?_⟩
  · refine .grown _ _ _ _ _ _ ⟨w.drew.heap.size, 0, (Builtin.zeroCells e.zero.toArray m ++ Builtin.zeroCells e.zero.toArray (grownCap w m 0 u - m)).size⟩ (by show (Mu.add μ H.next _) H.next = some _; simp [Mu.add]) (Nat.le_refl _) hge ?_
    simp only [Array.size_append, size_zeroCells, List.size_toArray, hzl]
    rw [← Nat.add_mul, show m + (grownCap w m 0 u - m) = grownCap w m 0 u by omega]; omega
  · have := append_make (P := P) (w := w) (ty := o.type) (k := ik) hu hd hel hpos m d1 d2 d3
    simp [execOp, ho, resolve, invoke, builtin, e1, e2, this]
theorem meet_cap {fr : HFrame} {H : HHeap} {o : Oper} {t e : TypeId} {x : Operand} (ho : o.op = .call ⟨.builtin .cap, ⟨[x]⟩, ⟨[t]⟩⟩) (he : P.underlying t = some (.slice e)) (h1 : hev fr x = some (.slice none 0 0)) : HMeet P fr H o (.int .i64 0) H := by
  intro D B μ w a hR hf
  have r := hev_rel hf h1
  have hv : a.eval x = .slice none 0 0 := by generalize a.eval x = z at r; cases r; rfl
  exact ⟨μ, w, _, Step.refl hR, .int _ _, .inl (by simp [execOp, ho, resolve, invoke, builtin, Builtin.cap_, hv, run_underlying he, goInt])⟩
end Go.HL
/-
  Walks: rows of words by the library's functions: Grow, Concat.
-/
namespace Go.HL
open Go.RowKit Go.Proofs
set_option maxHeartbeats 4000000
set_option maxRecDepth 100000
set_option linter.unusedSimpArgs false
set_option linter.unusedVariables false
theorem HRows.meet {P : Program} {ops : Array Oper} {dst : Option Tmp} {op : Op} {ty : TypeId} {pos : String} {af : Array Edge} {l : List Oper} {fr : HFrame} {H H' : HHeap} {K : HFrame → HHeap → Prop} {v : Value} (h : HMeet P fr H ⟨dst, op, ty, pos, af, none⟩ v H') (hr : HRows P ops l (hput fr dst v) H' K) :
    HRows P ops (⟨dst, op, ty, pos, af, none⟩ :: l) fr H K := .inr ⟨rfl, .inl ⟨v, H', h, hr⟩⟩
theorem Hwp.cut {P : Program} {x y : Code} {Q : Exit → HFrame → HHeap → Prop} {fr : HFrame} {H : HHeap} (F : HFrame) (K : HHeap) (h : HW P x (fun e F' K' => e = .normal ∧ K' = K ∧ FLe F F') fr H) (k : Hwp P y Q F K) : Hwp P (.seq x y) Q fr H := by
  refine Hwp.seq (Hwp.mono ?_ (HW.sound _ _ _ _ h))
  rintro _ _ _ ⟨rfl, rfl, hl⟩
  rw [HThen_normal]
  exact Hwp.weaken hl k
theorem slg_hi' (b len cap : Nat) (i : Int) (h : 0 ≤ i) (h' : i ≤ cap) (hc : 0 < cap) : slg b 0 1 2 len cap none (some (.int .i64 i)) none = some (.slice (some ⟨b, 0, some 2⟩) i.toNat cap) := by
  unfold slg
  rw [hbound_none, Option.bind_some, hbound_int _ _ _ _ h h', Option.bind_some, hbound_none, Option.bind_some]
  simp [show cap ≠ 0 by omega]
theorem slices_Grow (n : Nat) (h1 : 1 ≤ n) (h2 : n ≤ 1000000) (H : HHeap) (R : Value → HHeap → Prop) (hR : R (.slice (some ⟨H.next, 0, some 2⟩) 0 n) (H.push (.cells (List.replicate n (U 0)) true))) :
    HCalls Tryz.prog 124 [.slice none 0 0, I (n : Nat)] H R := by
  refine HCalls.of_hwp Tryz.func124 rfl _ Tryz.ntmps124 _ (by rw [Tryz.results124]) ?_
  rw [hframe0_eq _ _ (by simp)]
  simp only [List.zipIdx_cons, List.zipIdx_nil, List.map_cons, List.map_nil, Nat.reduceAdd]
  refine Hwp.cut (hfr 27 [(0, .slice none 0 0), (1, I (n : Nat))]) H (by simp (disch := first | omega | (show allOne _ = true; simp [allOne, Value.oneCell', S]) | (simp only [qz]; first | done | omega)) only [go_sem]; first | exact fle_of (by simp [flook]) | exact ⟨rfl, fle_of (by simp [flook])⟩ | exact ⟨rfl, rfl, fle_of (by simp [flook])⟩) ?_
  refine Hwp.cut (hfr 27 [(0, .slice none 0 0), (1, I (n : Nat))]) H (by simp (disch := first | omega | (show allOne _ = true; simp [allOne, Value.oneCell', S]) | (simp only [qz]; first | done | omega)) only [go_sem]; first | exact fle_of (by simp [flook]) | exact ⟨rfl, fle_of (by simp [flook])⟩ | exact ⟨rfl, rfl, fle_of (by simp [flook])⟩) ?_
  refine Hwp.seq (Hwp.seq (Hwp.rows ?_))
  refine HRows.val (v := I (n : Nat)) (H' := H) (by simp (disch := first | omega | (show allOne _ = true; simp [allOne, Value.oneCell', S]) | (simp only [qz]; first | done | omega)) only [go_sem]) ?_
  rw [hput_hfr _ _ _ _ (by omega)]
  refine HRows.val (v := .slice none 0 0) (H' := H) (by simp (disch := first | omega | (show allOne _ = true; simp [allOne, Value.oneCell', S]) | (simp only [qz]; first | done | omega)) only [go_sem]) ?_
  rw [hput_hfr _ _ _ _ (by omega)]
  refine HRows.meet (meet_cap rfl Tryz.underlying40 (by simp (disch := first | omega | (show allOne _ = true; simp [allOne, Value.oneCell', S]) | (simp only [qz]; first | done | omega)) only [go_sem])) ?_
  rw [hput_hfr _ _ _ _ (by omega)]
  refine HRows.val (v := .slice none 0 0) (H' := H) (by simp (disch := first | omega | (show allOne _ = true; simp [allOne, Value.oneCell', S]) | (simp only [qz]; first | done | omega)) only [go_sem]) ?_
  rw [hput_hfr _ _ _ _ (by omega)]
  refine HRows.val (v := I 0) (H' := H) (by simp (disch := first | omega | (show allOne _ = true; simp [allOne, Value.oneCell', S]) | (simp only [qz]; first | done | omega)) only [go_sem]; rfl) ?_
  rw [hput_hfr _ _ _ _ (by omega)]
  refine HRows.val (v := I 0) (H' := H) (by simp (disch := first | omega | (show allOne _ = true; simp [allOne, Value.oneCell', S]) | (simp only [qz]; first | done | omega)) only [go_sem]) ?_
  rw [hput_hfr _ _ _ _ (by omega)]
  refine HRows.val (v := I (n : Nat)) (H' := H) (by simp (disch := first | omega | (show allOne _ = true; simp [allOne, Value.oneCell', S]) | (simp only [qz]; first | done | omega)) only [go_sem]) ?_
  rw [hput_hfr _ _ _ _ (by omega)]
  refine HRows.val (v := I (n : Nat)) (H' := H) (by simp (disch := first | omega | (show allOne _ = true; simp [allOne, Value.oneCell', S]) | (simp only [qz]; first | done | omega)) only [go_sem]) ?_
  rw [hput_hfr _ _ _ _ (by omega)]
  show HThen _ _ .normal _ _
  rw [HThen_normal]
  refine Hwp.weaken (fr := hfr 27 [(0, .slice none 0 0), (1, I (n : Nat))]) (fle_of (by simp [flook])) ?_
  refine Hwp.cut (hfr 27 [(0, .slice none 0 0), (1, I (n : Nat)), (16, .bool true)]) H (by simp (disch := first | omega | (show allOne _ = true; simp [allOne, Value.oneCell', S]) | (simp only [qz]; first | done | omega)) only [go_sem]; first | exact fle_of (by simp [flook]; omega) | exact ⟨rfl, rfl, fle_of (by simp [flook]; omega)⟩ | exact fle_of (by simp [flook]) | exact ⟨rfl, fle_of (by simp [flook])⟩ | exact ⟨rfl, rfl, fle_of (by simp [flook])⟩) ?_
  refine Hwp.cond (b := true) (by simp (disch := first | omega | (show allOne _ = true; simp [allOne, Value.oneCell', S]) | (simp only [qz]; first | done | omega)) only [go_sem]) (fun _ => ?_) (fun h => by cases h)
  refine Hwp.rows ?_
  refine HRows.val (v := .slice none 0 0) (H' := H) (by simp (disch := first | omega | (show allOne _ = true; simp [allOne, Value.oneCell', S]) | (simp only [qz]; first | done | omega)) only [go_sem]) ?_
  rw [hput_hfr _ _ _ _ (by omega)]
  refine HRows.val (v := .slice none 0 0) (H' := H) (by simp (disch := first | omega | (show allOne _ = true; simp [allOne, Value.oneCell', S]) | (simp only [qz]; first | done | omega)) only [go_sem]) ?_
  rw [hput_hfr _ _ _ _ (by omega)]
  refine HRows.meet (meet_cap rfl Tryz.underlying40 (by simp (disch := first | omega | (show allOne _ = true; simp [allOne, Value.oneCell', S]) | (simp only [qz]; first | done | omega)) only [go_sem])) ?_
  rw [hput_hfr _ _ _ _ (by omega)]
  refine HRows.val (v := .slice none 0 0) (H' := H) (by simp (disch := first | omega | (show allOne _ = true; simp [allOne, Value.oneCell', S]) | (simp only [qz]; first | done | omega)) only [go_sem]; rfl) ?_
  rw [hput_hfr _ _ _ _ (by omega)]
  refine HRows.val (v := I (n : Nat)) (H' := H) (by simp (disch := first | omega | (show allOne _ = true; simp [allOne, Value.oneCell', S]) | (simp only [qz]; first | done | omega)) only [go_sem]) ?_
  rw [hput_hfr _ _ _ _ (by omega)]
  refine HRows.meet (meet_make (m := n) (ik := .i64) rfl Tryz.underlying40 Tryz.underlying3 el35 (Nat.succ_pos 0) (by simp (disch := first | omega | (show allOne _ = true; simp [allOne, Value.oneCell', S]) | (simp only [qz]; first | done | omega)) only [go_sem]) (by simp (disch := first | omega | (show allOne _ = true; simp [allOne, Value.oneCell', S]) | (simp only [qz]; first | done | omega)) only [go_sem]) h1 (show n * 8 ≤ _ by omega) (by omega)) ?_
  rw [hput_hfr _ _ _ _ (by omega)]
  rw [show hzeros [Value.int .u64 0] (n * 1) = List.replicate n (U 0) by rw [Nat.mul_one]; rfl]
  generalize hK : H.push (.cells (List.replicate n (U 0)) true) = K at *
  refine HRows.val (v := .slice none 0 0) (H' := K) (by simp (disch := first | omega | (show allOne _ = true; simp [allOne, Value.oneCell', S]) | (simp only [qz]; first | done | omega)) only [go_sem]) ?_
  rw [hput_hfr _ _ _ _ (by omega)]
  refine HRows.val (v := I 0) (H' := K) (by simp (disch := first | omega | (show allOne _ = true; simp [allOne, Value.oneCell', S]) | (simp only [qz]; first | done | omega)) only [go_sem]; rfl) ?_
  rw [hput_hfr _ _ _ _ (by omega)]
  refine HRows.val (v := .slice (some ⟨H.next, 0, some 2⟩) 0 n) (H' := K) (by simp (disch := first | omega | (show allOne _ = true; simp [allOne, Value.oneCell', S]) | (simp only [qz]; first | done | omega)) only [go_sem, slg_hi']) ?_
  rw [hput_hfr _ _ _ _ (by omega)]
  refine HRows.val (v := .slice (some ⟨H.next, 0, some 2⟩) 0 n) (H' := K) (by simp (disch := first | omega | (show allOne _ = true; simp [allOne, Value.oneCell', S]) | (simp only [qz]; first | done | omega)) only [go_sem]) ?_
  rw [hput_hfr _ _ _ _ (by omega)]
  show HThen _ _ .normal _ _
  rw [HThen_normal]
  refine HW.sound _ _ _ _ ?_
  simp (disch := first | omega | (show allOne _ = true; simp [allOne, Value.oneCell', S]) | (simp only [qz]; first | done | omega)) only [go_sem]
  exact hR
end Go.HL
/-
  Walks: two rows of words as one.
-/
namespace Go.HL
open Go.RowKit Go.Proofs
set_option maxHeartbeats 4000000
set_option maxRecDepth 100000
set_option linter.unusedSimpArgs false
set_option linter.unusedVariables false
def cellsTo (l : List Nat) (n : Nat) : List Value := l.map U ++ List.replicate (n - l.length) (U 0)
theorem cellsTo_full (l : List Nat) : cellsTo l l.length = l.map U := by unfold cellsTo; simp
theorem apd_in {K : HHeap} {B n : Nat} {pre li : List Nat} (hg : K.get B = some (.cells (cellsTo pre n) true)) (h1 : pre.length + li.length ≤ n) (h2 : n ≤ 1000000) :
    apd K 1 8 (.slice (some ⟨B, 0, some 2⟩) pre.length n) (li.map U, li.length) = some (.slice (some ⟨B, 0, some 2⟩) (pre ++ li).length n, K.set B (.cells (cellsTo (pre ++ li) n) true)) := by
  by_cases h0 : li.length = 0
  · have : li = [] := List.eq_nil_of_length_eq_zero h0
    subst this
    rw [List.append_nil, set_eq_self hg]
    exact apd_zero _ _ _ _ _ _
  · rw [apd_some _ _ _ _ _ _ _ _ _ (by omega) (by omega) (by omega), hg]
    unfold apo
    simp only
    rw [if_pos h1, if_pos ⟨trivial, by unfold cellsTo; simp; omega, .inr (by trivial)⟩]
    have e : splice (cellsTo pre n) (0 + pre.length * 1) (li.map U) = cellsTo (pre ++ li) n := by
      rw [Nat.zero_add, Nat.mul_one]
      unfold cellsTo
      have e1 : List.replicate (n - pre.length) (U 0) = List.replicate li.length (U 0) ++ List.replicate (n - (pre ++ li).length) (U 0) := by
        rw [List.replicate_append_replicate]; congr 1; simp; omega
      rw [e1, ← List.append_assoc]
      have := splice_mid (li.map U) (List.replicate li.length (U 0)) (List.replicate (n - (pre ++ li).length) (U 0)) (by simp) (pre.map U)
      rw [List.length_map] at this
      rw [this, List.map_append]
    rw [e, List.length_append]
theorem slices_Concat {Z : Zs} {H : HHeap} {b0 : Nat} {v1 v2 : Value} {l1 l2 : List Nat} (hb0 : b0 < H.next) (hg : H.get b0 = some (.cells [v1, v2] true)) (hZ : ∀ b, Z b → b < H.next) (h1 : Sl rW Z H v1 l1) (h2 : Sl rW Z H v2 l2) (n1 : 1 ≤ l1.length) (n2 : l1.length + l2.length ≤ 1000000) (R : Value → HHeap → Prop)
    (hR : ∀ H', Old H H' → H.next < H'.next → H'.get H.next = some (.cells ((l1 ++ l2).map U) true) → R (.slice (some ⟨H.next, 0, some 2⟩) (l1 ++ l2).length (l1 ++ l2).length) H') :
    HCalls Tryz.prog 70 [.slice (some ⟨b0, 0, none⟩) 2 2] H R := by
  obtain ⟨a1, c1, e1⟩ := h1.len
  obtain ⟨a2, c2, e2⟩ := h2.len
  refine HCalls.of_hw Tryz.func70 rfl _ Tryz.ntmps70 _ (by rw [Tryz.results70]) ?_
  rw [hframe0_eq _ _ (by simp)]
  simp only [List.zipIdx_cons, List.zipIdx_nil, List.map_cons, List.map_nil, Nat.reduceAdd]
  simp (disch := first | omega | (show allOne _ = true; simp [allOne, Value.oneCell', S]) | (simp only [qz]; first | done | omega)) only [go_sem]
  refine Hwp.loop (fun m fr K => ∃ (i s : Nat), m = 2 - i ∧ K = H ∧ ((i = 0 ∧ s = 0) ∨ (i = 1 ∧ s = l1.length) ∨ (i = 2 ∧ s = l1.length + l2.length)) ∧
    FLe (hfr 36 [(11, I (i : Nat)), (3, I (s : Nat)), (0, .slice (some ⟨b0, 0, none⟩) 2 2), (9, .slice (some ⟨b0, 0, none⟩) 2 2), (10, I (2 : Nat))]) fr) 2 ?_ ?_
  · exact ⟨0, 0, rfl, rfl, .inl ⟨rfl, rfl⟩, fle_of (by simp [flook])⟩
  · rintro m fr K ⟨i, s, rfl, rfl, hc, hle⟩
    refine Hwp.weaken hle (HW.sound _ _ _ _ ?_)
    rcases hc with ⟨rfl, rfl⟩ | ⟨rfl, rfl⟩ | ⟨rfl, rfl⟩
    · subst e1
      simp (disch := first | omega | (show allOne _ = true; simp [allOne, Value.oneCell', S]) | (simp only [qz]; first | done | omega)) only [go_sem, hg, ixa_ok, ldc_cells]
      refine ⟨_, ?_, 1, l1.length, rfl, .inr (.inl ⟨rfl, rfl⟩), fle_of (by simp [flook])⟩
      omega
    · subst e2
      simp (disch := first | omega | (show allOne _ = true; simp [allOne, Value.oneCell', S]) | (simp only [qz]; first | done | omega)) only [go_sem, hg, ixa_ok, ldc_cells]
      refine ⟨_, ?_, 2, l1.length + l2.length, rfl, .inr (.inr ⟨rfl, rfl⟩), fle_of (by simp [flook])⟩
      omega
    · simp (disch := first | omega | (show allOne _ = true; simp [allOne, Value.oneCell', S]) | (simp only [qz]; first | done | omega)) only [go_sem]
      refine slices_Grow _ (by omega) n2 _ _ ?_
      obtain ⟨n, hn⟩ : ∃ n, n = l1.length + l2.length := ⟨_, rfl⟩
      rw [← hn]
      have hO0 := Old.push K (.cells (List.replicate n (U 0)) true)
      have hnx : K.next < (K.push (.cells (List.replicate n (U 0)) true)).next := by rw [nx_push]; omega
      have hgt : (K.push (.cells (List.replicate n (U 0)) true)).get K.next = some (.cells (cellsTo [] n) true) := by rw [get_push_same]; unfold cellsTo; simp
      generalize K.push (.cells (List.replicate n (U 0)) true) = K1 at *
      simp (disch := first | omega | (show allOne _ = true; simp [allOne, Value.oneCell', S]) | (simp only [qz]; first | done | omega)) only [go_sem]
      refine Hwp.loop (fun m fr K2 => ∃ (i : Nat) (pre : List Nat), m = 2 - i ∧ Old K K2 ∧ K.next < K2.next ∧ K2.get K.next = some (.cells (cellsTo pre n) true) ∧ ((i = 0 ∧ pre = []) ∨ (i = 1 ∧ pre = l1) ∨ (i = 2 ∧ pre = l1 ++ l2)) ∧
        FLe (hfr 36 [(27, I (i : Nat)), (6, .slice (some ⟨K.next, 0, some 2⟩) pre.length n), (25, .slice (some ⟨b0, 0, none⟩) 2 2), (26, I (2 : Nat))]) fr) 2 ?_ ?_
      · exact ⟨0, [], rfl, hO0, hnx, hgt, .inl ⟨rfl, rfl⟩, fle_of (by simp [flook])⟩
      · rintro m fr K2 ⟨i, pre, rfl, hO, hn2, hgB, hc, hle⟩
        refine Hwp.weaken hle (HW.sound _ _ _ _ ?_)
        have hg2 := hO.2 b0 hb0
        rw [hg] at hg2
        have keep : ∀ K3 : HHeap, K3.next = K2.next → (∀ b, b ≠ K.next → K3.get b = K2.get b) → Old K K3 ∧ K.next < K3.next := fun K3 h3 h4 => ⟨⟨by have := hO.1; omega, fun b hb => by rw [h4 b (by omega), hO.2 b hb]⟩, by omega⟩
        rcases hc with ⟨rfl, rfl⟩ | ⟨rfl, rfl⟩ | ⟨rfl, rfl⟩
        · have hs := (h1.old hO hZ).srcW
          have ha := apd_in (li := l1) hgB (by simp; omega) (by omega)
          obtain ⟨o1, o2⟩ := keep _ (HHeap.set_next K2 K.next (.cells (cellsTo ([] ++ l1) n) true)) (fun b hb => get_set_ne _ _ _ hb)
          simp (disch := first | omega | (show allOne _ = true; simp [allOne, Value.oneCell', S]) | (simp only [qz]; first | done | omega)) only [go_sem, hg2, ixa_ok, ldc_cells, hs, ha]
          exact ⟨_, by omega, 1, l1, rfl, o1, o2, rfl, .inr (.inl ⟨rfl, rfl⟩), fle_of (by simp [flook])⟩
        · have hs := (h2.old hO hZ).srcW
          have ha := apd_in (li := l2) hgB (by omega) (by omega)
          obtain ⟨o1, o2⟩ := keep _ (HHeap.set_next K2 K.next (.cells (cellsTo (pre ++ l2) n) true)) (fun b hb => get_set_ne _ _ _ hb)
          simp (disch := first | omega | (show allOne _ = true; simp [allOne, Value.oneCell', S]) | (simp only [qz]; first | done | omega)) only [go_sem, hg2, ixa_ok, ldc_cells, hs, ha]
          exact ⟨_, by omega, 2, _, rfl, o1, o2, rfl, .inr (.inr ⟨rfl, rfl⟩), fle_of (by simp [flook])⟩
        · rw [← List.length_append] at hn
          subst hn
          rw [cellsTo_full] at hgB
          have := hR K2 hO hn2 hgB
          simp (disch := first | omega | (show allOne _ = true; simp [allOne, Value.oneCell', S]) | (simp only [qz]; first | done | omega)) only [go_sem]
          exact this
end Go.HL
