/-
  Joined: E6, U15, Q1.
-/
import Derived.Test.YtaghhialaplgoaaGreatDoorPFG6
import Derived.Test.YtaghhialaplgoaaGreatDoorPFU14
import Derived.Test.YtaghhialaplgoaaGreatDoorPFT
import Derived.Test.YtaghhialaplgoaaGreatDoorPFU11
set_option linter.unusedVariables false
set_option linter.unusedSimpArgs false
/-
  Walking equations: a text ranged over; bytes turned into a text.
-/
namespace Go.HL
open Go.RowKit
set_option linter.unusedSimpArgs false
set_option linter.unusedVariables false
variable {P : Program}
theorem hrange_S {t : TypeId} (ht : rngStr P t = true) (H : HHeap) (l : List UInt8) : hrange P H t (S l) = some (.pointer (some ⟨H.next, 0, none⟩), H.push (.iter ⟨l.toArray⟩ 0)) := by
  unfold hrange S; simp only [ht, if_true]
def hnx (H : HHeap) (b : Nat) (o : Option HObj) : Option (Value × HHeap) :=
  match o with
  | some (.iter s pos) => if pos < s.size then some (.tuple #[.bool true, .int .i64 pos, .int .i32 (Utf8.decode s pos).1], H.set b (.iter s (pos + (Utf8.decode s pos).2))) else some (.tuple #[.bool false], H.kill b)
  | _ => none
theorem hnext_ptr (H : HHeap) (b : Nat) : hnext H (.pointer (some ⟨b, 0, none⟩)) = hnx H b (H.get b) := by unfold hnext hnx; rfl
theorem hnx_end (H : HHeap) (b : Nat) (s : ByteArray) (pos : Nat) (h : s.size ≤ pos) : hnx H b (some (.iter s pos)) = some (.tuple #[.bool false], H.kill b) := by
  unfold hnx; simp only; rw [if_neg (by omega)]
theorem hnx_more (H : HHeap) (b : Nat) (s : ByteArray) (pos : Nat) (h : pos < s.size) : hnx H b (some (.iter s pos)) = some (.tuple #[.bool true, .int .i64 pos, .int .i32 (Utf8.decode s pos).1], H.set b (.iter s (pos + (Utf8.decode s pos).2))) := by
  unfold hnx; simp only; rw [if_pos h]
theorem hbb_S (z : Nat) (hz : z < 256) (rw' : Bool) : hbb (some (.cells [.int .u8 (z : Int)] rw')) 0 1 = some (S [UInt8.ofNat z]) := hbb_one z hz rw'
theorem x_boxAgg (H : HHeap) (cs : List Value) (h : allOne cs = true) : hbox H (.agg cs.toArray) = some (.pointer (some ⟨H.next, 0, none⟩), H.push (.cells cs true)) := by
  unfold hbox
  simp only [Value.cells, List.toList_toArray, h, if_true]
attribute [go_sem] x_boxAgg
attribute [go_sem] hop_range hop_next hcallee_range hcallee_next Option.bind_some hrange_S hnext_ptr hnx_end hnx_more
end Go.HL
/-
  Walks: a word as text, from outside.
-/
namespace Go.HL
open Go.RowKit Go.Proofs
set_option maxHeartbeats 4000000
set_option maxRecDepth 100000
set_option linter.unusedSimpArgs false
set_option linter.unusedVariables false
theorem isGo_all : isGo Tryz.prog 54 = true := by kernel_rfl
theorem show_all (n : Nat) {H : HHeap} {b g gw gh size : Nat} {T : Things} {nv : Value} {s t : List UInt8} {x : Nat} (ht : showF T n true x = some t) (hB : BAt H b (ptr g 0) nv s) (hA : AtA H g gw gh size T) (hlt : g < b ∧ gw < b ∧ gh < b) (hx : x < 18446744073709551616) (hl : s.length + t.length ≤ 120)
    (R : Value → HHeap → Prop) (hR : ∀ H', BAt H' b (ptr g 0) nv (s ++ t) → Past b H H' → R (.tuple #[]) H') : HCalls Tryz.prog 32 [ptr b 0, U x] H R := by
  refine HCalls.of_defer (g := 54) Tryz.func32 rfl rfl rfl rfl isGo_all calm_all ?_
  rw [Tryz.results32, Tryz.ntmps32, hframe0_eq _ _ (by simp)]
  simp only [List.zipIdx_cons, List.zipIdx_nil, List.map_cons, List.map_nil, Nat.reduceAdd]
  refine HW.sound _ _ _ _ ?_
  simp (disch := first | omega | (show allOne _ = true; simp [allOne, Value.oneCell', S]) | (simp only [qz]; first | done | omega)) only [go_sem]
  refine show_word n ht hB hA hlt hx hl _ ?_
  intro H' h1 h2
  simp (disch := first | omega | (show allOne _ = true; simp [allOne, Value.oneCell', S]) | (simp only [qz]; first | done | omega)) only [go_sem]
  exact ⟨[], rfl, hR H' h1 h2⟩
theorem hsd_some (b n c : Nat) (k : Option Nat) (h : 0 < n) : hsliceData (.slice (some ⟨b, 0, k⟩) n c) = some (ptr b 0) := by
  unfold hsliceData
  simp [h]
theorem hsd_nil : hsliceData (.slice none 0 0) = some (.pointer none) := by unfold hsliceData; rfl
theorem hbyteOf_V (x : UInt8) : hbyteOf (.int .u8 (x.toNat : Int)) = some x := by
  have := x.toNat_lt
  unfold hbyteOf
  simp
  omega
theorem hbytesOf_V (s : List UInt8) : hbytesOf (bytesV s) = some s := by
  unfold bytesV
  induction s with
  | nil => rfl
  | cons x s ih =>
    rw [List.map_cons, hbytesOf, ih, hbyteOf_V]
    rfl
theorem hus_nil (H : HHeap) (pt : TypeId) : hunsafeStr Tryz.prog H pt (.pointer none) (I (0 : Nat)) = some (S [], H) := by
  unfold hunsafeStr hunsafeV; rfl
theorem hus_some {H : HHeap} {pt : TypeId} {c : Nat} {s : List UInt8} (hp : ptrElem Tryz.prog pt = some 5) (hc : Tryz.prog.cellsOf 5 = 1) (h1 : H.get c = some (.cells (bytesV s) true)) (h2 : H.get (c + 1) = some (.tag 5 0 c)) (h3 : s ≠ []) (h4 : s.length ≤ 120) :
    hunsafeStr Tryz.prog H pt (ptr c 0) (I (s.length : Nat)) = some (S s, H.kill c) := by
  have hp0 := List.length_pos_iff.2 h3
  have key : hunsafeV Tryz.prog H pt (ptr c 0) (I (s.length : Nat)) = match H.get c, H.get (c + 1) with
    | some (.cells cs true), some (.tag e _ c') => if c' = c ∧ ptrElem Tryz.prog pt = some e ∧ Tryz.prog.cellsOf e = 1 ∧ 0 < s.length ∧ s.length ≤ cs.length ∧ s.length ≤ 9223372036854775807 then (hbytesOf (cs.take s.length)).map fun bs => (bs, some c) else none
    | _, _ => none := by unfold hunsafeV; rfl
  unfold hunsafeStr
  rw [key, h1, h2]
  simp only
  rw [if_pos ⟨trivial, hp, hc, hp0, by rw [bytesV_len]; omega, by omega⟩, List.take_of_length_le (by rw [bytesV_len]; omega), hbytesOf_V]
  rfl
theorem hb_sd (H : HHeap) (ts : List TypeId) (x : Value) : hbuiltin Tryz.prog H .unsafeSliceData ts [x] = (hsliceData x).map fun v => (v, H) := by unfold hbuiltin; rfl
theorem hb_us (H : HHeap) (pt it : TypeId) (p n : Value) : hbuiltin Tryz.prog H .unsafeString [pt, it] [p, n] = hunsafeStr Tryz.prog H pt p n := by unfold hbuiltin; rfl
theorem wr_String {H : HHeap} {b : Nat} {gv nv : Value} {s : List UInt8} (hB : BAt H b gv nv s) (hl : s.length ≤ 120) (R : Value → HHeap → Prop) (hR : ∀ H', Past b H H' → R (S s) H') : HCalls Tryz.prog 33 [ptr b 0] H R := by
  obtain ⟨htag, addr, sv, hg, hs⟩ := hB
  refine HCalls.of_hw Tryz.func33 rfl _ Tryz.ntmps33 _ (by rw [Tryz.results33]) ?_
  rw [hframe0_eq _ _ (by simp)]
  simp only [List.zipIdx_cons, List.zipIdx_nil, List.map_cons, List.map_nil, Nat.reduceAdd]
  simp (disch := first | omega | (show allOne _ = true; simp [allOne, Value.oneCell', S]) | (simp only [qz]; first | done | omega)) only [go_sem]
  rcases hs with ⟨rfl, rfl, _⟩ | ⟨hs0, _, c, hc, rfl, hgc, htc⟩
  · refine Hwp.drawn mixed [0, 1, 3, 7, 15, 0, 32, 96, 224, 480, 1023, 2047] (.op 0 (.op 1 (.op 2 (.op 3 (.op 5 (.op 6 (.op 7 (.op 8 (.op 9 (.eff 4 (.eff 10 (.op 11 .done) .stop) .stop)))))))))) (by kernel_rfl) ?_
    simp (disch := first | omega | (show allOne _ = true; simp [allOne, Value.oneCell', S]) | (simp only [qz]; first | done | omega)) only [go_sem, hg, ldc_cells, hb_sd, hb_us, Option.map_some, hsd_nil, hus_nil]
    exact hR H (Past.refl _ _)
  · have hp0 := List.length_pos_iff.2 hs0
    have h0 := hus_some (pt := 118) (by kernel_rfl) (by kernel_rfl) hgc htc hs0 hl
    refine Hwp.drawn mixed [0, 1, 3, 7, 15, 0, 32, 96, 224, 480, 1023, 2047] (.op 0 (.op 1 (.op 2 (.op 3 (.op 5 (.op 6 (.op 7 (.op 8 (.op 9 (.eff 4 (.eff 10 (.op 11 .done) .stop) .stop)))))))))) (by kernel_rfl) ?_
    simp (disch := first | omega | (show allOne _ = true; simp [allOne, Value.oneCell', S]) | (simp only [qz]; first | done | omega)) only [go_sem, hg, ldc_cells, hb_sd, hb_us, Option.map_some, hsd_some, h0]
    exact hR _ ⟨by rw [HHeap.kill_next]; exact Nat.le_refl _, fun x hx => get_kill_ne _ _ (show x ≠ c by omega)⟩
theorem show_Word (n : Nat) {H : HHeap} {g gw gh size : Nat} {T : Things} {q : Option Addr} {t : List UInt8} {x : Nat} (ht : showF T n true x = some t) (hA : AtA H g gw gh size T) (hx : x < 18446744073709551616) (hl : t.length ≤ 120)
    (R : Value → HHeap → Prop) (hR : ∀ H', Old H H' → R (S t) H') : HCalls Tryz.prog 14 [ptr g 0, .pointer q, U x] H R := by
  refine HCalls.ok fun hok => ?_
  have hlt : g < H.next ∧ gw < H.next ∧ gh < H.next := ⟨hok _ _ hA.a, hok _ _ hA.w, hok _ _ hA.h⟩
  refine HCalls.of_hwp Tryz.func14 rfl _ Tryz.ntmps14 _ (by rw [Tryz.results14]) ?_
  rw [hframe0_eq _ _ (by simp)]
  simp only [List.zipIdx_cons, List.zipIdx_nil, List.map_cons, List.map_nil, Nat.reduceAdd]
  refine Hwp.cut (hfr 27 [(0, ptr g 0), (1, .pointer q), (2, U x)]) H (by simp (disch := first | omega | (show allOne _ = true; simp [allOne, Value.oneCell', S]) | (simp only [qz]; first | done | omega)) only [go_sem]; first | exact fle_of (by simp [flook]) | exact ⟨rfl, fle_of (by simp [flook])⟩ | exact ⟨rfl, rfl, fle_of (by simp [flook])⟩) ?_
  refine Hwp.seq (Hwp.rows ?_)
  refine HRows.val (v := ptr g 0) (H' := H) (by simp (disch := first | omega | (show allOne _ = true; simp [allOne, Value.oneCell', S]) | (simp only [qz]; first | done | omega)) only [go_sem]) ?_
  rw [hput_hfr _ _ _ _ (by omega)]
  refine HRows.val (v := .pointer q) (H' := H) (by simp (disch := first | omega | (show allOne _ = true; simp [allOne, Value.oneCell', S]) | (simp only [qz]; first | done | omega)) only [go_sem]) ?_
  rw [hput_hfr _ _ _ _ (by omega)]
  refine HRows.val (v := .agg #[.pointer none, .slice none 0 0, ptr g 0, .pointer q]) (H' := H) (by simp (disch := first | omega | (show allOne _ = true; simp [allOne, Value.oneCell', S]) | (simp only [qz]; first | done | omega)) only [go_sem]) ?_
  rw [hput_hfr _ _ _ _ (by omega)]
  refine HRows.meet (meet_boxT (v := .agg #[.pointer none, .slice none 0 0, ptr g 0, .pointer q]) rfl (by simp (disch := first | omega | (show allOne _ = true; simp [allOne, Value.oneCell', S]) | (simp only [qz]; first | done | omega)) only [go_sem]) rfl) ?_
  rw [hput_hfr _ _ _ _ (by omega)]
  have ec : (Value.agg #[.pointer none, .slice none 0 0, ptr g 0, .pointer q]).cells.toList = [.pointer none, .slice none 0 0, ptr g 0, .pointer q] := rfl
  rw [ec]
  have hx1 := HHeap.push_next H (.cells [.pointer none, .slice none 0 0, ptr g 0, .pointer q] true)
  obtain ⟨K, hK⟩ : ∃ K, K = (H.push (.cells [.pointer none, .slice none 0 0, ptr g 0, .pointer q] true)).push (.tag 86 4 H.next) := ⟨_, rfl⟩
  have hO : Old H K := by rw [hK]; exact (Old.push _ _).trans (Old.push _ _)
  have hB : BAt K H.next (ptr g 0) (.pointer q) [] := ⟨by rw [hK, ← hx1, get_push_same], _, _, by rw [hK, get_push_ne _ _ (by omega), get_push_same], .inl ⟨rfl, rfl, .inl rfl⟩⟩
  have hA' : AtA K g gw gh size T := hA.frame fun b hb => hO.2 b (by rcases hb with rfl | rfl | rfl <;> omega)
  rw [show (([.pointer none, .slice none 0 0, ptr g 0, .pointer q] : List Value)).length = 4 from rfl, ← hK]
  clear hK hx1
  refine HRows.val (v := ptr H.next 0) (H' := K) (by simp (disch := first | omega | (show allOne _ = true; simp [allOne, Value.oneCell', S]) | (simp only [qz]; first | done | omega)) only [go_sem]) ?_
  rw [hput_hfr _ _ _ _ (by omega)]
  show HThen _ _ .normal _ _
  rw [HThen_normal]
  refine HW.sound _ _ _ _ ?_
  simp (disch := first | omega | (show allOne _ = true; simp [allOne, Value.oneCell', S]) | (simp only [qz]; first | done | omega)) only [go_sem]
  refine show_all n ht hB hA' hlt hx (by simpa using hl) _ ?_
  intro K1 h1 h2
  rw [List.nil_append] at h1
  simp (disch := first | omega | (show allOne _ = true; simp [allOne, Value.oneCell', S]) | (simp only [qz]; first | done | omega)) only [go_sem]
  refine wr_String h1 hl _ ?_
  intro K2 h3
  have hO2 : Old H K2 := ⟨Nat.le_trans hO.1 (Nat.le_trans h2.next h3.next), fun b hb => by rw [h3.get b hb, h2.get b hb, hO.2 b hb]⟩
  have hc : ¬ (120 < t.length) := by omega
  have := hR K2 hO2
  simp (disch := first | omega | (show allOne _ = true; simp [allOne, Value.oneCell', S]) | (simp only [qz]; first | done | omega)) only [go_sem]
  exact this
end Go.HL
/-
  Walks: numbers as text, the document's.
-/
namespace Go.HL
open Go.RowKit Go.Proofs
set_option maxHeartbeats 4000000
set_option maxRecDepth 100000
set_option linter.unusedSimpArgs false
set_option linter.unusedVariables false
theorem bs_desk : bytesStr Tryz.prog 82 9 = true := by kernel_rfl
theorem ref_Digits2 (n : Nat) (hn : n < 18446744073709551616) (H : HHeap) (R : Value → HHeap → Prop) (hR : ∀ H', Old H H' → R (S (Lib.decDigits n)) H') : HCalls Tryz.prog 34 [U n] H R := by
  refine HCalls.of_hw Tryz.func34 rfl _ Tryz.ntmps34 _ (by rw [Tryz.results34]) ?_
  rw [hframe0_eq _ _ (by simp)]
  simp only [List.zipIdx_cons, List.zipIdx_nil, List.map_cons, List.map_nil, Nat.reduceAdd]
  simp (disch := first | omega | (show allOne _ = true; simp [allOne, Value.oneCell', S]) | (simp only [qz]; first | done | omega)) only [go_sem]
  refine Hwp.loop (fun k fr H' => ∃ m s, k = m ∧ m ≤ n ∧ s.length + (Lib.decDigits m).length ≤ 20 ∧ Lib.decDigits n = Lib.decDigits m ++ s ∧ Old H H' ∧ FLe (hfr 23 [(0, U m), (3, S s)]) fr) n ?_ ?_
  · exact ⟨n, [], rfl, Nat.le_refl _, by have := digits_len 19 n (by omega); simp; omega, by simp, Old.refl H, fle_of (by simp [flook])⟩
  · rintro m fr H' ⟨_, s, rfl, hm, hl, hd, hO, hle⟩
    refine Hwp.weaken hle (HW.sound _ _ _ _ ?_)
    have hw : ∀ z : Nat, z < 10 → IntKind.u8.wrap (48 + (z : Int)) = ((48 + z : Nat) : Int) := fun z hz => by
      rw [IntKind.wrap_u8]
      omega
    by_cases hc : 9 < m
    · have hm10 : IntKind.u8.wrap (48 + (m : Int) % 10) = ((48 + m % 10 : Nat) : Int) := by
        have := hw (m % 10) (by omega)
        rw [show (48 + (m : Int) % 10) = 48 + ((m % 10 : Nat) : Int) by omega]; exact this
      simp (disch := first | omega | (show allOne _ = true; simp [allOne, Value.oneCell', S]) | (simp only [qz]; first | done | omega)) only [go_sem, hm10, hcv_bytes bs_desk, get_push_same, hbb_S, sadd_ok]
      have e1 := digits_more m s hc
      have e2 := congrArg List.length e1
      simp only [List.length_append, List.length_cons] at e2
      exact ⟨m / 10, by omega, m / 10, UInt8.ofNat (48 + m % 10) :: s, rfl, by omega, by simp only [List.length_cons]; omega, by rw [hd, e1], hO.trans (Old.push _ _), fle_of (by simp [flook])⟩
    · have hm10 := hw m (by omega)
      simp (disch := first | omega | (show allOne _ = true; simp [allOne, Value.oneCell', S]) | (simp only [qz]; first | done | omega)) only [go_sem, hm10, hcv_bytes bs_desk, get_push_same, hbb_S, sadd_ok]
      rw [hd, digits_last m s hc] at hR
      exact hR _ (hO.trans (Old.push _ _))
theorem ref_Digits (n : Int) (h0 : -9223372036854775808 ≤ n) (h1 : n ≤ 9223372036854775807) (H : HHeap) (R : Value → HHeap → Prop) (hR : ∀ H', Old H H' → R (S (Lib.itoa n)) H') : HCalls Tryz.prog 15 [.int .i64 n] H R := by
  refine HCalls.of_hw Tryz.func15 rfl _ Tryz.ntmps15 _ (by rw [Tryz.results15]) ?_
  rw [hframe0_eq _ _ (by simp)]
  simp only [List.zipIdx_cons, List.zipIdx_nil, List.map_cons, List.map_nil, Nat.reduceAdd]
  by_cases hn : n < 0
  · have hw : IntKind.u64.wrap (IntKind.i64.wrap (0 - n)) = ((n.natAbs : Nat) : Int) := by rw [IntKind.wrap_i64, IntKind.wrap_u64]; omega
    have hlen := digits_len 19 n.natAbs (by omega)
    simp (disch := first | omega | (show allOne _ = true; simp [allOne, Value.oneCell', S]) | (simp only [qz]; first | done | omega)) only [go_sem, hw]
    refine ref_Digits2 n.natAbs (by omega) _ _ ?_
    intro H' hO
    simp (disch := first | omega | (show allOne _ = true; simp [allOne, Value.oneCell', S]) | (simp only [qz]; first | done | omega)) only [go_sem, sadd_ok]
    have := hR H' hO
    unfold Lib.itoa at this
    rw [if_pos hn] at this
    exact this
  · have hw : IntKind.u64.wrap n = ((n.toNat : Nat) : Int) := by rw [IntKind.wrap_u64]; omega
    simp (disch := first | omega | (show allOne _ = true; simp [allOne, Value.oneCell', S]) | (simp only [qz]; first | done | omega)) only [go_sem, hw]
    refine ref_Digits2 n.toNat (by omega) _ _ ?_
    intro H' hO
    simp (disch := first | omega | (show allOne _ = true; simp [allOne, Value.oneCell', S]) | (simp only [qz]; first | done | omega)) only [go_sem]
    have := hR H' hO
    unfold Lib.itoa at this
    rw [if_neg hn] at this
    exact this
end Go.HL
