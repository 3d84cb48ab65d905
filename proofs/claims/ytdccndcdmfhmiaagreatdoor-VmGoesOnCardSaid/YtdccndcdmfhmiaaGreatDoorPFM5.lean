/-
  Joined: M2, M3, M4, M5.
-/
import Derived.Test.YtdccndcdmfhmiaaGreatDoorPFML
import Derived.Test.YtdccndcdmfhmiaaGreatDoorPFT
import Derived.Test.YtdccndcdmfhmiaaGreatDoorPFW2
import Derived.Test.YtdccndcdmfhmiaaGreatDoorPFC5
set_option linter.unusedVariables false
set_option linter.unusedSimpArgs false
/-
  A machine in a heap.
-/
namespace Go.HL
open Go.RowKit Go.Proofs
set_option linter.unusedSimpArgs false
set_option linter.unusedVariables false

/-- Its cells. -/
def mcells (vb : Value) (g : Nat) (vn vk va : Value) (M : MS) : List Value :=
  [vb, ptr g 0, vn, vk, I (M.st : Nat), I (M.bl : Nat), I (M.pc : Nat), U M.v, U M.e, U M.s, U M.f, I (M.er : Nat), I (M.op : Nat), va]
def rIns : Rp In := ⟨4, fun _ _ cs i => cs = [.int .u8 (i.op : Nat), I (i.a : Nat), I (i.b : Nat), U i.w] ∧ i.op < 256 ∧ i.a < 1000000 ∧ i.b < 1000000 ∧ i.w < 18446744073709551616,
  by rintro _ _ _ _ ⟨rfl, _⟩; rfl, by rintro _ _ _ _ _ _ h _; exact h⟩
def rBk : Rp Bk := ⟨2, fun Z H cs b => ∃ v, cs = [I (b.many : Nat), v] ∧ Sl rIns Z H v b.l ∧ b.l.length < 1000000 ∧ b.many < 1000000,
  by rintro _ _ _ _ ⟨v, rfl, _⟩; rfl, by rintro _ _ _ _ _ _ ⟨v, rfl, h, h'⟩ k; exact ⟨v, rfl, h.ext k, h'⟩⟩
def rSlot : Rp (Nat × Bool) := ⟨2, fun _ _ cs x => cs = [U x.1, .bool x.2] ∧ x.1 < 18446744073709551616, by rintro _ _ _ _ ⟨rfl, _⟩; rfl, by rintro _ _ _ _ _ _ h _; exact h⟩
def scells (l : List (Nat × Bool)) : List Value := l.flatMap fun x => [U x.1, .bool x.2]
/-- The names' slots: a row that was made at once. -/
def NmAt (H : HHeap) (v : Value) (l : List (Nat × Bool)) : Prop := ∃ b, v = .slice (some ⟨b, 0, none⟩) l.length l.length ∧ H.get b = some (.cells (scells l) true)
/-- Its words are words. -/
structure MOk (M : MS) : Prop where
  v : M.v < 18446744073709551616
  e : M.e < 18446744073709551616
  s : M.s < 18446744073709551616
  f : M.f < 18446744073709551616
  nm : ∀ x ∈ M.nm, x.1 < 18446744073709551616
  ask : ∀ x ∈ M.ask, x < 18446744073709551616
  bl : M.bl < 1000000
  pc : M.pc < 1000000
  nml : M.nm.length ≤ 4096
  kpl : M.kp.length ≤ 16384
  askl : M.ask.length ≤ 1000000
/-- Where it is. -/
structure MIn (Z : Zs) (H : HHeap) (p size : Nat) (vb : Value) (g gw gh : Nat) (vn vk va : Value) (M : MS) : Prop where
  m : H.get p = some (.cells (mcells vb g vn vk va M) true)
  A : AtA H g gw gh size M.T
  nm : NmAt H vn M.nm
  kp : Gr rSlot Z H vk M.kp
  ask : Gr rW Z H va M.ask
  ok : MOk M
  zp : ¬ Z p ∧ ¬ Z g ∧ ¬ Z gw ∧ ¬ Z gh ∧ ∀ b ∈ sblk vn, ¬ Z b
  pg : p ≠ g ∧ p ≠ gw ∧ p ≠ gh
  dn : ∀ b ∈ sblk vn, b ≠ p ∧ b ≠ g ∧ b ≠ gw ∧ b ≠ gh
  dk : ∀ b ∈ sblk vk, b ≠ p ∧ b ≠ g ∧ b ≠ gw ∧ b ≠ gh ∧ b ∉ sblk vn
  da : ∀ b ∈ sblk va, b ≠ p ∧ b ≠ g ∧ b ≠ gw ∧ b ≠ gh ∧ b ∉ sblk vn ∧ b ∉ sblk vk
theorem MIn.lt {Z : Zs} {H : HHeap} {p size : Nat} {vb : Value} {g gw gh : Nat} {vn vk va : Value} {M : MS} (h : MIn Z H p size vb g gw gh vn vk va M) (ok : H.Ok) : p < H.next ∧ g < H.next ∧ gw < H.next ∧ gh < H.next ∧ (∀ b ∈ sblk vn, b < H.next) ∧ (∀ b ∈ sblk vk, b < H.next) ∧ (∀ b ∈ sblk va, b < H.next) := by
  refine ⟨ok _ _ h.m, ok _ _ h.A.a, ok _ _ h.A.w, ok _ _ h.A.h, fun b hb => ?_, h.kp.lt ok, h.ask.lt ok⟩
  obtain ⟨b', rfl, hg⟩ := h.nm
  simp [sblk] at hb; subst hb
  exact ok _ _ hg
/-- What is not its own may change. -/
theorem MIn.frame {Z Z' : Zs} {H H' : HHeap} {p size : Nat} {vb : Value} {g gw gh : Nat} {vn vk va : Value} {M : MS} (h : MIn Z H p size vb g gw gh vn vk va M) (k : Keep Z H Z' H')
    (f : ∀ b, (b = p ∨ b = g ∨ b = gw ∨ b = gh ∨ b ∈ sblk vn ∨ b ∈ sblk vk ∨ b ∈ sblk va) → H'.get b = H.get b ∧ ¬ Z' b) : MIn Z' H' p size vb g gw gh vn vk va M where
  m := by rw [(f p (by simp)).1]; exact h.m
  A := h.A.frame fun b hb => (f b (by rcases hb with h | h | h <;> simp [h])).1
  nm := by
    obtain ⟨b, e, hg⟩ := h.nm
    exact ⟨b, e, by rw [(f b (by simp [e, sblk])).1]; exact hg⟩
  kp := h.kp.ext k fun b hb => f b (by simp [hb])
  ask := h.ask.ext k fun b hb => f b (by simp [hb])
  ok := h.ok
  zp := ⟨(f p (by simp)).2, (f g (by simp)).2, (f gw (by simp)).2, (f gh (by simp)).2, fun b hb => (f b (by simp [hb])).2⟩
  pg := h.pg
  dn := h.dn
  dk := h.dk
  da := h.da
/-- Something was made beside it. -/
theorem MIn.old {Z Z' : Zs} {H H' : HHeap} {p size : Nat} {vb : Value} {g gw gh : Nat} {vn vk va : Value} {M : MS} (h : MIn Z H p size vb g gw gh vn vk va M) (ok : H.Ok) (hO : Old H H') (hZ : ∀ b, Z b → b < H.next) (h1 : ∀ b, Z b → Z' b) (h2 : ∀ b, Z' b → Z b ∨ H.next ≤ b) : MIn Z' H' p size vb g gw gh vn vk va M := by
  have l := h.lt ok
  refine h.frame (fun b hb => ⟨h1 b hb, hO.2 b (hZ b hb)⟩) fun b hb => ?_
  have hl : b < H.next ∧ ¬ Z b := by
    rcases hb with rfl | rfl | rfl | rfl | hb | hb | hb
    · exact ⟨l.1, h.zp.1⟩
    · exact ⟨l.2.1, h.zp.2.1⟩
    · exact ⟨l.2.2.1, h.zp.2.2.1⟩
    · exact ⟨l.2.2.2.1, h.zp.2.2.2.1⟩
    · exact ⟨l.2.2.2.2.1 b hb, h.zp.2.2.2.2 b hb⟩
    · exact ⟨l.2.2.2.2.2.1 b hb, (h.kp.blk b hb).1⟩
    · exact ⟨l.2.2.2.2.2.2 b hb, (h.ask.blk b hb).1⟩
  exact ⟨hO.2 b hl.1, fun hz => (h2 b hz).elim hl.2 fun h => by omega⟩
/-- Its own cells are set. -/
theorem MIn.put {Z : Zs} {H : HHeap} {p size : Nat} {vb : Value} {g gw gh : Nat} {vn vk va : Value} {M M' : MS} (h : MIn Z H p size vb g gw gh vn vk va M) (hT : M'.T = M.T) (hn : M'.nm = M.nm) (hk : M'.kp = M.kp) (ha : M'.ask = M.ask) (ok : MOk M') : MIn Z (H.set p (.cells (mcells vb g vn vk va M') true)) p size vb g gw gh vn vk va M' where
  m := by rw [get_set_same]
  A := by rw [hT]; exact h.A.frame fun b hb => get_set_ne _ _ _ (by rcases hb with rfl | rfl | rfl; exact h.pg.1.symm; exact h.pg.2.1.symm; exact h.pg.2.2.symm)
  nm := by
    rw [hn]
    obtain ⟨b, e, hg⟩ := h.nm
    exact ⟨b, e, by rw [get_set_ne _ _ _ (h.dn b (by simp [e, sblk])).1]; exact hg⟩
  kp := by rw [hk]; exact h.kp.ext (fun b hb => ⟨hb, get_set_ne _ _ _ (by rintro rfl; exact h.zp.1 hb)⟩) fun b hb => ⟨get_set_ne _ _ _ (h.dk b hb).1, (h.kp.blk b hb).1⟩
  ask := by rw [ha]; exact h.ask.ext (fun b hb => ⟨hb, get_set_ne _ _ _ (by rintro rfl; exact h.zp.1 hb)⟩) fun b hb => ⟨get_set_ne _ _ _ (h.da b hb).1, (h.ask.blk b hb).1⟩
  ok := ok
  zp := h.zp
  pg := h.pg
  dn := h.dn
  dk := h.dk
  da := h.da
/-- What stays, stays. -/
structure Kp (Z : Zs) (H H' : HHeap) : Prop where
  next : H.next ≤ H'.next
  keep : ∀ b, Z b → H'.get b = H.get b
theorem Kp.refl (Z : Zs) (H : HHeap) : Kp Z H H := ⟨Nat.le_refl _, fun _ _ => rfl⟩
theorem Kp.trans {Z : Zs} {H H' H'' : HHeap} (a : Kp Z H H') (b : Kp Z H' H'') : Kp Z H H'' := ⟨Nat.le_trans a.next b.next, fun x hx => by rw [b.keep x hx, a.keep x hx]⟩
theorem Kp.ext {Z : Zs} {H H' : HHeap} (h : Kp Z H H') : Keep Z H Z H' := fun b hb => ⟨hb, h.keep b hb⟩
theorem Kp.set {Z : Zs} {H : HHeap} {p : Nat} {o : HObj} (h : ¬ Z p) : Kp Z H (H.set p o) := ⟨by rw [HHeap.set_next]; omega, fun b hb => get_set_ne _ _ _ (by rintro rfl; exact h hb)⟩
end Go.HL
/-
  Walks: the machine's small functions.
-/
namespace Go.HL
open Go.RowKit Go.Proofs
set_option maxHeartbeats 4000000
set_option maxRecDepth 100000
set_option linter.unusedSimpArgs false
set_option linter.unusedVariables false
theorem getD_none {l : List Nat} {i : Nat} (h : l.length ≤ i) : l.getD i 0 = 0 := by rw [List.getD_eq_getElem?_getD, List.getElem?_eq_none h]; rfl
theorem getV_gt (T : Things) (w i : Nat) : ∃ e : Nat, getV T w (i : Nat) = .tuple #[U (gt T w i), I (e : Nat)] := by
  unfold getV gt wordsN
  cases findT T w with
  | none => exact ⟨2, by simp⟩
  | some t =>
    simp only
    by_cases h : (0 : Int) ≤ (i : Nat) ∧ ((i : Nat) : Int) < t.l.length
    · rw [if_pos h]; exact ⟨0, by simp⟩
    · rw [if_neg h]; exact ⟨1, by rw [getD_none (by omega)]; rfl⟩
theorem gt_lt {T : Things} (h : TOk T) (w i : Nat) : gt T w i < 18446744073709551616 := by
  unfold gt wordsN
  cases hf : findT T w with
  | none => simp
  | some t =>
    simp only
    by_cases hi : i < t.l.length
    · have ht : t ∈ T := by unfold findT at hf; split at hf; exact (atP_words T _ t hf).2.2.2; cases hf
      rw [List.getD_eq_getElem?_getD, List.getElem?_eq_getElem hi]
      exact (h t ht).words _ (List.getElem_mem hi)
    · rw [getD_none (by omega)]; omega
section
variable {Z : Zs} {H : HHeap} {p size : Nat} {vb : Value} {g gw gh : Nat} {vn vk va : Value} {M : MS}
theorem vm_is (hM : MIn Z H p size vb g gw gh vn vk va M) (w k n : Nat) (hw : w < 18446744073709551616) (R : Value → HHeap → Prop) (hR : R (.bool (isW M.T w k n)) H) :
    HCalls Tryz.prog 69 [ptr p 0, U w, I (k : Nat), I (n : Nat)] H R := by
  refine HCalls.of_hw Tryz.func69 rfl _ Tryz.ntmps69 _ (by rw [Tryz.results69]) ?_
  rw [hframe0_eq _ _ (by simp)]
  simp only [List.zipIdx_cons, List.zipIdx_nil, List.map_cons, List.map_nil, Nat.reduceAdd]
  simp (disch := first | omega | (show allOne _ = true; simp [allOne, Value.oneCell', S]) | (simp only [qz]; first | done | omega)) only [go_sem, hM.m, ldc_cells, mcells]
  refine arena_Kind _ _ _ _ _ _ hM.A w hw _ ?_
  by_cases h1 : kindN M.T w = k
  · simp (disch := first | omega | (show allOne _ = true; simp [allOne, Value.oneCell', S]) | (simp only [qz]; first | done | omega)) only [go_sem, hM.m, ldc_cells, mcells, h1]
    refine arena_Len _ _ _ _ _ _ hM.A w hw _ ?_
    simp (disch := first | omega | (show allOne _ = true; simp [allOne, Value.oneCell', S]) | (simp only [qz]; first | done | omega)) only [go_sem, hM.m, ldc_cells, mcells]
    rw [show decide ((lenN M.T w : Int) = (n : Int)) = isW M.T w k n by unfold isW; apply decide_eq_decide.2; omega]
    exact hR
  · simp (disch := first | omega | (show allOne _ = true; simp [allOne, Value.oneCell', S]) | (simp only [qz]; first | done | omega)) only [go_sem, hM.m, ldc_cells, mcells]
    rw [show isW M.T w k n = false by unfold isW; exact decide_eq_false (by omega)] at hR
    exact hR
theorem vm_get (hM : MIn Z H p size vb g gw gh vn vk va M) (w i : Nat) (hw : w < 18446744073709551616) (R : Value → HHeap → Prop) (hR : R (U (gt M.T w i)) H) :
    HCalls Tryz.prog 71 [ptr p 0, U w, I (i : Nat)] H R := by
  refine HCalls.of_hw Tryz.func71 rfl _ Tryz.ntmps71 _ (by rw [Tryz.results71]) ?_
  rw [hframe0_eq _ _ (by simp)]
  simp only [List.zipIdx_cons, List.zipIdx_nil, List.map_cons, List.map_nil, Nat.reduceAdd]
  simp (disch := first | omega | (show allOne _ = true; simp [allOne, Value.oneCell', S]) | (simp only [qz]; first | done | omega)) only [go_sem, hM.m, ldc_cells, mcells]
  refine arena_Get _ _ _ _ _ _ hM.A w hw _ _ ?_
  obtain ⟨e, he⟩ := getV_gt M.T w i
  rw [he]
  simp (disch := first | omega | (show allOne _ = true; simp [allOne, Value.oneCell', S]) | (simp only [qz]; first | done | omega)) only [go_sem]
  exact hR
theorem vm_fail (hM : MIn Z H p size vb g gw gh vn vk va M) (e : Nat) (R : Value → HHeap → Prop)
    (hR : MIn Z (H.set p (.cells (mcells vb g vn vk va (M.fail e)) true)) p size vb g gw gh vn vk va (M.fail e) → Kp Z H (H.set p (.cells (mcells vb g vn vk va (M.fail e)) true)) → R (.tuple #[]) (H.set p (.cells (mcells vb g vn vk va (M.fail e)) true))) :
    HCalls Tryz.prog 35 [ptr p 0, I (e : Nat)] H R := by
  have h1 := hM.put (M' := M.fail e) rfl rfl rfl rfl ⟨hM.ok.v, hM.ok.e, hM.ok.s, hM.ok.f, hM.ok.nm, hM.ok.ask, hM.ok.bl, hM.ok.pc, hM.ok.nml, hM.ok.kpl, hM.ok.askl⟩
  have h2 := hR h1 (Kp.set hM.zp.1)
  refine HCalls.of_hw Tryz.func35 rfl _ Tryz.ntmps35 _ (by rw [Tryz.results35]) ?_
  rw [hframe0_eq _ _ (by simp)]
  simp only [List.zipIdx_cons, List.zipIdx_nil, List.map_cons, List.map_nil, Nat.reduceAdd]
  simp (disch := first | omega | (show allOne _ = true; simp [allOne, Value.oneCell', S]) | (simp only [qz]; first | done | omega)) only [go_sem, hM.m, ldc_cells, mcells, stc_cells, set_set]
  exact h2
end
end Go.HL
/-
  Walks: functions and frames of a machine; a value is told.
-/
namespace Go.HL
open Go.RowKit Go.Proofs
set_option maxHeartbeats 4000000
set_option maxRecDepth 100000
set_option linter.unusedSimpArgs false
set_option linter.unusedVariables false
theorem bk_at {Z : Zs} {H : HHeap} {vb : Value} {B : List Bk} (h : Sl rBk Z H vb B) {i : Nat} {x : Bk} (hx : B[i]? = some x) :
    ∃ b o k c cs rw v, vb = .slice (some ⟨b, o, k⟩) B.length c ∧ Z b ∧ H.get b = some (.cells cs rw) ∧ cs[o + i * 2]? = some (I (x.many : Nat)) ∧ cs[o + i * 2 + 1]? = some v ∧ Sl rIns Z H v x.l ∧ x.l.length < 1000000 ∧ x.many < 1000000 := by
  obtain ⟨b, o, k, c, cs, rw, h1, h2, h3, h4, v, h5, h6, h7, h8⟩ := h.at hx
  have e0 := flatW_get (cs := cs) (o := o) (n := 2) (i := i) (j := 0) (by omega)
  have e1 := flatW_get (cs := cs) (o := o) (n := 2) (i := i) (j := 1) (by omega)
  have h5' : flatW cs o 2 i = [I (x.many : Nat), v] := h5
  rw [h5'] at e0 e1
  exact ⟨b, o, k, c, cs, rw, v, h1, h2, h3, e0.symm, e1.symm, h6, h7, h8⟩
section
variable {Z : Zs} {H : HHeap} {p size : Nat} {vb : Value} {g gw gh : Nat} {vn vk va : Value} {M : MS} {B : List Bk}
theorem fnF_lt {T : Things} {f b : Nat} (h : fnF B T f = some b) : b < B.length := by
  unfold fnF at h
  split at h
  · split at h
    · split at h
      · cases h; omega
      · cases h
    · cases h
  · cases h
theorem vm_fn (hM : MIn Z H p size vb g gw gh vn vk va M) (hB : Sl rBk Z H vb B) (f : Nat) (hf : f < 18446744073709551616) (R : Value → HHeap → Prop)
    (hR : ∀ n : Int, (∀ b : Nat, fnF B M.T f = some b → n = b) → R (.tuple #[I n, .bool (fnF B M.T f).isSome]) H) :
    HCalls Tryz.prog 68 [ptr p 0, U f] H R := by
  obtain ⟨a, c, rfl⟩ := hB.len
  refine HCalls.of_hw Tryz.func68 rfl _ Tryz.ntmps68 _ (by rw [Tryz.results68]) ?_
  rw [hframe0_eq _ _ (by simp)]
  simp only [List.zipIdx_cons, List.zipIdx_nil, List.map_cons, List.map_nil, Nat.reduceAdd]
  simp (disch := first | omega | (show allOne _ = true; simp [allOne, Value.oneCell', S]) | (simp only [qz]; first | done | omega)) only [go_sem]
  refine vm_is hM f 2 2 hf _ ?_
  by_cases h1 : isW M.T f 2 2 = true
  · rw [h1]
    simp (disch := first | omega | (show allOne _ = true; simp [allOne, Value.oneCell', S]) | (simp only [qz]; first | done | omega)) only [go_sem]
    refine vm_get hM f 0 hf _ ?_
    simp (disch := first | omega | (show allOne _ = true; simp [allOne, Value.oneCell', S]) | (simp only [qz]; first | done | omega)) only [go_sem]
    refine word_ToInt _ (gt_lt hM.A.ok f 0) _ _ ?_
    unfold toIntV
    have hfn : fnF B M.T f = match toIntF (gt M.T f 0) with
      | some n => if 0 ≤ n ∧ n < B.length then some n.toNat else none
      | none => none := by unfold fnF; rw [if_pos h1]; rfl
    cases hn : toIntF (gt M.T f 0) with
    | none =>
      rw [hn] at hfn
      rw [hfn] at hR
      simp (disch := first | omega | (show allOne _ = true; simp [allOne, Value.oneCell', S]) | (simp only [qz]; first | done | omega)) only [go_sem]
      refine Hwp.drawn mixed [0, 0, 2, 6, 14, 30, 62, 126, 126, 382, 894, 1918, 3966, 8190, 16382, 127, 65535] (.op 0 (.op 1 (.op 2 (.op 3 (.op 4 (.op 5 (.op 6 (.op 7 (.op 8 (.op 9 (.op 10 (.op 11 (.op 12 (.op 13 (.op 14 (.op 15 (.op 16 .done))))))))))))))))) (by kernel_rfl) ?_
      simp (disch := first | omega | (show allOne _ = true; simp [allOne, Value.oneCell', S]) | (simp only [qz]; first | done | omega)) only [go_sem]
      exact hR 0 (fun b hb => by cases hb)
    | some n =>
      rw [hn] at hfn
      simp only at hfn
      by_cases h2 : 0 ≤ n
      · by_cases h3 : n < B.length
        · rw [if_pos ⟨h2, h3⟩] at hfn
          rw [hfn] at hR
          simp (disch := first | omega | (show allOne _ = true; simp [allOne, Value.oneCell', S]) | (simp only [qz]; first | done | omega)) only [go_sem]
          refine Hwp.drawn mixed [0, 0, 2, 6, 14, 30, 62, 126, 126, 382, 894, 1918, 3966, 8190, 16382, 127, 65535] (.op 0 (.op 1 (.op 2 (.op 3 (.op 4 (.op 5 (.op 6 (.op 7 (.op 8 (.op 9 (.op 10 (.op 11 (.op 12 (.op 13 (.op 14 (.op 15 (.op 16 .done))))))))))))))))) (by kernel_rfl) ?_
          simp (disch := first | omega | (show allOne _ = true; simp [allOne, Value.oneCell', S]) | (simp only [qz]; first | done | omega)) only [go_sem, hM.m, ldc_cells, mcells]
          rw [decide_eq_true h3]
          exact hR n (fun b hb => by cases hb; omega)
        · rw [if_neg (by omega)] at hfn
          rw [hfn] at hR
          simp (disch := first | omega | (show allOne _ = true; simp [allOne, Value.oneCell', S]) | (simp only [qz]; first | done | omega)) only [go_sem]
          refine Hwp.drawn mixed [0, 0, 2, 6, 14, 30, 62, 126, 126, 382, 894, 1918, 3966, 8190, 16382, 127, 65535] (.op 0 (.op 1 (.op 2 (.op 3 (.op 4 (.op 5 (.op 6 (.op 7 (.op 8 (.op 9 (.op 10 (.op 11 (.op 12 (.op 13 (.op 14 (.op 15 (.op 16 .done))))))))))))))))) (by kernel_rfl) ?_
          simp (disch := first | omega | (show allOne _ = true; simp [allOne, Value.oneCell', S]) | (simp only [qz]; first | done | omega)) only [go_sem, hM.m, ldc_cells, mcells]
          rw [decide_eq_false h3]
          exact hR n (fun b hb => by cases hb)
      · rw [if_neg (by omega)] at hfn
        rw [hfn] at hR
        simp (disch := first | omega | (show allOne _ = true; simp [allOne, Value.oneCell', S]) | (simp only [qz]; first | done | omega)) only [go_sem]
        refine Hwp.drawn mixed [0, 0, 2, 6, 14, 30, 62, 126, 126, 382, 894, 1918, 3966, 8190, 16382, 127, 65535] (.op 0 (.op 1 (.op 2 (.op 3 (.op 4 (.op 5 (.op 6 (.op 7 (.op 8 (.op 9 (.op 10 (.op 11 (.op 12 (.op 13 (.op 14 (.op 15 (.op 16 .done))))))))))))))))) (by kernel_rfl) ?_
        simp (disch := first | omega | (show allOne _ = true; simp [allOne, Value.oneCell', S]) | (simp only [qz]; first | done | omega)) only [go_sem, hM.m, ldc_cells, mcells]
        exact hR n (fun b hb => by cases hb)
  · have h1' : isW M.T f 2 2 = false := by simpa using h1
    rw [h1']
    have hfn : fnF B M.T f = none := by unfold fnF; rw [if_neg h1]
    rw [hfn] at hR
    simp (disch := first | omega | (show allOne _ = true; simp [allOne, Value.oneCell', S]) | (simp only [qz]; first | done | omega)) only [go_sem]
    exact hR 0 (fun b hb => by cases hb)
theorem vm_callable (hM : MIn Z H p size vb g gw gh vn vk va M) (hB : Sl rBk Z H vb B) (f n : Nat) (hf : f < 18446744073709551616) (hn : n < 1000000) (R : Value → HHeap → Prop)
    (hR : R (.tuple #[.bool (callF B M.T f n).1, I ((callF B M.T f n).2 : Nat)]) H) :
    HCalls Tryz.prog 34 [ptr p 0, U f, I (n : Nat)] H R := by
  refine HCalls.of_hw Tryz.func34 rfl _ Tryz.ntmps34 _ (by rw [Tryz.results34]) ?_
  rw [hframe0_eq _ _ (by simp)]
  simp only [List.zipIdx_cons, List.zipIdx_nil, List.map_cons, List.map_nil, Nat.reduceAdd]
  simp (disch := first | omega | (show allOne _ = true; simp [allOne, Value.oneCell', S]) | (simp only [qz]; first | done | omega)) only [go_sem]
  refine vm_fn hM hB f hf _ ?_
  intro z hz
  unfold callF at hR
  cases hb : fnF B M.T f with
  | some b =>
    rw [hb] at hR
    obtain rfl := hz b hb
    have hlt := fnF_lt hb
    obtain ⟨x, hx⟩ : ∃ x, B[b]? = some x := ⟨_, List.getElem?_eq_getElem hlt⟩
    obtain ⟨bb, o, k, c, cs, rw, v, rfl, h2, h3, h4, h5, h6, h7, h8⟩ := bk_at hB hx
    simp only [manyOf, hx] at hR
    simp (disch := first | omega | (show allOne _ = true; simp [allOne, Value.oneCell', S]) | (simp only [qz]; first | done | omega)) only [go_sem, hM.m, ldc_cells, mcells, h3, ixa_ok, h4, Option.isSome_some]
    by_cases he : n = x.many
    · rw [if_pos he] at hR
      simp (disch := first | omega | (show allOne _ = true; simp [allOne, Value.oneCell', S]) | (simp only [qz]; first | done | omega)) only [go_sem, he]
      exact hR
    · rw [if_neg he] at hR
      simp (disch := first | omega | (show allOne _ = true; simp [allOne, Value.oneCell', S]) | (simp only [qz]; first | done | omega)) only [go_sem]
      exact hR
  | none =>
    rw [hb] at hR
    simp only at hR
    simp (disch := first | omega | (show allOne _ = true; simp [allOne, Value.oneCell', S]) | (simp only [qz]; first | done | omega)) only [go_sem, Option.isSome_none]
    refine vm_is hM f 5 1 hf _ ?_
    by_cases h1 : isW M.T f 5 1 = true
    · rw [h1] at hR ⊢
      simp only [if_true] at hR
      simp (disch := first | omega | (show allOne _ = true; simp [allOne, Value.oneCell', S]) | (simp only [qz]; first | done | omega)) only [go_sem]
      by_cases he : n = 1
      · rw [if_pos he] at hR
        simp (disch := first | omega | (show allOne _ = true; simp [allOne, Value.oneCell', S]) | (simp only [qz]; first | done | omega)) only [go_sem, he]
        exact hR
      · rw [if_neg he] at hR
        simp (disch := first | omega | (show allOne _ = true; simp [allOne, Value.oneCell', S]) | (simp only [qz]; first | done | omega)) only [go_sem]
        exact hR
    · have h1' : isW M.T f 5 1 = false := by simpa using h1
      rw [h1'] at hR ⊢
      simp (disch := first | omega | (show allOne _ = true; simp [allOne, Value.oneCell', S]) | (simp only [qz]; first | done | omega)) only [go_sem]
      exact hR
end
end Go.HL
/-
  Walks: places of frames; a value is told; things are made.
-/
namespace Go.HL
open Go.RowKit Go.Proofs
set_option maxHeartbeats 4000000
set_option maxRecDepth 100000
set_option linter.unusedSimpArgs false
set_option linter.unusedVariables false
section
variable {Z : Zs} {H : HHeap} {p size : Nat} {vb : Value} {g gw gh : Nat} {vn vk va : Value} {M : MS} {B : List Bk}
def placeV : Option (Nat × Nat) → Value
  | some (b, a) => .tuple #[I (b : Nat), I (a : Nat), .bool true]
  | none => .tuple #[I 0, I 0, .bool false]
theorem vm_place (hM : MIn Z H p size vb g gw gh vn vk va M) (hB : Sl rBk Z H vb B) (w : Nat) (hw : w < 18446744073709551616) (R : Value → HHeap → Prop) (hR : R (placeV (placeF B M.T w)) H) :
    HCalls Tryz.prog 125 [ptr p 0, U w] H R := by
  obtain ⟨ab, cb, hvb⟩ := hB.len
  unfold placeF at hR
  refine HCalls.of_hw Tryz.func125 rfl _ Tryz.ntmps125 _ (by rw [Tryz.results125]) ?_
  rw [hframe0_eq _ _ (by simp)]
  simp only [List.zipIdx_cons, List.zipIdx_nil, List.map_cons, List.map_nil, Nat.reduceAdd]
  simp (disch := first | omega | (show allOne _ = true; simp [allOne, Value.oneCell', S]) | (simp only [qz]; first | done | omega)) only [go_sem]
  refine vm_is hM w 4 5 hw _ ?_
  by_cases h1 : isW M.T w 4 5 = true
  · rw [if_pos h1] at hR
    rw [h1]
    simp (disch := first | omega | (show allOne _ = true; simp [allOne, Value.oneCell', S]) | (simp only [qz]; first | done | omega)) only [go_sem]
    refine vm_get hM w 0 hw _ ?_
    simp (disch := first | omega | (show allOne _ = true; simp [allOne, Value.oneCell', S]) | (simp only [qz]; first | done | omega)) only [go_sem]
    refine word_ToInt _ (gt_lt hM.A.ok w 0) _ _ ?_
    unfold toIntV
    cases hb : toIntF (gt M.T w 0) with
    | none =>
      rw [hb] at hR
      simp (disch := first | omega | (show allOne _ = true; simp [allOne, Value.oneCell', S]) | (simp only [qz]; first | done | omega)) only [go_sem]
      refine vm_get hM w 1 hw _ ?_
      simp (disch := first | omega | (show allOne _ = true; simp [allOne, Value.oneCell', S]) | (simp only [qz]; first | done | omega)) only [go_sem]
      refine word_ToInt _ (gt_lt hM.A.ok w 1) _ _ ?_
      unfold toIntV
      cases ha : toIntF (gt M.T w 1) <;>
      · simp (disch := first | omega | (show allOne _ = true; simp [allOne, Value.oneCell', S]) | (simp only [qz]; first | done | omega)) only [go_sem]
        exact hR
    | some b =>
      rw [hb] at hR
      simp (disch := first | omega | (show allOne _ = true; simp [allOne, Value.oneCell', S]) | (simp only [qz]; first | done | omega)) only [go_sem]
      refine vm_get hM w 1 hw _ ?_
      simp (disch := first | omega | (show allOne _ = true; simp [allOne, Value.oneCell', S]) | (simp only [qz]; first | done | omega)) only [go_sem]
      refine word_ToInt _ (gt_lt hM.A.ok w 1) _ _ ?_
      unfold toIntV
      cases ha : toIntF (gt M.T w 1) with
      | none =>
        rw [ha] at hR
        simp (disch := first | omega | (show allOne _ = true; simp [allOne, Value.oneCell', S]) | (simp only [qz]; first | done | omega)) only [go_sem]
        exact hR
      | some a =>
        rw [ha] at hR
        simp only at hR
        simp (disch := first | omega | (show allOne _ = true; simp [allOne, Value.oneCell', S]) | (simp only [qz]; first | done | omega)) only [go_sem, hM.m, ldc_cells, mcells]
        by_cases c1 : 0 ≤ b
        · by_cases c2 : b < B.length
          · obtain ⟨n, rfl⟩ := Int.eq_ofNat_of_zero_le c1
            have hlt : n < B.length := by omega
            obtain ⟨x, hx⟩ : ∃ x, B[n]? = some x := ⟨_, List.getElem?_eq_getElem hlt⟩
            obtain ⟨bb, o, k, c, cs, rw, v, e1, h2, h3, h4, h5, h6, h7, h8⟩ := bk_at hB hx
            obtain ⟨a2, c2', e2⟩ := h6.len
            have hle : lenAt B n = x.l.length := by unfold lenAt; rw [hx]
            rw [Int.toNat_natCast, hle] at hR
            subst e1
            subst e2
            by_cases c3 : 0 ≤ a
            · by_cases c4 : a < x.l.length
              · rw [if_pos ⟨c1, c2, c3, c4⟩] at hR
                obtain ⟨m, rfl⟩ := Int.eq_ofNat_of_zero_le c3
                rw [Int.toNat_natCast] at hR
                simp (disch := first | omega | (show allOne _ = true; simp [allOne, Value.oneCell', S]) | (simp only [qz]; first | done | omega)) only [go_sem, hM.m, ldc_cells, mcells, h3, ixa_ok, h4, h5]
                exact hR
              · rw [if_neg (by omega)] at hR
                simp (disch := first | omega | (show allOne _ = true; simp [allOne, Value.oneCell', S]) | (simp only [qz]; first | done | omega)) only [go_sem, hM.m, ldc_cells, mcells, h3, ixa_ok, h4, h5]
                exact hR
            · rw [if_neg (by omega)] at hR
              simp (disch := first | omega | (show allOne _ = true; simp [allOne, Value.oneCell', S]) | (simp only [qz]; first | done | omega)) only [go_sem, hM.m, ldc_cells, mcells, h3, ixa_ok, h4, h5]
              exact hR
          · rw [if_neg (by omega)] at hR
            subst hvb
            simp (disch := first | omega | (show allOne _ = true; simp [allOne, Value.oneCell', S]) | (simp only [qz]; first | done | omega)) only [go_sem, hM.m, ldc_cells, mcells]
            exact hR
        · rw [if_neg (by omega)] at hR
          subst hvb
          simp (disch := first | omega | (show allOne _ = true; simp [allOne, Value.oneCell', S]) | (simp only [qz]; first | done | omega)) only [go_sem, hM.m, ldc_cells, mcells]
          exact hR
  · rw [if_neg h1] at hR
    have h1' : isW M.T w 4 5 = false := by simpa using h1
    rw [h1']
    simp (disch := first | omega | (show allOne _ = true; simp [allOne, Value.oneCell', S]) | (simp only [qz]; first | done | omega)) only [go_sem]
    exact hR
end
end Go.HL
