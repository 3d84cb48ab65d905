/-
  Joined: M17, M18, M19.
-/
import Derived.Test.YtdccndcdmfhmiaaGreatDoorPFM16
set_option linter.unusedVariables false
set_option linter.unusedSimpArgs false
/-
  Walks: room for so many words.
-/
namespace Go.HL
open Go.RowKit Go.Proofs
set_option maxHeartbeats 4000000
set_option maxRecDepth 100000
set_option linter.unusedSimpArgs false
set_option linter.unusedVariables false
section
variable {Z : Zs} {H : HHeap} {p size : Nat} {vb : Value} {g gw gh : Nat} {vn vk va : Value} {M : MS} {B : List Bk}
theorem vm_room (hM : MIn Z H p size vb g gw gh vn vk va M) (hZ : ∀ b, Z b → b < H.next) (n : Nat) (hn : n < 1000000) (mv : Value) (pm : List (Nat × Nat)) (ws : List Nat) (hm : Rw rPt Z H mv pm) (hpm : pm.length ≤ 1000) (dm : ∀ b ∈ sblk mv, b ≠ p ∧ b ≠ g ∧ b ≠ gw ∧ b ≠ gh ∧ b ∉ sblk vn ∧ b ∉ sblk vk ∧ b ∉ sblk va)
    (hw : PtW H pm ws) (hws : ∀ w ∈ ws, w < 18446744073709551616) (hmb : ∀ x ∈ pm, ¬ Z x.1 ∧ x.1 ∉ sblk mv ∧ x.1 ≠ p ∧ x.1 ≠ g ∧ x.1 ≠ gw ∧ x.1 ≠ gh ∧ x.1 ∉ sblk vn ∧ x.1 ∉ sblk vk ∧ x.1 ∉ sblk va) (hmn : pm.Nodup) (R : Value → HHeap → Prop)
    (hR : ∀ H' g' gw' gh', MIn Z H' p size vb g' gw' gh' vn vk va (M.room size n ws).2.1 → Kp Z H H' → PtW H' pm (M.room size n ws).2.2 → (∀ x ∈ pm, ∀ n, CellsOf H x.1 n → CellsOf H' x.1 n) → (∀ x ∈ pm, x.1 ≠ g' ∧ x.1 ≠ gw' ∧ x.1 ≠ gh') → R (.bool (M.room size n ws).1) H') :
    HCalls Tryz.prog 30 [ptr p 0, I (n : Nat), mv] H R := by
  have hroom := hM.A.room
  have hbig := hM.A.big
  obtain ⟨am, hmv⟩ := hm.len
  subst hmv
  refine HCalls.of_hw Tryz.func30 rfl _ Tryz.ntmps30 _ (by rw [Tryz.results30]) ?_
  rw [hframe0_eq _ _ (by simp)]
  simp only [List.zipIdx_cons, List.zipIdx_nil, List.map_cons, List.map_nil, Nat.reduceAdd]
  simp (disch := first | omega | (show allOne _ = true; simp [allOne, Value.oneCell', S]) | (simp only [qz]; first | done | omega)) only [go_sem]
  refine Hwp.drawn mixed [0, 1, 3, 7, 15, 0, 32, 96, 224, 511, 1023, 0, 4095] (.op 0 (.op 1 (.op 2 (.op 3 (.op 5 (.op 6 (.op 7 (.op 8 (.op 11 (.eff 4 (.eff 9 (.op 10 (.op 12 .done)) .stop) .stop)))))))))) (by kernel_rfl) ?_
  simp (disch := first | omega | (show allOne _ = true; simp [allOne, Value.oneCell', S]) | (simp only [qz]; first | done | omega)) only [go_sem, hM.m, ldc_cells, mcells]
  refine arena_Size _ _ _ _ _ _ hM.A _ ?_
  simp (disch := first | omega | (show allOne _ = true; simp [allOne, Value.oneCell', S]) | (simp only [qz]; first | done | omega)) only [go_sem, hM.m, ldc_cells, mcells]
  refine arena_Used _ _ _ _ _ _ hM.A _ ?_
  by_cases h1 : n ≤ size - usedOf M.T
  · have e : M.room size n ws = (true, M, ws) := by unfold MS.room; rw [if_pos h1]
    rw [e] at hR
    have := hR H g gw gh hM (Kp.refl Z H) hw (fun _ _ _ h => h) (fun x hx => ⟨(hmb x hx).2.2.2.1, (hmb x hx).2.2.2.2.1, (hmb x hx).2.2.2.2.2.1⟩)
    simp (disch := first | omega | (show allOne _ = true; simp [allOne, Value.oneCell', S]) | (simp only [qz]; first | done | omega)) only [go_sem]
    exact this
  · have e : M.room size n ws = (decide (n ≤ size - usedOf (M.collect ws).T), M.collect ws, M.moved ws) := by unfold MS.room; rw [if_neg h1]
    rw [e] at hR
    simp (disch := first | omega | (show allOne _ = true; simp [allOne, Value.oneCell', S]) | (simp only [qz]; first | done | omega)) only [go_sem]
    refine vm_collect hM hZ _ pm ws hm hpm dm hw hws hmb hmn _ ?_
    intro H2 g' gw' gh' q1 q2 q3 q4 q5
    have hroom2 := q1.A.room
    simp (disch := first | omega | (show allOne _ = true; simp [allOne, Value.oneCell', S]) | (simp only [qz]; first | done | omega)) only [go_sem]
    refine Hwp.drawn mixed [0, 1, 3, 7, 15, 0, 32, 96, 224, 511, 1023, 0, 4095, 8191] (.op 0 (.op 1 (.op 2 (.op 3 (.op 5 (.op 6 (.op 7 (.op 8 (.op 11 (.eff 4 (.eff 9 (.op 10 (.op 12 (.op 13 .done))) .stop) .stop)))))))))) (by kernel_rfl) ?_
    simp (disch := first | omega | (show allOne _ = true; simp [allOne, Value.oneCell', S]) | (simp only [qz]; first | done | omega)) only [go_sem, q1.m, ldc_cells, mcells]
    refine arena_Size _ _ _ _ _ _ q1.A _ ?_
    simp (disch := first | omega | (show allOne _ = true; simp [allOne, Value.oneCell', S]) | (simp only [qz]; first | done | omega)) only [go_sem, q1.m, ldc_cells, mcells]
    refine arena_Used _ _ _ _ _ _ q1.A _ ?_
    have := hR H2 g' gw' gh' q1 q2 q3 q4 q5
    simp (disch := first | omega | (show allOne _ = true; simp [allOne, Value.oneCell', S]) | (simp only [qz]; first | done | omega)) only [go_sem]
    rw [show decide ((n : Int) ≤ (size : Int) - (usedOf (M.collect ws).T : Int)) = decide (n ≤ size - usedOf (M.collect ws).T) by apply decide_eq_decide.2; omega]
    exact this
theorem vm_room0 (hM : MIn Z H p size vb g gw gh vn vk va M) (hZ : ∀ b, Z b → b < H.next) (n : Nat) (hn : n < 1000000) (R : Value → HHeap → Prop)
    (hR : ∀ H' g' gw' gh', MIn Z H' p size vb g' gw' gh' vn vk va (M.room size n []).2.1 → Kp Z H H' → R (.bool (M.room size n []).1) H') :
    HCalls Tryz.prog 30 [ptr p 0, I (n : Nat), .slice none 0 0] H R :=
  vm_room hM hZ n hn _ [] [] (.inl (Gr.nil _ _ _)) (by simp) (by simp [sblk]) .nil (by simp) (by simp) (by simp) _ fun H' g' gw' gh' h1 h2 _ _ _ => hR H' g' gw' gh' h1 h2
end
end Go.HL
/-
  Walks: what is done to words of the stack.
-/
namespace Go.HL
open Go.RowKit Go.Proofs
set_option maxHeartbeats 4000000
set_option maxRecDepth 100000
set_option linter.unusedSimpArgs false
set_option linter.unusedVariables false
theorem doP_lt {size : Nat} {T : Things} (hT : TOk T) (hu : usedOf T ≤ 65536) (op : Nat) (l : List Nat) : (doP size T op l).1 < 18446744073709551616 := by
  have hb : ∀ b, boolW b < 18446744073709551616 := by intro b; cases b <;> (unfold boolW; simp)
  match l with
  | [] => rw [doP]; · simp
          all_goals simp
  | [w] =>
    rw [doP]
    split
    · exact hb _
    · split
      · split
        · exact gt_lt hT w (op - 13) |> fun h => by
            unfold gt wordsN at h
            cases hf : findT T w with
            | none => simp
            | some t => rw [hf] at h; simpa using h
        · simp
      · simp
  | [x, y] =>
    rw [doP]
    split
    · obtain ⟨w, e, hv, hw⟩ := doV_form (signs7.getD (op - 1) 0).toNat x y
      rw [hv]
      simpa using hw
    · split
      · exact hb _
      · split
        · split
          · show wordAt _ < _
            unfold wordAt; omega
          · simp
        · simp
  | x :: y :: z :: l => rw [doP]; · simp
                        all_goals simp
theorem prim_DoN (H : HHeap) (g op : Nat) (a : Option Addr) (n c : Nat) (h1 : n ≠ 1) (h2 : n ≠ 2) (R : Value → HHeap → Prop) (hR : R (.tuple #[U 0, I 1]) H) : HCalls Tryz.prog 130 [ptr g 0, I (op : Nat), .slice a n c] H R := by
  refine HCalls.of_hw Tryz.func130 rfl _ Tryz.ntmps130 _ (by rw [Tryz.results130]) ?_
  rw [hframe0_eq _ _ (by simp)]
  simp only [List.zipIdx_cons, List.zipIdx_nil, List.map_cons, List.map_nil, Nat.reduceAdd]
  simp (disch := first | omega | (show allOne _ = true; simp [allOne, Value.oneCell', S]) | (simp only [qz]; first | done | omega)) only [go_sem]
  exact hR
theorem AtA.add {H H' : HHeap} {g gw gh size : Nat} {T : Things} (hA : AtA H g gw gh size T) (k : Nat) (hk : 1 ≤ k ∧ k ≤ 9) (l : List Nat) (hl : ∀ x ∈ l, x < 18446744073709551616) (hn : l.length ≤ 255) (hu : usedOf T + l.length + 1 ≤ size) (K : HHeap) : AtA (putT K g gw gh size (T ++ [⟨k, l⟩])) g gw gh size (T ++ [⟨k, l⟩]) := by
  have n1 := hA.ne1
  have n2 := hA.ne2
  have n3 := hA.ne3
  refine ⟨by unfold putT; simp (disch := first | omega | (simp only [nx_push, nx_set, nx_kill]; done) | (simp only [nx_push, nx_set, nx_kill]; omega)) only [get_push_ne, get_push_eq, get_set_ne, get_set_eq, get_kill_ne, nx_push, nx_set, nx_kill], by unfold putT; simp (disch := first | omega | (simp only [nx_push, nx_set, nx_kill]; done) | (simp only [nx_push, nx_set, nx_kill]; omega)) only [get_push_ne, get_push_eq, get_set_ne, get_set_eq, get_kill_ne, nx_push, nx_set, nx_kill], by unfold putT; simp (disch := first | omega | (simp only [nx_push, nx_set, nx_kill]; done) | (simp only [nx_push, nx_set, nx_kill]; omega)) only [get_push_ne, get_push_eq, get_set_ne, get_set_eq, get_kill_ne, nx_push, nx_set, nx_kill], by
      rw [usedOf_append]; simp [usedOf, Thing.room]; omega, hA.big, hA.pos, by
      intro t ht
      rcases List.mem_append.1 ht with ht | ht
      · exact hA.ok t ht
      · simp at ht; subst ht; exact ⟨by simp; omega, by simp; omega, by simp; omega, hl⟩, n1, n2, n3⟩
theorem prim_DoA (H : HHeap) (g gw gh size : Nat) (T : Things) (hA : AtA H g gw gh size T) (hlt : g < H.next ∧ gw < H.next ∧ gh < H.next) (op : Nat) (ho0 : 1 ≤ op) (ho1 : op < 1000000) (s : Value) (l : List Nat) (hl : ∀ x ∈ l, x < 18446744073709551616) (Z : Zs) (hZ : ∀ b, Z b → b < H.next) (hz : ¬ Z g ∧ ¬ Z gw ∧ ¬ Z gh) (hs : Sl rW Z H s l) (R : Value → HHeap → Prop)
    (hR : ∀ H', H.next ≤ H'.next → (∀ b, b < H.next → b ≠ g → b ≠ gw → b ≠ gh → H'.get b = H.get b) → AtA H' g gw gh size (doP size T op l).2.2 → R (.tuple #[U (doP size T op l).1, I ((doP size T op l).2.1 : Nat)]) H') : HCalls Tryz.prog 130 [ptr g 0, I (op : Nat), s] H R := by
  match l, hl, hs, hR with
  | [], hl, hs, hR =>
    obtain ⟨a, c, rfl⟩ := hs.len
    have e : doP size T op [] = (0, 1, T) := by rw [doP] <;> simp
    rw [e] at hR
    exact prim_DoN _ _ _ _ _ _ (by simp) (by simp) _ (hR H (Nat.le_refl _) (fun _ _ _ _ _ => rfl) hA)
  | [w], hl, hs, hR =>
    refine prim_Do1 H g gw gh size T hA hlt op ho1 s w (hl w (by simp)) Z hs _ fun H' hO => ?_
    have e : (doP size T op [w]).2.2 = T := by
      rw [doP]
      split
      · rfl
      · split
        · split <;> rfl
        · rfl
    rw [e] at hR
    exact hR H' hO.1 (fun b hb _ _ _ => hO.2 b hb) (hA.frame fun b hb => hO.2 b (by rcases hb with rfl | rfl | rfl; exact hlt.1; exact hlt.2.1; exact hlt.2.2))
  | [x, y], hl, hs, hR =>
    refine prim_Do2 H g gw gh size T hA hlt op ho0 ho1 s x y (hl x (by simp)) (hl y (by simp)) Z hZ hz hs _ ?_ ?_ ?_
    · intro _ w e he
      rw [he] at hR
      exact hR H (Nat.le_refl _) (fun _ _ _ _ _ => rfl) hA
    · intro h12 hr K hK
      have e : doP size T op [x, y] = (wordAt (usedOf T), 0, T ++ [⟨1, [x, y]⟩]) := by rw [doP, if_neg (by omega), if_neg (by omega), if_pos h12, if_pos hr]
      rw [e] at hR
      refine hR _ ?_ ?_ (hA.add (H' := K) 1 (by omega) [x, y] hl (by simp) (by simp; omega) K)
      · unfold putT; rw [HHeap.set_next, HHeap.set_next, HHeap.set_next, hK, HHeap.push_next]; omega
      · intro b hb b1 b2 b3
        unfold putT
        rw [get_set_ne _ _ _ b1, get_set_ne _ _ _ b3, get_set_ne _ _ _ b2, hK, get_push_ne _ _ (by omega)]
    · intro h12 hr K hK
      have e : doP size T op [x, y] = (0, 20, T) := by rw [doP, if_neg (by omega), if_neg (by omega), if_pos h12, if_neg (by omega)]
      rw [e] at hR
      have hO : Old H K := by rw [hK]; exact Old.push _ _
      exact hR K hO.1 (fun b hb _ _ _ => hO.2 b hb) (hA.frame fun b hb => hO.2 b (by rcases hb with rfl | rfl | rfl; exact hlt.1; exact hlt.2.1; exact hlt.2.2))
  | x :: y :: z :: l, hl, hs, hR =>
    obtain ⟨a, c, rfl⟩ := hs.len
    have e : doP size T op (x :: y :: z :: l) = (0, 1, T) := by rw [doP] <;> simp
    rw [e] at hR
    exact prim_DoN _ _ _ _ _ _ (by simp) (by simp) _ (hR H (Nat.le_refl _) (fun _ _ _ _ _ => rfl) hA)
end Go.HL
/-
  Walks: something is done to words of the stack, or asked for.
-/
namespace Go.HL
open Go.RowKit Go.Proofs
set_option maxHeartbeats 4000000
set_option maxRecDepth 100000
set_option linter.unusedSimpArgs false
set_option linter.unusedVariables false
section
variable {Z : Zs} {H : HHeap} {p size : Nat} {vb : Value} {g gw gh : Nat} {vn vk va : Value} {M : MS} {B : List Bk}
/-- Another row is asked for. -/
theorem MIn.askTo (h : MIn Z H p size vb g gw gh vn vk va M) {v : Value} {l : List Nat} (hG : Gr rW Z H v l) (f : ∀ b ∈ sblk v, b ≠ p ∧ b ≠ g ∧ b ≠ gw ∧ b ≠ gh ∧ b ∉ sblk vn ∧ b ∉ sblk vk) {M' : MS} (hT : M'.T = M.T) (hn : M'.nm = M.nm) (hk : M'.kp = M.kp) (ha : M'.ask = l) (ok : MOk M') :
    MIn Z (H.set p (.cells (mcells vb g vn vk v M') true)) p size vb g gw gh vn vk v M' where
  m := by rw [get_set_same]
  A := by rw [hT]; exact h.A.frame fun b hb => get_set_ne _ _ _ (by rcases hb with rfl | rfl | rfl; exact h.pg.1.symm; exact h.pg.2.1.symm; exact h.pg.2.2.symm)
  nm := by
    rw [hn]
    obtain ⟨b, e, hg⟩ := h.nm
    exact ⟨b, e, by rw [get_set_ne _ _ _ (h.dn b (by simp [e, sblk])).1]; exact hg⟩
  kp := by rw [hk]; exact h.kp.ext (fun b hb => ⟨hb, get_set_ne _ _ _ (by rintro rfl; exact h.zp.1 hb)⟩) fun b hb => ⟨get_set_ne _ _ _ (h.dk b hb).1, (h.kp.blk b hb).1⟩
  ask := by rw [ha]; exact hG.ext (fun b hb => ⟨hb, get_set_ne _ _ _ (by rintro rfl; exact h.zp.1 hb)⟩) fun b hb => ⟨get_set_ne _ _ _ (f b hb).1, (hG.blk b hb).1⟩
  ok := ok
  zp := h.zp
  pg := h.pg
  dn := h.dn
  dk := h.dk
  da := f
/-- Its arena alone is changed, and something is made beside it. -/
theorem MIn.setA2 {H' : HHeap} {T : Things} (h : MIn Z H p size vb g gw gh vn vk va M) (ok : H.Ok) (hZ : ∀ b, Z b → b < H.next) (hA : AtA H' g gw gh size T) (f : ∀ b, b < H.next → b ≠ g → b ≠ gw → b ≠ gh → H'.get b = H.get b) :
    MIn Z H' p size vb g gw gh vn vk va { M with T := T } where
  m := by rw [f p (h.lt ok).1 h.pg.1 h.pg.2.1 h.pg.2.2]; exact h.m
  A := hA
  nm := by
    obtain ⟨b, e, hg⟩ := h.nm
    have := h.dn b (by simp [e, sblk])
    exact ⟨b, e, by rw [f b ((h.lt ok).2.2.2.2.1 b (by simp [e, sblk])) this.2.1 this.2.2.1 this.2.2.2]; exact hg⟩
  kp := h.kp.ext (fun b hb => ⟨hb, f b (hZ b hb) (by rintro rfl; exact h.zp.2.1 hb) (by rintro rfl; exact h.zp.2.2.1 hb) (by rintro rfl; exact h.zp.2.2.2.1 hb)⟩) fun b hb => ⟨f b ((h.lt ok).2.2.2.2.2.1 b hb) (h.dk b hb).2.1 (h.dk b hb).2.2.1 (h.dk b hb).2.2.2.1, (h.kp.blk b hb).1⟩
  ask := h.ask.ext (fun b hb => ⟨hb, f b (hZ b hb) (by rintro rfl; exact h.zp.2.1 hb) (by rintro rfl; exact h.zp.2.2.1 hb) (by rintro rfl; exact h.zp.2.2.2.1 hb)⟩) fun b hb => ⟨f b ((h.lt ok).2.2.2.2.2.2 b hb) (h.da b hb).2.1 (h.da b hb).2.2.1 (h.da b hb).2.2.2.1, (h.ask.blk b hb).1⟩
  ok := ⟨h.ok.v, h.ok.e, h.ok.s, h.ok.f, h.ok.nm, h.ok.ask, h.ok.bl, h.ok.pc, h.ok.nml, h.ok.kpl, h.ok.askl⟩
  zp := h.zp
  pg := h.pg
  dn := h.dn
  dk := h.dk
  da := h.da
theorem vm_prim (hM : MIn Z H p size vb g gw gh vn vk va M) (hZ : ∀ b, Z b → b < H.next) (op n : Nat) (ho0 : 1 ≤ op) (ho1 : op < 1000000) (hn : n < 1000000) (hpc : M.pc + 1 < 1000000) (R : Value → HHeap → Prop)
    (hR : ∀ H' g' gw' gh' va', MIn Z H' p size vb g' gw' gh' vn vk va' (M.prim size op n) → Kp Z H H' → R (.tuple #[]) H') :
    HCalls Tryz.prog 76 [ptr p 0, I (op : Nat), I (n : Nat)] H R := by
  refine HCalls.ok fun hok => ?_
  refine HCalls.of_hw Tryz.func76 rfl _ Tryz.ntmps76 _ (by rw [Tryz.results76]) ?_
  rw [hframe0_eq _ _ (by simp)]
  simp only [List.zipIdx_cons, List.zipIdx_nil, List.map_cons, List.map_nil, Nat.reduceAdd]
  by_cases h12 : op = 12
  · subst h12
    simp (disch := first | omega | (show allOne _ = true; simp [allOne, Value.oneCell', S]) | (simp only [qz]; first | done | omega)) only [go_sem]
    refine vm_room0 hM hZ 3 (by omega) _ ?_
    intro H1 g1 gw1 gh1 hN kN
    have hpc1 : (M.room size 3 []).2.1.pc + 1 < 1000000 := by
      have : (M.room size 3 []).2.1.pc = M.pc := by unfold MS.room; split <;> rfl
      omega
    have hZ1 : ∀ b, Z b → b < H1.next := fun b hb => Nat.lt_of_lt_of_le (hZ b hb) kN.next
    obtain ⟨op, hop⟩ : ∃ op : Nat, op = 12 := ⟨_, rfl⟩
    cases hr : (M.room size 3 []).1 with
    | true =>
      have e : M.prim size 12 n = (M.room size 3 []).2.1.prim2 size 12 n := by unfold MS.prim; rw [if_pos rfl]; simp only; rw [if_pos hr]
      rw [e] at hR
      clear e
      generalize (M.room size 3 []).2.1 = N at *
      simp (disch := first | omega | (show allOne _ = true; simp [allOne, Value.oneCell', S]) | (simp only [qz]; first | done | omega)) only [go_sem]
      refine HCalls.ok fun hok1 => ?_
      refine vm_take hN hZ1 n hn _ ?_
      intro v K hO hG
      cases ht : N.take n with
      | none =>
        have e : N.prim2 size 12 n = N.fail 100 := by unfold MS.prim2; rw [ht]
        rw [e] at hR
        have hNK := hN.old hok1 hO hZ1 (fun _ h => h) (fun _ h => .inl h)
        unfold takeV
        simp (disch := first | omega | (show allOne _ = true; simp [allOne, Value.oneCell', S]) | (simp only [qz]; first | done | omega)) only [go_sem]
        refine vm_fail hNK 100 _ ?_
        intro k1 k2
        simp (disch := first | omega | (show allOne _ = true; simp [allOne, Value.oneCell', S]) | (simp only [qz]; first | done | omega)) only [go_sem]
        exact hR _ _ _ _ _ k1 (kN.trans ((hO.kp hZ1).trans k2))
      | some x =>
        obtain ⟨l, s⟩ := x
        obtain ⟨hGr, hfr⟩ := hG l s ht
        have hbl := take_lt hN ht
        have hNK := hN.old hok1 hO hZ1 (fun _ h => h) (fun _ h => .inl h)
        have hlt1 := hN.lt hok1
        have hfresh : ∀ b ∈ sblk v, b ≠ p ∧ b ≠ g1 ∧ b ≠ gw1 ∧ b ≠ gh1 ∧ b ∉ sblk vn ∧ b ∉ sblk vk := fun b hb => by
          have := hfr b hb
          exact ⟨by omega, by omega, by omega, by omega, fun h => by have := hlt1.2.2.2.2.1 b h; omega, fun h => by have := hlt1.2.2.2.2.2.1 b h; omega⟩
        obtain ⟨av, hv⟩ := hGr.len
        subst hv
        unfold takeV
        by_cases h17 : 17 < 12
        · exact absurd h17 (by omega)
        · simp (disch := first | omega | (show allOne _ = true; simp [allOne, Value.oneCell', S]) | (simp only [qz]; first | done | omega)) only [go_sem, hNK.m, ldc_cells, mcells]
          refine HCalls.ok fun hokK => ?_
          have hltK := hNK.lt hokK
          have hZK : ∀ b, Z b → b < K.next := fun b hb => Nat.lt_of_lt_of_le (hZ1 b hb) hO.1
          refine prim_DoA K g1 gw1 gh1 size N.T hNK.A ⟨hltK.2.1, hltK.2.2.1, hltK.2.2.2.1⟩ 12 (by omega) (by omega) _ l hbl.2.1 _ (fun b hb => by rcases hb with hb | hb; exact hZK b hb; exact (hfr b hb).2) ⟨fun h => by rcases h with h | h; exact hN.zp.2.1 h; exact (hfresh _ h).2.1 rfl, fun h => by rcases h with h | h; exact hN.zp.2.2.1 h; exact (hfresh _ h).2.2.1 rfl, fun h => by rcases h with h | h; exact hN.zp.2.2.2.1 h; exact (hfresh _ h).2.2.2.1 rfl⟩ hGr.stay _ ?_
          intro K2 q1 q2 q3
          have hN2 := hNK.setA2 hokK hZK q3 q2
          have hdl := doP_lt (size := size) hN.A.ok (by have := hN.A.room; have := hN.A.big; omega) 12 l
          have k2 : Kp Z K K2 := ⟨q1, fun b hb => q2 b (hZK b hb) (by rintro rfl; exact hN.zp.2.1 hb) (by rintro rfl; exact hN.zp.2.2.1 hb) (by rintro rfl; exact hN.zp.2.2.2.1 hb)⟩
          have kk := kN.trans ((hO.kp hZ1).trans k2)
          by_cases he : (doP size N.T 12 l).2.1 ≠ 0
          · have e : N.prim2 size 12 n = ({ N with T := (doP size N.T 12 l).2.2 } : MS).fail (doP size N.T 12 l).2.1 := by unfold MS.prim2; rw [ht]; simp only; rw [if_neg h17, if_pos he]
            rw [e] at hR
            simp (disch := first | omega | (show allOne _ = true; simp [allOne, Value.oneCell', S]) | (simp only [qz]; first | done | omega)) only [go_sem]
            refine vm_fail hN2 _ _ ?_
            intro k3 k4
            simp (disch := first | omega | (show allOne _ = true; simp [allOne, Value.oneCell', S]) | (simp only [qz]; first | done | omega)) only [go_sem]
            exact hR _ _ _ _ _ k3 (kk.trans k4)
          · have e : N.prim2 size 12 n = { N with T := (doP size N.T 12 l).2.2, v := (doP size N.T 12 l).1, s := s, pc := N.pc + 1 } := by unfold MS.prim2; rw [ht]; simp only; rw [if_neg h17, if_neg he]
            rw [e] at hR
            have he' : (doP size N.T 12 l).2.1 = 0 := by omega
            simp (disch := first | omega | (show allOne _ = true; simp [allOne, Value.oneCell', S]) | (simp only [qz]; first | done | omega)) only [go_sem, hN2.m, ldc_cells, mcells, stc_cells, set_set, he']
            exact hR _ _ _ _ _ (hN2.put (M' := { N with T := (doP size N.T 12 l).2.2, v := (doP size N.T 12 l).1, s := s, pc := N.pc + 1 }) rfl rfl rfl rfl ⟨hdl, hN.ok.e, hbl.2.2, hN.ok.f, hN.ok.nm, hN.ok.ask, hN.ok.bl, hpc1, hN.ok.nml, hN.ok.kpl, hN.ok.askl⟩) (kk.trans (Kp.set hN2.zp.1))
    | false =>
      have e : M.prim size 12 n = match (M.room size 3 []).2.1.take n with
          | some _ => { (M.room size 3 []).2.1 with st := 5 }
          | none => (M.room size 3 []).2.1.fail 100 := by
        unfold MS.prim
        rw [if_pos rfl]
        simp only
        rw [if_neg (by simp [hr])]
        rfl
      rw [e] at hR
      clear e
      generalize (M.room size 3 []).2.1 = N at *
      simp (disch := first | omega | (show allOne _ = true; simp [allOne, Value.oneCell', S]) | (simp only [qz]; first | done | omega)) only [go_sem]
      refine HCalls.ok fun hok1 => ?_
      refine vm_take hN hZ1 n hn _ ?_
      intro v K hO hG
      cases ht : N.take n with
      | some x =>
        obtain ⟨l, s⟩ := x
        rw [ht] at hR
        simp only at hR
        obtain ⟨hGr, hfr⟩ := hG l s ht
        obtain ⟨av, hv⟩ := hGr.len
        subst hv
        have hNK := hN.old hok1 hO hZ1 (fun _ h => h) (fun _ h => .inl h)
        unfold takeV
        simp (disch := first | omega | (show allOne _ = true; simp [allOne, Value.oneCell', S]) | (simp only [qz]; first | done | omega)) only [go_sem, hNK.m, ldc_cells, mcells, stc_cells, set_set]
        exact hR _ _ _ _ _ (hNK.put (M' := { N with st := 5 }) rfl rfl rfl rfl ⟨hN.ok.v, hN.ok.e, hN.ok.s, hN.ok.f, hN.ok.nm, hN.ok.ask, hN.ok.bl, hN.ok.pc, hN.ok.nml, hN.ok.kpl, hN.ok.askl⟩) (kN.trans ((hO.kp hZ1).trans (Kp.set hNK.zp.1)))
      | none =>
        rw [ht] at hR
        simp only at hR
        have hNK := hN.old hok1 hO hZ1 (fun _ h => h) (fun _ h => .inl h)
        have hZK1 : ∀ b, Z b → b < K.next := fun b hb => Nat.lt_of_lt_of_le (hZ1 b hb) hO.1
        unfold takeV
        simp (disch := first | omega | (show allOne _ = true; simp [allOne, Value.oneCell', S]) | (simp only [qz]; first | done | omega)) only [go_sem]
        refine vm_take hNK hZK1 n hn _ ?_
        intro v2 K2 hO2 hG2
        rw [ht]
        have hNK2 := hN.old hok1 (hO.trans hO2) hZ1 (fun _ h => h) (fun _ h => .inl h)
        unfold takeV
        simp (disch := first | omega | (show allOne _ = true; simp [allOne, Value.oneCell', S]) | (simp only [qz]; first | done | omega)) only [go_sem]
        refine vm_fail hNK2 100 _ ?_
        intro k1 k2
        simp (disch := first | omega | (show allOne _ = true; simp [allOne, Value.oneCell', S]) | (simp only [qz]; first | done | omega)) only [go_sem]
        exact hR _ _ _ _ _ k1 (kN.trans (((hO.trans hO2).kp hZ1).trans k2))
  · have e : M.prim size op n = M.prim2 size op n := by unfold MS.prim; rw [if_neg h12]
    rw [e] at hR
    clear e
    have hN := hM
    have hZ1 := hZ
    have hok1 := hok
    have kN := Kp.refl Z H
    have hpc1 := hpc
    obtain ⟨N, hNe⟩ : ∃ N, N = M := ⟨_, rfl⟩
    rw [← hNe] at hN hR hpc1
    obtain ⟨g1, hg1⟩ : ∃ x, x = g := ⟨_, rfl⟩
    obtain ⟨gw1, hgw1⟩ : ∃ x, x = gw := ⟨_, rfl⟩
    obtain ⟨gh1, hgh1⟩ : ∃ x, x = gh := ⟨_, rfl⟩
    rw [← hg1, ← hgw1, ← hgh1] at hN
    simp (disch := first | omega | (show allOne _ = true; simp [allOne, Value.oneCell', S]) | (simp only [qz]; first | done | omega)) only [go_sem]
    refine HCalls.ok fun hok1 => ?_
    refine vm_take hN hZ1 n hn _ ?_
    intro v K hO hG
    cases ht : N.take n with
    | none =>
      have e : N.prim2 size op n = N.fail 100 := by unfold MS.prim2; rw [ht]
      rw [e] at hR
      have hNK := hN.old hok1 hO hZ1 (fun _ h => h) (fun _ h => .inl h)
      unfold takeV
      simp (disch := first | omega | (show allOne _ = true; simp [allOne, Value.oneCell', S]) | (simp only [qz]; first | done | omega)) only [go_sem]
      refine vm_fail hNK 100 _ ?_
      intro k1 k2
      simp (disch := first | omega | (show allOne _ = true; simp [allOne, Value.oneCell', S]) | (simp only [qz]; first | done | omega)) only [go_sem]
      exact hR _ _ _ _ _ k1 (kN.trans ((hO.kp hZ1).trans k2))
    | some x =>
      obtain ⟨l, s⟩ := x
      obtain ⟨hGr, hfr⟩ := hG l s ht
      have hbl := take_lt hN ht
      have hNK := hN.old hok1 hO hZ1 (fun _ h => h) (fun _ h => .inl h)
      have hlt1 := hN.lt hok1
      have hfresh : ∀ b ∈ sblk v, b ≠ p ∧ b ≠ g1 ∧ b ≠ gw1 ∧ b ≠ gh1 ∧ b ∉ sblk vn ∧ b ∉ sblk vk := fun b hb => by
        have := hfr b hb
        exact ⟨by omega, by omega, by omega, by omega, fun h => by have := hlt1.2.2.2.2.1 b h; omega, fun h => by have := hlt1.2.2.2.2.2.1 b h; omega⟩
      obtain ⟨av, hv⟩ := hGr.len
      subst hv
      unfold takeV
      by_cases h17 : 17 < op
      · have e : N.prim2 size op n = { N with st := 2, op := op, ask := l, s := s, pc := N.pc + 1 } := by unfold MS.prim2; rw [ht]; simp only; rw [if_pos h17]
        rw [e] at hR
        simp (disch := first | omega | (show allOne _ = true; simp [allOne, Value.oneCell', S]) | (simp only [qz]; first | done | omega)) only [go_sem, hNK.m, ldc_cells, mcells, stc_cells, set_set]
        exact hR _ _ _ _ _ (hNK.askTo hGr hfresh (M' := { N with st := 2, op := op, ask := l, s := s, pc := N.pc + 1 }) rfl rfl rfl rfl ⟨hN.ok.v, hN.ok.e, hbl.2.2, hN.ok.f, hN.ok.nm, hbl.2.1, hN.ok.bl, hpc1, hN.ok.nml, hN.ok.kpl, by show l.length ≤ _; omega⟩) (kN.trans ((hO.kp hZ1).trans (Kp.set hNK.zp.1)))
      · simp (disch := first | omega | (show allOne _ = true; simp [allOne, Value.oneCell', S]) | (simp only [qz]; first | done | omega)) only [go_sem, hNK.m, ldc_cells, mcells]
        refine HCalls.ok fun hokK => ?_
        have hltK := hNK.lt hokK
        have hZK : ∀ b, Z b → b < K.next := fun b hb => Nat.lt_of_lt_of_le (hZ1 b hb) hO.1
        refine prim_DoA K g1 gw1 gh1 size N.T hNK.A ⟨hltK.2.1, hltK.2.2.1, hltK.2.2.2.1⟩ op ho0 ho1 _ l hbl.2.1 _ (fun b hb => by rcases hb with hb | hb; exact hZK b hb; exact (hfr b hb).2) ⟨fun h => by rcases h with h | h; exact hN.zp.2.1 h; exact (hfresh _ h).2.1 rfl, fun h => by rcases h with h | h; exact hN.zp.2.2.1 h; exact (hfresh _ h).2.2.1 rfl, fun h => by rcases h with h | h; exact hN.zp.2.2.2.1 h; exact (hfresh _ h).2.2.2.1 rfl⟩ hGr.stay _ ?_
        intro K2 q1 q2 q3
        have hN2 := hNK.setA2 hokK hZK q3 q2
        have hdl := doP_lt (size := size) hN.A.ok (by have := hN.A.room; have := hN.A.big; omega) op l
        have k2 : Kp Z K K2 := ⟨q1, fun b hb => q2 b (hZK b hb) (by rintro rfl; exact hN.zp.2.1 hb) (by rintro rfl; exact hN.zp.2.2.1 hb) (by rintro rfl; exact hN.zp.2.2.2.1 hb)⟩
        have kk := kN.trans ((hO.kp hZ1).trans k2)
        by_cases he : (doP size N.T op l).2.1 ≠ 0
        · have e : N.prim2 size op n = ({ N with T := (doP size N.T op l).2.2 } : MS).fail (doP size N.T op l).2.1 := by unfold MS.prim2; rw [ht]; simp only; rw [if_neg h17, if_pos he]
          rw [e] at hR
          simp (disch := first | omega | (show allOne _ = true; simp [allOne, Value.oneCell', S]) | (simp only [qz]; first | done | omega)) only [go_sem]
          refine vm_fail hN2 _ _ ?_
          intro k3 k4
          simp (disch := first | omega | (show allOne _ = true; simp [allOne, Value.oneCell', S]) | (simp only [qz]; first | done | omega)) only [go_sem]
          exact hR _ _ _ _ _ k3 (kk.trans k4)
        · have e : N.prim2 size op n = { N with T := (doP size N.T op l).2.2, v := (doP size N.T op l).1, s := s, pc := N.pc + 1 } := by unfold MS.prim2; rw [ht]; simp only; rw [if_neg h17, if_neg he]
          rw [e] at hR
          have he' : (doP size N.T op l).2.1 = 0 := by omega
          simp (disch := first | omega | (show allOne _ = true; simp [allOne, Value.oneCell', S]) | (simp only [qz]; first | done | omega)) only [go_sem, hN2.m, ldc_cells, mcells, stc_cells, set_set, he']
          exact hR _ _ _ _ _ (hN2.put (M' := { N with T := (doP size N.T op l).2.2, v := (doP size N.T op l).1, s := s, pc := N.pc + 1 }) rfl rfl rfl rfl ⟨hdl, hN.ok.e, hbl.2.2, hN.ok.f, hN.ok.nm, hN.ok.ask, hN.ok.bl, hpc1, hN.ok.nml, hN.ok.kpl, hN.ok.askl⟩) (kk.trans (Kp.set hN2.zp.1))
end
end Go.HL
