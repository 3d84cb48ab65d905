/-
  Joined: M20, M12, M21.
-/
import Derived.Test.YtdccndcdmfhmiaaGreatDoorPFM19
import Derived.Test.YtdccndcdmfhmiaaGreatDoorPFM11
set_option linter.unusedVariables false
set_option linter.unusedSimpArgs false
/-
  Walks: names of the program, words of an env, things of the value.
-/
namespace Go.HL
open Go.RowKit Go.Proofs
set_option maxHeartbeats 4000000
set_option maxRecDepth 100000
set_option linter.unusedSimpArgs false
set_option linter.unusedVariables false
section
variable {Z : Zs} {H : HHeap} {p size : Nat} {vb : Value} {g gw gh : Nat} {vn vk va : Value} {M : MS} {B : List Bk}
theorem scells_set : ∀ (l : List (Nat × Bool)) (i : Nat) (x : Nat × Bool), i < l.length → ((scells l).set (2 * i) (U x.1)).set (2 * i + 1) (.bool x.2) = scells (l.set i x)
  | [], _, _, h => by simp at h
  | y :: l, 0, x, _ => rfl
  | y :: l, i + 1, x, h => by
    have := scells_set l i x (by simpa using h)
    rw [scells_cons, show 2 * (i + 1) = 2 * i + 2 by omega, List.set_cons_succ, scells_cons]
    show U y.1 :: Value.bool y.2 :: ((scells l).set (2 * i) (U x.1)).set (2 * i + 1) (.bool x.2) = _
    rw [this]; rfl
theorem scells_splice (l : List (Nat × Bool)) (i : Nat) (w : Nat) (u : Bool) (h : i < l.length) : splice (scells l) (i * 2) [U w, .bool u] = scells (l.set i (w, u)) := by
  rw [← scells_set l i (w, u) h, Nat.mul_comm]; rfl
theorem vm_name (hM : MIn Z H p size vb g gw gh vn vk va M) (op i : Nat) (ho : op = 3 ∨ op = 5 ∨ op = 6) (hi : i < 1000000) (hpc : M.pc + 1 < 1000000) (R : Value → HHeap → Prop)
    (hR : ∀ H', MIn Z H' p size vb g gw gh vn vk va (M.name op i) → Kp Z H H' → R (.tuple #[]) H') :
    HCalls Tryz.prog 74 [ptr p 0, .int .u8 (op : Nat), I (i : Nat)] H R := by
  obtain ⟨b, hvn, hg⟩ := hM.nm
  subst hvn
  refine HCalls.of_hw Tryz.func74 rfl _ Tryz.ntmps74 _ (by rw [Tryz.results74]) ?_
  rw [hframe0_eq _ _ (by simp)]
  simp only [List.zipIdx_cons, List.zipIdx_nil, List.map_cons, List.map_nil, Nat.reduceAdd]
  cases hx : M.nm[i]? with
  | none =>
    have hl := List.getElem?_eq_none_iff.1 hx
    have e : M.name op i = M.fail 130 := by unfold MS.name; rw [hx]
    rw [e] at hR
    simp (disch := first | omega | (show allOne _ = true; simp [allOne, Value.oneCell', S]) | (simp only [qz]; first | done | omega)) only [go_sem, hM.m, ldc_cells, mcells]
    refine vm_fail hM 130 _ ?_
    intro k1 k2
    simp (disch := first | omega | (show allOne _ = true; simp [allOne, Value.oneCell', S]) | (simp only [qz]; first | done | omega)) only [go_sem]
    exact hR _ k1 k2
  | some x =>
    have hl := (List.getElem?_eq_some_iff.1 hx).1
    obtain ⟨xw, xu⟩ := x
    obtain ⟨c1, c2⟩ := scells_at hx
    have c1' : (scells M.nm)[i * 2]? = some (U xw) := by rw [Nat.mul_comm]; exact c1
    have c2' : (scells M.nm)[i * 2 + 1]? = some (.bool xu) := by rw [Nat.mul_comm]; exact c2
    have hxl := hM.ok.nm _ (List.mem_of_getElem? hx)
    have hbp : b ≠ p := (hM.dn b (by simp [sblk])).1
    have hset : MIn Z ((H.set b (.cells (scells (M.nm.set i (M.v, true))) true)).set p (.cells (mcells vb g (.slice (some ⟨b, 0, none⟩) M.nm.length M.nm.length) vk va { M with nm := M.nm.set i (M.v, true), v := 26, pc := M.pc + 1 }) true)) p size vb g gw gh (.slice (some ⟨b, 0, none⟩) M.nm.length M.nm.length) vk va { M with nm := M.nm.set i (M.v, true), v := 26, pc := M.pc + 1 } := by
      have h1 := hM.setNm (M.nm.set i (M.v, true)) rfl (by simp) (fun x hx => by
        rcases List.mem_or_eq_of_mem_set hx with h | h
        · exact hM.ok.nm x h
        · rw [h]; exact hM.ok.v)
      exact h1.put (M' := { M with nm := M.nm.set i (M.v, true), v := 26, pc := M.pc + 1 }) rfl rfl rfl rfl ⟨by show (26 : Nat) < _; omega, hM.ok.e, hM.ok.s, hM.ok.f, h1.ok.nm, hM.ok.ask, hM.ok.bl, hpc, h1.ok.nml, hM.ok.kpl, hM.ok.askl⟩
    have kset : Kp Z H ((H.set b (.cells (scells (M.nm.set i (M.v, true))) true)).set p (.cells (mcells vb g (.slice (some ⟨b, 0, none⟩) M.nm.length M.nm.length) vk va { M with nm := M.nm.set i (M.v, true), v := 26, pc := M.pc + 1 }) true)) :=
      (Kp.set (hM.zp.2.2.2.2 b (by simp [sblk]))).trans (Kp.set hM.zp.1)
    have hsp := scells_splice M.nm i M.v true hl
    have hscl := scells_len M.nm
    rcases ho with rfl | rfl | rfl
    · cases xu with
      | false =>
        have e : M.name 3 i = M.fail 130 := by unfold MS.name; rw [hx]; simp
        rw [e] at hR
        simp (disch := first | omega | (show allOne _ = true; simp [allOne, Value.oneCell', S]) | (simp only [qz]; first | done | omega)) only [go_sem, hM.m, hg, ldc_cells, mcells, ixa_ok, c1', c2']
        refine vm_fail hM 130 _ ?_
        intro k1 k2
        simp (disch := first | omega | (show allOne _ = true; simp [allOne, Value.oneCell', S]) | (simp only [qz]; first | done | omega)) only [go_sem]
        exact hR _ k1 k2
      | true =>
        have e : M.name 3 i = { M with v := xw, pc := M.pc + 1 } := by unfold MS.name; rw [hx]; simp
        rw [e] at hR
        simp (disch := first | omega | (show allOne _ = true; simp [allOne, Value.oneCell', S]) | (simp only [qz]; first | done | omega)) only [go_sem, hM.m, hg, ldc_cells, mcells, ixa_ok, c1', c2', stc_cells, set_set]
        exact hR _ (hM.put (M' := { M with v := xw, pc := M.pc + 1 }) rfl rfl rfl rfl ⟨hxl, hM.ok.e, hM.ok.s, hM.ok.f, hM.ok.nm, hM.ok.ask, hM.ok.bl, hpc, hM.ok.nml, hM.ok.kpl, hM.ok.askl⟩) (Kp.set hM.zp.1)
    · cases xu with
      | false =>
        have e : M.name 5 i = M.fail 130 := by unfold MS.name; rw [hx]; simp
        rw [e] at hR
        simp (disch := first | omega | (show allOne _ = true; simp [allOne, Value.oneCell', S]) | (simp only [qz]; first | done | omega)) only [go_sem, hM.m, hg, ldc_cells, mcells, ixa_ok, c1', c2']
        refine vm_fail hM 130 _ ?_
        intro k1 k2
        simp (disch := first | omega | (show allOne _ = true; simp [allOne, Value.oneCell', S]) | (simp only [qz]; first | done | omega)) only [go_sem]
        exact hR _ k1 k2
      | true =>
        have e : M.name 5 i = { M with nm := M.nm.set i (M.v, true), v := 26, pc := M.pc + 1 } := by unfold MS.name; rw [hx]; simp
        rw [e] at hR
        simp (disch := first | omega | (show allOne _ = true; simp [allOne, Value.oneCell', S]) | (simp only [qz]; first | done | omega)) only [go_sem, hM.m, hg, ldc_cells, mcells, ixa_ok, c1', c2', stc_cells, set_set]
        refine Hwp.drawn mixed [0, 1, 3, 7, 0, 0, 32, 96, 224, 480, 992, 2047, 4095] (.op 0 (.op 1 (.op 2 (.op 3 (.op 4 (.op 5 (.op 6 (.op 7 (.op 8 (.op 9 (.op 10 (.op 11 (.eff 12 .done .stop))))))))))))) (by kernel_rfl) ?_
        simp (disch := first | omega | (show allOne _ = true; simp [allOne, Value.oneCell', S]) | (simp only [qz]; first | done | omega)) only [go_sem, hM.m, hg, ldc_cells, mcells, ixa_ok, c1', c2', stc_cells, sta_cells, set_set, hsp, get_set_ne]
        exact hR _ hset kset
    · have e : M.name 6 i = { M with nm := M.nm.set i (M.v, true), v := 26, pc := M.pc + 1 } := by unfold MS.name; rw [hx]; simp
      rw [e] at hR
      simp (disch := first | omega | (show allOne _ = true; simp [allOne, Value.oneCell', S]) | (simp only [qz]; first | done | omega)) only [go_sem, hM.m, hg, ldc_cells, mcells, ixa_ok, c1', c2', stc_cells, set_set]
      refine Hwp.drawn mixed [0, 1, 3, 7, 0, 0, 32, 96, 224, 480, 992, 2047, 4095] (.op 0 (.op 1 (.op 2 (.op 3 (.op 4 (.op 5 (.op 6 (.op 7 (.op 8 (.op 9 (.op 10 (.op 11 (.eff 12 .done .stop))))))))))))) (by kernel_rfl) ?_
      simp (disch := first | omega | (show allOne _ = true; simp [allOne, Value.oneCell', S]) | (simp only [qz]; first | done | omega)) only [go_sem, hM.m, hg, ldc_cells, mcells, ixa_ok, c1', c2', stc_cells, sta_cells, set_set, hsp, get_set_ne]
      exact hR _ hset kset
/-- A word of a thing is set. -/
theorem setT_eq {T : Things} {w i x : Nat} {j : Nat} {t : Thing} (hj : findI T w = some j) (ht : T[j]? = some t) : setT T w i x = T.set j ⟨t.kind, t.l.set i x⟩ := by
  unfold setT
  rw [hj]
  simp only
  apply List.ext_getElem?
  intro k
  rw [List.getElem?_modify, List.getElem?_set]
  by_cases e : j = k
  · subst e
    rw [if_pos rfl, if_pos (List.getElem?_eq_some_iff.1 ht).1, ht]; simp
  · simp [e]
theorem vm_local (hM : MIn Z H p size vb g gw gh vn vk va M) (op n a : Nat) (ho : op = 2 ∨ op = 4) (hn : n < 1000000) (ha : a < 1000000) (hpc : M.pc + 1 < 1000000) (R : Value → HHeap → Prop)
    (hR : ∀ H', MIn Z H' p size vb g gw gh vn vk va (M.loc op n a) → Kp Z H H' → R (.tuple #[]) H') :
    HCalls Tryz.prog 73 [ptr p 0, .int .u8 (op : Nat), I (n : Nat), I (a : Nat)] H R := by
  refine HCalls.of_hw Tryz.func73 rfl _ Tryz.ntmps73 _ (by rw [Tryz.results73]) ?_
  rw [hframe0_eq _ _ (by simp)]
  simp only [List.zipIdx_cons, List.zipIdx_nil, List.map_cons, List.map_nil, Nat.reduceAdd]
  simp (disch := first | omega | (show allOne _ = true; simp [allOne, Value.oneCell', S]) | (simp only [qz]; first | done | omega)) only [go_sem]
  refine vm_out hM n a hn ha _ ?_
  intro x0
  cases hw : M.out n a with
  | none =>
    have e : M.loc op n a = M.fail 100 := by unfold MS.loc; rw [hw]
    rw [e] at hR
    unfold outV
    simp (disch := first | omega | (show allOne _ = true; simp [allOne, Value.oneCell', S]) | (simp only [qz]; first | done | omega)) only [go_sem]
    refine vm_fail hM 100 _ ?_
    intro k1 k2
    simp (disch := first | omega | (show allOne _ = true; simp [allOne, Value.oneCell', S]) | (simp only [qz]; first | done | omega)) only [go_sem]
    exact hR _ k1 k2
  | some w =>
    have hwlt : w < 18446744073709551616 ∧ a + 1 < lenN M.T w := by
      unfold MS.out at hw
      split at hw
      · rename_i w' hw'
        split at hw
        · cases hw
          rename_i hh
          refine ⟨?_, hh.2⟩
          have : ∀ (n x y : Nat), x < 18446744073709551616 → outF M.T n x = some y → y < 18446744073709551616 := by
            intro n
            induction n with
            | zero => intro x y hx h; rw [outF] at h; cases h; exact hx
            | succ n ih =>
              intro x y hx h
              rw [outF] at h
              split at h
              · exact ih _ _ (gt_lt hM.A.ok x 0) h
              · cases h
          exact this n _ _ hM.ok.e hw'
        · cases hw
      · cases hw
    rcases ho with rfl | rfl
    · have e : M.loc 2 n a = { M with v := M.gt w (a + 1), pc := M.pc + 1 } := by unfold MS.loc; rw [hw]; simp
      rw [e] at hR
      unfold outV
      simp (disch := first | omega | (show allOne _ = true; simp [allOne, Value.oneCell', S]) | (simp only [qz]; first | done | omega)) only [go_sem, hM.m, ldc_cells, mcells]
      refine vm_get hM w (a + 1) hwlt.1 _ ?_
      simp (disch := first | omega | (show allOne _ = true; simp [allOne, Value.oneCell', S]) | (simp only [qz]; first | done | omega)) only [go_sem, hM.m, ldc_cells, mcells, stc_cells, set_set]
      exact hR _ (hM.put (M' := { M with v := M.gt w (a + 1), pc := M.pc + 1 }) rfl rfl rfl rfl ⟨gt_lt hM.A.ok w (a + 1), hM.ok.e, hM.ok.s, hM.ok.f, hM.ok.nm, hM.ok.ask, hM.ok.bl, hpc, hM.ok.nml, hM.ok.kpl, hM.ok.askl⟩) (Kp.set hM.zp.1)
    · have e : M.loc 4 n a = { M with T := setT M.T w (a + 1) M.v, v := 26, pc := M.pc + 1 } := by unfold MS.loc; rw [hw]; simp
      rw [e] at hR
      unfold outV
      simp (disch := first | omega | (show allOne _ = true; simp [allOne, Value.oneCell', S]) | (simp only [qz]; first | done | omega)) only [go_sem, hM.m, ldc_cells, mcells]
      refine Hwp.drawn mixed [0, 1, 3, 7, 0, 0, 32, 0, 128, 384, 896, 1920, 4095] (.op 0 (.op 1 (.op 2 (.op 3 (.op 4 (.op 5 (.op 6 (.op 7 (.op 8 (.op 9 (.op 10 (.op 11 (.eff 12 .done .stop))))))))))))) (by kernel_rfl) ?_
      simp (disch := first | omega | (show allOne _ = true; simp [allOne, Value.oneCell', S]) | (simp only [qz]; first | done | omega)) only [go_sem, hM.m, ldc_cells, mcells]
      cases hf : findT M.T w with
      | none =>
        have := hwlt.2
        unfold lenN at this
        rw [hf] at this
        simp at this
      | some t =>
        have hl : lenN M.T w = t.l.length := by unfold lenN; rw [hf]
        obtain ⟨j, hj, htj⟩ := findI_some hf
        have hwj := (findI_word hj).1
        have hs := setT_eq (i := a + 1) (x := M.v) hj htj
        rw [hs] at hR
        have hA2 := hM.A.set htj (i := a + 1) (x := M.v) (by omega) hM.ok.v
        have hM2 := hM.setA hA2 (fun b b1 b2 b3 => get_set_ne _ _ _ b2)
        have k2 : Kp Z H (H.set gw (.cells ((wcells size M.T).set (placeOf M.T j + 1 + (a + 1)) (U M.v)) true)) := Kp.set hM.zp.2.2.1
        rw [hwj]
        refine arena_Set1 H g gw gh size M.T hM.A j (a + 1) M.v t htj (by omega) hM.ok.v _ ?_
        generalize H.set gw (.cells ((wcells size M.T).set (placeOf M.T j + 1 + (a + 1)) (U M.v)) true) = H2 at *
        simp (disch := first | omega | (show allOne _ = true; simp [allOne, Value.oneCell', S]) | (simp only [qz]; first | done | omega)) only [go_sem, hM2.m, ldc_cells, mcells, stc_cells, set_set]
        exact hR _ (hM2.put (M' := { M with T := M.T.set j ⟨t.kind, t.l.set (a + 1) M.v⟩, v := 26, pc := M.pc + 1 }) rfl rfl rfl rfl ⟨by show (26 : Nat) < _; omega, hM.ok.e, hM.ok.s, hM.ok.f, hM.ok.nm, hM.ok.ask, hM.ok.bl, hpc, hM.ok.nml, hM.ok.kpl, hM.ok.askl⟩) (k2.trans (Kp.set hM.zp.1))
end
end Go.HL
/-
  Walks: a word is called.
-/
namespace Go.HL
open Go.RowKit Go.Proofs
set_option maxHeartbeats 4000000
set_option maxRecDepth 100000
set_option linter.unusedSimpArgs false
set_option linter.unusedVariables false
theorem Sl.fresh {Z : Zs} {H : HHeap} {b : Nat} {l : List Nat} {rw : Bool} (h : H.get b = some (.cells (l.map U) rw)) : Sl rW (fun x => Z x ∨ x = b) H (.slice (some ⟨b, 0, none⟩) l.length l.length) l :=
  ⟨_, _, rfl, Nat.le_refl _, .inr ⟨b, 0, none, rfl, (by intro q e; cases e), .inr ⟨_, rw, .inr rfl, h, by simp; exact Nat.le_of_eq (Nat.mul_one _), fun i x hx => flatW_U _ _ _ _ _ hx⟩⟩⟩
theorem Sl.fresh2 {Z : Zs} {H : HHeap} {b : Nat} {l : List Nat} {rw : Bool} (h : H.get b = some (.cells (l.map U) rw)) : Sl rW (fun x => Z x ∨ x = b) H (.slice (some ⟨b, 0, some 2⟩) l.length l.length) l :=
  ⟨_, _, rfl, Nat.le_refl _, .inr ⟨b, 0, _, rfl, (by intro q e; cases e; rfl), .inr ⟨_, rw, .inr rfl, h, by simp; exact Nat.le_of_eq (Nat.mul_one _), fun i x hx => flatW_U _ _ _ _ _ hx⟩⟩⟩
section
variable {Z : Zs} {H : HHeap} {p size : Nat} {vb : Value} {g gw gh : Nat} {vn vk va : Value} {M : MS} {B : List Bk}
theorem vm_call (hM : MIn Z H p size vb g gw gh vn vk va M) (hZ : ∀ b, Z b → b < H.next) (hB : Sl rBk Z H vb B) (hBl : B.length < 1000000) (f : Nat) (hf : f < 18446744073709551616) (s : Value) (l : List Nat) (hl : ∀ x ∈ l, x < 18446744073709551616) (hll : l.length ≤ 1000)
    (hs : ∃ Z', Sl rW Z' H s l ∧ (∀ b, Z' b → b < H.next) ∧ ¬ Z' g ∧ ¬ Z' gw ∧ ¬ Z' gh) (e : Nat) (he : e < 18446744073709551616) (M' : MS) (hC : M.call B size f l e = some M') (R : Value → HHeap → Prop)
    (hR : ∀ H', MIn Z H' p size vb g gw gh vn vk va M' → Kp Z H H' → R (.tuple #[]) H') :
    HCalls Tryz.prog 37 [ptr p 0, U f, s, U e] H R := by
  refine HCalls.ok fun hok => ?_
  have hlt := hM.lt hok
  obtain ⟨Z', hs, hZ', z1, z2, z3⟩ := hs
  obtain ⟨a, c, rfl⟩ := hs.len
  have hbig := hM.A.big
  have hroom := hM.A.room
  refine HCalls.of_hw Tryz.func37 rfl _ Tryz.ntmps37 _ (by rw [Tryz.results37]) ?_
  rw [hframe0_eq _ _ (by simp)]
  simp only [List.zipIdx_cons, List.zipIdx_nil, List.map_cons, List.map_nil, Nat.reduceAdd]
  simp (disch := first | omega | (show allOne _ = true; simp [allOne, Value.oneCell', S]) | (simp only [qz]; first | done | omega)) only [go_sem]
  refine vm_fn hM hB f hf _ ?_
  intro n hn
  unfold MS.call at hC
  cases hb : fnF B M.T f with
  | some b =>
    rw [hb] at hC
    cases hC
    have hbl := fnF_lt hb
    obtain rfl := hn b hb
    simp (disch := first | omega | (show allOne _ = true; simp [allOne, Value.oneCell', S]) | (simp only [qz]; first | done | omega)) only [go_sem, Option.isSome_some]
    refine vm_get hM f 1 hf _ ?_
    have hO1 := Old.push H (.cells [U (gt M.T f 1)] true)
    have hg1 : (H.push (.cells [U (gt M.T f 1)] true)).get H.next = some (.cells ([gt M.T f 1].map U) true) := get_push_same _
    have hx1 := HHeap.push_next H (.cells [U (gt M.T f 1)] true)
    simp (disch := first | omega | (show allOne _ = true; simp [allOne, Value.oneCell', S]) | (simp only [qz]; first | done | omega)) only [go_sem]
    generalize H.push (.cells [U (gt M.T f 1)] true) = H1 at *
    have hO2 := Old.push H1 (.cells [.slice (some ⟨H.next, 0, none⟩) 1 1, .slice a l.length c] true)
    have hg2 : (H1.push (.cells [.slice (some ⟨H.next, 0, none⟩) 1 1, .slice a l.length c] true)).get H1.next = some (.cells [.slice (some ⟨H.next, 0, none⟩) 1 1, .slice a l.length c] true) := get_push_same _
    have hx2 := HHeap.push_next H1 (.cells [.slice (some ⟨H.next, 0, none⟩) 1 1, .slice a l.length c] true)
    rw [hx1] at hg2 hx2
    generalize H1.push (.cells [.slice (some ⟨H.next, 0, none⟩) 1 1, .slice a l.length c] true) = H2 at *
    have hO12 := hO1.trans hO2
    have hg1' : H2.get H.next = some (.cells ([gt M.T f 1].map U) true) := by rw [hO2.2 _ (by omega), hg1]
    have zc : ∀ b, (Z' b ∨ b = H.next) → b < H2.next := by
      rintro b (hb | rfl)
      · have := hZ' b hb; omega
      · omega
    refine slices_Concat (Z := fun x => Z' x ∨ x = H.next) (l1 := [gt M.T f 1]) (l2 := l) (by omega) hg2 zc (Sl.fresh hg1') ((hs.old hO12 hZ').ext fun b hb => ⟨.inl hb, rfl⟩) (by simp) (by simp; omega) _ ?_
    intro H3 hO3 hn3 hg3
    have hO13 := hO12.trans hO3
    have hM3 := hM.old hok hO13 hZ (fun _ h => h) (fun _ h => .inl h)
    simp (disch := first | omega | (show allOne _ = true; simp [allOne, Value.oneCell', S]) | (simp only [qz]; first | done | omega)) only [go_sem]
    have hl' : ∀ x ∈ [gt M.T f 1] ++ l, x < 18446744073709551616 := by
      intro x hx
      rcases List.mem_append.1 hx with hx | hx
      · simp at hx; subst hx; exact gt_lt hM.A.ok f 1
      · exact hl x hx
    refine vm_made hM3 3 (by omega) _ ([gt M.T f 1] ++ l) hl' ⟨fun x => False ∨ x = H2.next, Sl.fresh2 hg3, by simp; omega, by simp; omega, by simp; omega⟩ _ ?_
    intro H4 hM4 hk4 hx4
    have k4 : Kp Z H H4 := (hO13.kp hZ).trans ⟨by omega, fun b hb => hk4 b (by rintro rfl; exact hM.zp.2.1 hb) (by rintro rfl; exact hM.zp.2.2.1 hb) (by rintro rfl; exact hM.zp.2.2.2.1 hb)⟩
    have hwl : makeW size M.T ([gt M.T f 1] ++ l) < 18446744073709551616 := makeW_lt (by omega) _
    have hb6 : b < 1000000 := by omega
    have e5 := hR _ (hM4.put (M' := { M with T := makeT size M.T 3 (M.gt f 1 :: l), bl := b, pc := 0, e := makeW size M.T (M.gt f 1 :: l), s := 2, f := e }) rfl rfl rfl rfl ⟨hM.ok.v, hwl, by show (2 : Nat) < _; omega, he, hM.ok.nm, hM.ok.ask, hb6, by show (0 : Nat) < _; omega, hM.ok.nml, hM.ok.kpl, hM.ok.askl⟩) (k4.trans (Kp.set hM4.zp.1))
    simp (disch := first | omega | (show allOne _ = true; simp [allOne, Value.oneCell', S]) | (simp only [qz]; first | done | omega)) only [go_sem, hM4.m, ldc_cells, mcells, stc_cells, set_set]
    exact e5
  | none =>
    rw [hb] at hC
    simp (disch := first | omega | (show allOne _ = true; simp [allOne, Value.oneCell', S]) | (simp only [qz]; first | done | omega)) only [go_sem, Option.isSome_none]
    cases l with
    | nil => cases hC
    | cons x l =>
      cases hC
      obtain ⟨b, o, k, c', cs, rw, hsv', hzb, hgb, hcs⟩ := word_at hs (i := 0) (x := x) rfl
      cases hsv'
      have hcs' : cs[o]? = some (U x) := hcs
      refine Hwp.drawn mixed [0, 0, 0, 4, 12, 0, 0, 96, 253, 509, 1021, 2045, 4095, 8191, 16383, 32767] (.op 0 (.op 1 (.op 2 (.op 3 (.op 4 (.op 5 (.op 6 (.eff 7 (.op 8 (.op 9 (.op 10 (.eff 11 (.op 12 (.op 13 (.op 14 (.eff 15 .done .stop)))) .stop)))) .stop)))))))) (by kernel_rfl) ?_
      simp (disch := first | omega | (show allOne _ = true; simp [allOne, Value.oneCell', S]) | (simp only [qz]; first | done | omega)) only [go_sem, hgb, ixa_ok, ldc_cells, hcs']
      refine vm_get hM f 0 hf _ ?_
      simp (disch := first | omega | (show allOne _ = true; simp [allOne, Value.oneCell', S]) | (simp only [qz]; first | done | omega)) only [go_sem, hM.m, ldc_cells, mcells, stc_cells, set_set, hgb, hcs']
      have M1 := hM.put (M' := { M with v := x, f := M.gt f 0 }) rfl rfl rfl rfl ⟨hl x (by simp), hM.ok.e, hM.ok.s, gt_lt hM.A.ok f 0, hM.ok.nm, hM.ok.ask, hM.ok.bl, hM.ok.pc, hM.ok.nml, hM.ok.kpl, hM.ok.askl⟩
      have K1 : Kp Z H _ := Kp.set (H := H) (o := .cells (mcells vb g vn vk va { M with v := x, f := M.gt f 0 }) true) hM.zp.1
      refine vm_tell M1 (hB.ext K1.ext) hBl _ ?_
      intro H2 h2 h3
      simp (disch := first | omega | (show allOne _ = true; simp [allOne, Value.oneCell', S]) | (simp only [qz]; first | done | omega)) only [go_sem]
      exact hR H2 h2 (K1.trans h3)
end
end Go.HL
/-
  Walks: a thing of the value, or the value one.
-/
namespace Go.HL
open Go.RowKit Go.Proofs
set_option maxHeartbeats 4000000
set_option maxRecDepth 100000
set_option linter.unusedSimpArgs false
set_option linter.unusedVariables false
def insV (i : In) : Value := .agg #[.int .u8 (i.op : Nat), I (i.a : Nat), I (i.b : Nat), U i.w]
section
variable {Z : Zs} {H : HHeap} {p size : Nat} {vb : Value} {g gw gh : Nat} {vn vk va : Value} {M : MS} {B : List Bk}
theorem room_pc (M : MS) (n : Nat) (l : List Nat) : (M.room size n l).2.1.pc = M.pc := by unfold MS.room; split <;> rfl
theorem vm_makes (hM : MIn Z H p size vb g gw gh vn vk va M) (hZ : ∀ b, Z b → b < H.next) (i : In) (ho : i.op = 7 ∨ i.op = 10) (ha : i.a < 1000000) (hpc : M.pc + 1 < 1000000) (R : Value → HHeap → Prop)
    (hR : ∀ H' g' gw' gh', MIn Z H' p size vb g' gw' gh' vn vk va (M.makes size i) → Kp Z H H' → R (.tuple #[]) H') :
    HCalls Tryz.prog 75 [ptr p 0, insV i] H R := by
  obtain ⟨op, a, b, w⟩ := i
  simp only at ho ha
  unfold insV
  refine HCalls.ok fun hok => ?_
  refine HCalls.of_hw Tryz.func75 rfl _ Tryz.ntmps75 _ (by rw [Tryz.results75]) ?_
  rw [hframe0_eq _ _ (by simp)]
  simp only [List.zipIdx_cons, List.zipIdx_nil, List.map_cons, List.map_nil, Nat.reduceAdd]
  simp (disch := first | omega | (show allOne _ = true; simp [allOne, Value.oneCell', S]) | (simp only [qz]; first | done | omega)) only [go_sem, hbox_agg]
  have hO0 := Old.push H (.cells [.int .u8 (op : Nat), I (a : Nat), I (b : Nat), U w] true)
  have hx0 : (H.push (.cells [.int .u8 (op : Nat), I (a : Nat), I (b : Nat), U w] true)).next = H.next + 1 := HHeap.push_next _ _
  have hg0 : (H.push (.cells [.int .u8 (op : Nat), I (a : Nat), I (b : Nat), U w] true)).get H.next = some (.cells [.int .u8 (op : Nat), I (a : Nat), I (b : Nat), U w] true) := get_push_same _
  generalize H.push (.cells [.int .u8 (op : Nat), I (a : Nat), I (b : Nat), U w] true) = H0 at *
  have hM0 : MIn (fun x => Z x ∨ x = H.next) H0 p size vb g gw gh vn vk va M := hM.old hok hO0 hZ (fun _ h => .inl h) (fun x h => by rcases h with h | h; exact .inl h; exact .inr (by omega))
  have hZ0 : ∀ b, (Z b ∨ b = H.next) → b < H0.next := fun b hb => by rcases hb with hb | hb; have := hZ b hb; omega; omega
  refine HCalls.gotOk (vm_room0 hM0 hZ0 3 (by omega) _ ?_)
  intro H1 g1 gw1 gh1 hN' kN' hok1 _
  have hg1 : H1.get H.next = some (.cells [.int .u8 (op : Nat), I (a : Nat), I (b : Nat), U w] true) := by rw [kN'.keep _ (.inr rfl), hg0]
  have hZ1 : ∀ b, (Z b ∨ b = H.next) → b < H1.next := fun b hb => Nat.lt_of_lt_of_le (hZ0 b hb) kN'.next
  have hN := hN'.less (Z := Z) fun _ h => .inl h
  have kN : Kp Z H H1 := (hO0.kp hZ).trans (kN'.less fun _ h => .inl h)
  have hpc1 : (M.room size 3 []).2.1.pc + 1 < 1000000 := by rw [room_pc]; exact hpc
  have z1 : g1 ≠ H.next ∧ gw1 ≠ H.next ∧ gh1 ≠ H.next := ⟨fun h => hN'.zp.2.1 (.inr h), fun h => hN'.zp.2.2.1 (.inr h), fun h => hN'.zp.2.2.2.1 (.inr h)⟩
  have hpn : p ≠ H.next := fun h => hN'.zp.1 (.inr h)
  cases hr : (M.room size 3 []).1 with
  | false =>
    have e : M.makes size ⟨op, a, b, w⟩ = { (M.room size 3 []).2.1 with st := 5 } := by unfold MS.makes; simp only; rw [hr]; rfl
    rw [e] at hR
    generalize (M.room size 3 []).2.1 = N at *
    simp (disch := first | omega | (show allOne _ = true; simp [allOne, Value.oneCell', S]) | (simp only [qz]; first | done | omega)) only [go_sem, hN.m, ldc_cells, mcells, stc_cells, set_set]
    exact hR _ _ _ _ (hN.put (M' := { N with st := 5 }) rfl rfl rfl rfl ⟨hN.ok.v, hN.ok.e, hN.ok.s, hN.ok.f, hN.ok.nm, hN.ok.ask, hN.ok.bl, hN.ok.pc, hN.ok.nml, hN.ok.kpl, hN.ok.askl⟩) (kN.trans (Kp.set hN.zp.1))
  | true =>
    rcases ho with rfl | rfl
    · have e : M.makes size ⟨7, a, b, w⟩ = (let M := (M.room size 3 []).2.1; { M with T := makeT size M.T 1 [M.v, M.s], s := makeW size M.T [M.v, M.s], pc := M.pc + 1 }) := by unfold MS.makes; simp only; rw [hr]; rfl
      rw [e] at hR
      generalize (M.room size 3 []).2.1 = N at *
      simp only at hR
      simp (disch := first | omega | (show allOne _ = true; simp [allOne, Value.oneCell', S]) | (simp only [qz]; first | done | omega)) only [go_sem, hg1, ldc_cells]
      refine Hwp.drawn mixed [0, 0, 0, 4, 12, 28, 60, 0, 128, 384, 896, 1920, 4092, 8190, 16383, 32767, 65535, 131071] (.op 0 (.op 1 (.op 2 (.op 3 (.op 4 (.op 5 (.op 6 (.op 7 (.op 8 (.op 9 (.op 10 (.op 11 (.eff 12 (.eff 13 (.op 14 (.op 15 (.op 16 (.eff 17 .done .stop)))) .stop) .stop))))))))))))) (by kernel_rfl) ?_
      simp (disch := first | omega | (show allOne _ = true; simp [allOne, Value.oneCell', S]) | (simp only [qz]; first | done | omega)) only [go_sem, hN.m, hg1, ldc_cells, mcells]
      have hO2 := Old.push H1 (.cells [U N.v, U N.s] true)
      have hx2 := HHeap.push_next H1 (.cells [U N.v, U N.s] true)
      have hg2 : (H1.push (.cells [U N.v, U N.s] true)).get H1.next = some (.cells ([N.v, N.s].map U) true) := get_push_same _
      generalize H1.push (.cells [U N.v, U N.s] true) = H2 at *
      have hZN : ∀ b, Z b → b < H1.next := fun b hb => hZ1 b (.inl hb)
      have hN2 := hN.old hok1 hO2 hZN (fun _ h => h) (fun _ h => .inl h)
      have hl1 := hN.lt hok1
      refine vm_made hN2 1 (by omega) _ [N.v, N.s] (by intro x hx; simp at hx; rcases hx with rfl | rfl; exact hN.ok.v; exact hN.ok.s) ⟨fun x => False ∨ x = H1.next, Sl.fresh hg2, by simp; omega, by simp; omega, by simp; omega⟩ _ ?_
      intro H3 hN3 hk3 hx3
      have hwl : makeW size N.T [N.v, N.s] < 18446744073709551616 := makeW_lt (by have := hN.A.room; have := hN.A.big; omega) _
      have k3 : Kp Z H H3 := (kN.trans (hO2.kp hZN)).trans ⟨by omega, fun b hb => hk3 b (by rintro rfl; exact hN.zp.2.1 hb) (by rintro rfl; exact hN.zp.2.2.1 hb) (by rintro rfl; exact hN.zp.2.2.2.1 hb)⟩
      simp (disch := first | omega | (show allOne _ = true; simp [allOne, Value.oneCell', S]) | (simp only [qz]; first | done | omega)) only [go_sem, hN3.m, ldc_cells, mcells, stc_cells, set_set]
      exact hR _ _ _ _ (hN3.put (M' := { N with T := makeT size N.T 1 [N.v, N.s], s := makeW size N.T [N.v, N.s], pc := N.pc + 1 }) rfl rfl rfl rfl ⟨hN.ok.v, hN.ok.e, hwl, hN.ok.f, hN.ok.nm, hN.ok.ask, hN.ok.bl, hpc1, hN.ok.nml, hN.ok.kpl, hN.ok.askl⟩) (k3.trans (Kp.set hN3.zp.1))
    · have e : M.makes size ⟨10, a, b, w⟩ = (let M := (M.room size 3 []).2.1; { M with T := makeT size M.T 2 [wInt a, M.e], v := makeW size M.T [wInt a, M.e], pc := M.pc + 1 }) := by unfold MS.makes; simp only; rw [hr]; rfl
      rw [e] at hR
      generalize (M.room size 3 []).2.1 = N at *
      simp only at hR
      simp (disch := first | omega | (show allOne _ = true; simp [allOne, Value.oneCell', S]) | (simp only [qz]; first | done | omega)) only [go_sem, hg1, ldc_cells]
      refine Hwp.drawn mixed [0, 0, 0, 4, 12, 0, 32, 96, 224, 480, 1020, 2046, 4095, 8191, 16383, 32767] (.op 0 (.op 1 (.op 2 (.op 3 (.op 5 (.op 6 (.op 7 (.op 8 (.op 9 (.eff 4 (.eff 10 (.eff 11 (.op 12 (.op 13 (.op 14 (.eff 15 .done .stop)))) .stop) .stop) .stop)))))))))) (by kernel_rfl) ?_
      simp (disch := first | omega | (show allOne _ = true; simp [allOne, Value.oneCell', S]) | (simp only [qz]; first | done | omega)) only [go_sem, hN.m, hg1, ldc_cells, mcells]
      refine vm_number (a : Nat) (by omega) (by omega) _ _ ?_
      simp (disch := first | omega | (show allOne _ = true; simp [allOne, Value.oneCell', S]) | (simp only [qz]; first | done | omega)) only [go_sem, hN.m, hg1, ldc_cells, mcells]
      have hO2 := Old.push H1 (.cells [U (wInt a), U N.e] true)
      have hx2 := HHeap.push_next H1 (.cells [U (wInt a), U N.e] true)
      have hg2 : (H1.push (.cells [U (wInt a), U N.e] true)).get H1.next = some (.cells ([wInt a, N.e].map U) true) := get_push_same _
      generalize H1.push (.cells [U (wInt a), U N.e] true) = H2 at *
      have hZN : ∀ b, Z b → b < H1.next := fun b hb => hZ1 b (.inl hb)
      have hN2 := hN.old hok1 hO2 hZN (fun _ h => h) (fun _ h => .inl h)
      have hl1 := hN.lt hok1
      refine vm_made hN2 2 (by omega) _ [wInt a, N.e] (by intro x hx; simp at hx; rcases hx with rfl | rfl; exact wInt_lt _; exact hN.ok.e) ⟨fun x => False ∨ x = H1.next, Sl.fresh hg2, by simp; omega, by simp; omega, by simp; omega⟩ _ ?_
      intro H3 hN3 hk3 hx3
      have hwl : makeW size N.T [wInt a, N.e] < 18446744073709551616 := makeW_lt (by have := hN.A.room; have := hN.A.big; omega) _
      have k3 : Kp Z H H3 := (kN.trans (hO2.kp hZN)).trans ⟨by omega, fun b hb => hk3 b (by rintro rfl; exact hN.zp.2.1 hb) (by rintro rfl; exact hN.zp.2.2.1 hb) (by rintro rfl; exact hN.zp.2.2.2.1 hb)⟩
      simp (disch := first | omega | (show allOne _ = true; simp [allOne, Value.oneCell', S]) | (simp only [qz]; first | done | omega)) only [go_sem, hN3.m, ldc_cells, mcells, stc_cells, set_set]
      exact hR _ _ _ _ (hN3.put (M' := { N with T := makeT size N.T 2 [wInt a, N.e], v := makeW size N.T [wInt a, N.e], pc := N.pc + 1 }) rfl rfl rfl rfl ⟨hwl, hN.ok.e, hN.ok.s, hN.ok.f, hN.ok.nm, hN.ok.ask, hN.ok.bl, hpc1, hN.ok.nml, hN.ok.kpl, hN.ok.askl⟩) (k3.trans (Kp.set hN3.zp.1))
end
end Go.HL
