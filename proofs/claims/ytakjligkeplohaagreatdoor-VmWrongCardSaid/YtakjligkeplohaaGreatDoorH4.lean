/-
  A high level over the model, part 4: the model's operations meet those of the high level: loads, stores, addresses, slices.
-/
import Derived.Test.YtakjligkeplohaaGreatDoorH3
namespace Go.HL
open Go.RowKit

variable {P : Program} {B : Nat} {μ : Mu} {H : HHeap} {w : World}

theorem run_isAgg {t : TypeId} {b : Bool} (h : hagg P t = some b) (w : World) : (isAgg t).run P w = .ok b w := by
  unfold hagg at h
  split at h <;> cases h
  · simp [isAgg, run_underlying ‹P.underlying t = _›]
  · simp [isAgg, run_underlying ‹P.underlying t = _›]
  · rename_i d hne1 hne2 hd
    simp only [isAgg, Sem.run_bind, run_underlying hd, Result.andThen_ok]
    cases d <;> first | rfl | (exact absurd rfl (hne1 _)) | (exact absurd rfl (hne2 _ _))

theorem run_sizeOf {t : TypeId} {n : Nat} (h : hsize P t = some n) (w : World) : (sizeOf t).run P w = .ok n w := by
  unfold hsize at h
  cases hi : P.info? t with
  | none => simp [hi] at h
  | some i => simp [hi] at h; subst h; simp [sizeOf, typeInfo, hi]

theorem Rel.cellsAt (h : Rel B μ H w) {b : Nat} {cs : List Value} {rw : Bool} (hb : H.get b = some (.cells cs rw)) {p : Place} (hp : μ b = some p) (o n : Nat) (hn : o + n ≤ cs.length) :
    ∃ vs', VRels μ ((cs.drop o).take n) vs' ∧ vs'.length = n ∧ ∀ (j : Nat) (v : Value), vs'[j]? = some v → w.cell? ((⟨p.g, p.d + o, none⟩ : Addr).add j) = some v := by
  obtain ⟨q, hq, hl, hc, _⟩ := h.cells b cs rw hb
  rw [hp] at hq; cases hq
  induction n with
  | zero => exact ⟨[], by simpa using VRels.nil, rfl, fun j v e => by simp at e⟩
  | succ n ih =>
    obtain ⟨vs', h1, h2, h3⟩ := ih (by omega)
    have hlt : o + n < cs.length := by omega
    obtain ⟨_, v', hv', hrel⟩ := hc (o + n) _ (List.getElem?_eq_getElem hlt)
    refine ⟨vs' ++ [v'], ?_, by simp [h2], fun j v e => ?_⟩
    · rw [List.take_add_one, List.getElem?_drop, List.getElem?_eq_getElem hlt]
      exact h1.append (.cons _ _ _ _ hrel .nil)
    · by_cases hj : j < n
      · rw [List.getElem?_append_left (by omega)] at e; exact h3 j v e
      · rw [List.getElem?_append_right (by omega)] at e
        have hj0 : j - vs'.length = 0 := by
          rcases Nat.eq_zero_or_pos (j - vs'.length) with hh | hh
          · exact hh
          · rw [List.getElem?_eq_none (by simp; omega)] at e; cases e
        rw [hj0] at e; simp at e; subst e
        have : j = n := by omega
        subst this
        rw [add_cell, show p.d + o + j = p.d + (o + j) by omega]; exact hv'

theorem sim_load (h : Rel B μ H w) {t : TypeId} {v u v' : Value} (hl : hload P H t v = some u) (hv : VRel μ v v') :
    ∃ u', (Instr.loadAt t v').run P w = .ok u' w ∧ VRel μ u u' := by
  unfold hload at hl
  split at hl
  · rename_i b o
    cases hv with
    | ptr _ _ p hp =>
    split at hl
    · rename_i cs rw' hb
      cases ha : hagg P t with
      | none => simp [ha] at hl
      | some ag =>
        cases ag with
        | true =>
          simp only [ha, Option.bind_eq_some_iff] at hl
          obtain ⟨n, hn, hl⟩ := hl
          split at hl <;> cases hl
          rename_i hon
          obtain ⟨vs', h1, h2, h3⟩ := h.cellsAt hb hp o n hon
          refine ⟨.agg vs'.toArray, ?_, .agg _ _ h1⟩
          have := run_loadCells_list (P := P) w ⟨p.g, p.d + o, none⟩ vs' h3
          rw [h2] at this
          simp [Instr.loadAt, Instr.sureAddr, loadVar, run_isAgg ha, run_sizeOf hn, this]
        | false =>
          simp only [ha] at hl
          obtain ⟨q, hq, _, hc, _⟩ := h.cells b cs rw' hb
          rw [hp] at hq; cases hq
          obtain ⟨_, v', hv', hrel⟩ := hc o u hl
          exact ⟨v', by simp [Instr.loadAt, Instr.sureAddr, loadVar, run_isAgg ha, hv'], hrel⟩
    · cases hl
  · cases hl

theorem sim_store (h : Rel B μ H w) {t : TypeId} {a x a' x' : Value} {H' : HHeap} (hs : hstore P H t a x = some H') (ha : VRel μ a a') (hx : VRel μ x x') :
    ∃ w', (Instr.storeAt t a' x').run P w = .ok () w' ∧ Step B μ H w μ H' w' := by
  unfold hstore at hs
  split at hs
  · rename_i b o
    cases ha with
    | ptr _ _ p hp =>
    split at hs
    · rename_i cs hb
      simp only [Option.bind_eq_some_iff] at hs
      obtain ⟨n, hn, hs⟩ := hs
      split at hs <;> cases hs
      rename_i hc
      obtain ⟨hc1, hc2, hc3⟩ := hc
      have hcells := hx.cells
      have hlen := hcells.length
      have h1 : ∀ v ∈ x.cells.toList, v.oneCell' = true := List.all_eq_true.1 hc3
      have hlx : x.cells.toList.length = n := by simpa using hc1
      have hlx' : x'.cells.size = n := by simp at hlen; omega
      obtain ⟨q, hq, hl, _⟩ := h.cells b cs true hb
      rw [hp] at hq; cases hq
      have hrun := h.run_store P hb hp o _ _ hcells h1 (by omega)
      refine ⟨_, ?_, h.store hb hp o _ _ hcells h1 (by omega)⟩
      simp [Instr.storeAt, Instr.sureAddr, storeVar, run_sizeOf hn, hlx', hrun]
    · cases hs
  · cases hs

theorem sim_fieldAt {s : TypeId} {v u v' : Value} {f : Nat} (hl : hfieldAt P s v f = some u) (hv : VRel μ v v') :
    ∃ u', (Instr.fieldAt s v' f).run P w = .ok u' w ∧ VRel μ u u' := by
  unfold hfieldAt at hl
  split at hl
  · rename_i b o
    cases hv with
    | ptr _ _ p hp =>
    split at hl
    · rename_i fs hfs
      simp only [Option.bind_eq_some_iff] at hl
      obtain ⟨fd, hfd, n, hn, hl⟩ := hl
      split at hl <;> cases hl
      rename_i hne
      refine ⟨_, ?_, .ptr _ _ p hp⟩
      simp [Instr.fieldAt, run_underlying hfs, hfd, Instr.sureAddr, fieldPlace, run_sizeOf hn, hne, add_cell, Nat.add_assoc]
    · cases hl
  · cases hl

theorem sim_indexAt {t : TypeId} {x x' ix u : Value} (hl : hindexAt P t x ix = some u) (hx : VRel μ x x') :
    ∃ u', (Instr.indexAt t x' ix).run P w = .ok u' w ∧ VRel μ u u' := by
  unfold hindexAt at hl
  split at hl
  · rename_i k i
    split at hl
    · rename_i e b o s len cap ht
      simp only [Option.bind_eq_some_iff] at hl
      obtain ⟨n, hn, hl⟩ := hl
      split at hl <;> cases hl
      rename_i hi
      have key : ∀ (p : Place) (len' cap' o' : Nat), len' = len → (Instr.indexAt t (.slice (some ⟨p.g, p.d + o', none⟩) len' cap') (.int k i)).run P w = .ok (.pointer (some ⟨p.g, p.d + o' + i.toNat * n, none⟩)) w := by
        intro p len' cap' o' e'
        subst e'
        simp [Instr.indexAt, asIntOf, run_underlying ht, hi, run_sizeOf hn, add_cell]
      cases hx with
      | slice _ _ _ _ p hp _ => exact ⟨_, key p _ _ _ rfl, by rw [Nat.add_assoc]; exact .ptr _ _ p hp⟩
      | grown _ _ _ _ _ _ p hp _ _ _ => exact ⟨_, key p _ _ _ rfl, by rw [Nat.add_assoc]; exact .ptr _ _ p hp⟩
      | hole _ _ _ _ _ p hp _ => exfalso; omega
      | void _ _ _ => exfalso; omega
    · rename_i l e b o ht
      cases hx with
      | ptr _ _ p hp =>
      simp only [Option.bind_eq_some_iff] at hl
      obtain ⟨n, hn, hl⟩ := hl
      split at hl <;> cases hl
      rename_i hi
      refine ⟨.pointer (some ⟨p.g, p.d + o + i.toNat * n, none⟩), ?_, by rw [Nat.add_assoc]; exact .ptr _ _ p hp⟩
      simp [Instr.indexAt, asIntOf, run_underlying ht, hi, run_sizeOf hn, add_cell, Instr.sureAddr]
    · cases hl
  · cases hl

theorem sim_part {t : TypeId} {cs cs' : List Value} {off : Nat} {u : Value} (hl : hpart P t cs off = some u) (hx : VRels μ cs cs') :
    ∃ u', (part t cs'.toArray off).run P w = .ok u' w ∧ VRel μ u u' := by
  unfold hpart at hl
  split at hl
  · rename_i ha
    simp only [Option.bind_eq_some_iff] at hl
    obtain ⟨n, hn, hl⟩ := hl
    split at hl <;> cases hl
    refine ⟨.agg ((cs'.drop off).take n).toArray, ?_, .agg _ _ ((hx.drop off).take n)⟩
    simp [part, run_isAgg ha, run_sizeOf hn]
  · rename_i ha
    obtain ⟨u', hu', hr⟩ := hx.get off u hl
    exact ⟨u', by simp [part, run_isAgg ha, hu'], hr⟩
  · cases hl

theorem sim_field {t : TypeId} {x x' u : Value} {f : Nat} (hl : hfield P t x f = some u) (hx : VRel μ x x') :
    ∃ u', (Instr.field t x' f).run P w = .ok u' w ∧ VRel μ u u' := by
  unfold hfield at hl
  split at hl
  · rename_i fs cs ht
    simp only [Option.bind_eq_some_iff] at hl
    obtain ⟨fd, hfd, hl⟩ := hl
    cases hx with
    | agg cs cs' hr =>
    obtain ⟨u', h1, h2⟩ := sim_part (w := w) hl hr
    exact ⟨u', by simp [Instr.field, run_underlying ht, hfd, asAgg, h1], h2⟩
  · cases hl

theorem sim_index {t : TypeId} {x x' ix u : Value} (hl : hindex P t x ix = some u) (hx : VRel μ x x') :
    ∃ u', (Instr.index t x' ix).run P w = .ok u' w ∧ VRel μ u u' := by
  unfold hindex at hl
  split at hl
  · rename_i k i
    split at hl
    · rename_i s ht
      cases hx
      split at hl
      · rename_i hi
        cases hb : s.data[i.toNat]? with
        | none => simp [hb] at hl
        | some b =>
          simp [hb] at hl; subst hl
          have hb' : s[i.toNat]? = some b := by
            rw [← hb]; rfl
          exact ⟨_, by simp [Instr.index, asIntOf, run_underlying ht, hi, hb'], .int _ _⟩
      · cases hl
    · rename_i l e cs ht
      simp only [Option.bind_eq_some_iff] at hl
      obtain ⟨n, hn, hl⟩ := hl
      split at hl
      · rename_i hi
        cases hx with
        | agg cs cs' hr =>
        obtain ⟨u', h1, h2⟩ := sim_part (w := w) hl hr
        exact ⟨u', by simp [Instr.index, asIntOf, run_underlying ht, hi, run_sizeOf hn, h1], h2⟩
      · cases hl
    · cases hl
  · cases hl

theorem run_sliceBound {y : Nat} {x : Value} {n d : Nat} (h : hbound y d (some x) = some n) (code : BoundsCode) : (Instr.sliceBound x y code).run P w = .ok n w ∧ n ≤ y := by
  unfold hbound at h
  split at h
  · cases ‹_ = none›
  · rename_i k i e
    cases e
    split at h <;> cases h
    rename_i hi
    exact ⟨by simp [Instr.sliceBound, asIntOf, hi], by omega⟩
  · cases h

theorem run_sliceBound_le {y y' : Nat} {x : Value} {n d : Nat} (h : hbound y d (some x) = some n) (hy : y ≤ y') (code : BoundsCode) : (Instr.sliceBound x y' code).run P w = .ok n w := by
  unfold hbound at h
  split at h
  · cases ‹_ = none›
  · rename_i k i e
    cases e
    split at h <;> cases h
    rename_i hi
    simp [Instr.sliceBound, asIntOf, show 0 ≤ i ∧ i ≤ y' by omega]
  · cases h

theorem sim_slice {t : TypeId} {x x' u : Value} {lo hi mx : Option Value} (hl : hslice P t x lo hi mx = some u) (hx : VRel μ x x') :
    ∃ u', (Instr.sliceAt t x' lo hi mx).run P w = .ok u' w ∧ VRel μ u u' := by
  unfold hslice at hl
  split at hl
  · rename_i s ht
    cases hx
    split at hl
    · cases hl
    · rename_i hmx
      cases mx with
      | some m => simp at hmx
      | none =>
      simp only [Option.bind_eq_some_iff] at hl
      obtain ⟨h, hh, l, hll, hl⟩ := hl
      cases hl
      refine ⟨_, ?_, .string _⟩
      cases hi with
      | none =>
        simp [hbound] at hh; subst hh
        cases lo with
        | none => simp [hbound] at hll; subst hll; simp [Instr.sliceAt, Instr.slice, run_underlying ht, Instr.sliceBounds]
        | some lo => simp [Instr.sliceAt, Instr.slice, run_underlying ht, Instr.sliceBounds, (run_sliceBound (P := P) (w := w) hll .sliceB).1]
      | some hi =>
        have h1 := (run_sliceBound (P := P) (w := w) hh .sliceAlen).1
        cases lo with
        | none => simp [hbound] at hll; subst hll; simp [Instr.sliceAt, Instr.slice, run_underlying ht, Instr.sliceBounds, h1]
        | some lo => simp [Instr.sliceAt, Instr.slice, run_underlying ht, Instr.sliceBounds, h1, (run_sliceBound (P := P) (w := w) hll .sliceB).1]
  · rename_i e a len cap ht
    split at hl
    · cases hl
    rename_i hmh
    simp only [Option.bind_eq_some_iff] at hl
    obtain ⟨m, hm, h, hh, l, hll, n, hn, hl⟩ := hl
    -- the bounds, at a real capacity that is no less, and the same where a most is said
    have hlen_of : hi = none → h = len := fun e => by subst e; simpa [hbound] using hh.symm
    have bounds : ∀ cap' : Nat, cap ≤ cap' → (Instr.sliceBounds true len cap' lo hi mx).run P w = .ok (l, h, if mx.isSome then m else cap') w := by
      intro cap' hc
      cases mx with
      | some mx =>
        have h0 := run_sliceBound_le (P := P) (w := w) hm hc .slice3Acap
        cases hi with
        | none => simp at hmh
        | some hi =>
          have h1 := (run_sliceBound (P := P) (w := w) hh .slice3B).1
          cases lo with
          | none => simp [hbound] at hll; subst hll; simp [Instr.sliceBounds, h0, h1]
          | some lo => simp [Instr.sliceBounds, h0, h1, (run_sliceBound (P := P) (w := w) hll .slice3C).1]
      | none =>
        simp [hbound] at hm; subst hm
        cases hi with
        | none =>
          have := hlen_of rfl; subst this
          cases lo with
          | none => simp [hbound] at hll; subst hll; simp [Instr.sliceBounds]
          | some lo => simp [Instr.sliceBounds, (run_sliceBound (P := P) (w := w) hll .sliceB).1]
        | some hi =>
          have h1 := run_sliceBound_le (P := P) (w := w) hh hc .sliceAcap
          cases lo with
          | none => simp [hbound] at hll; subst hll; simp [Instr.sliceBounds, h1]
          | some lo => simp [Instr.sliceBounds, h1, (run_sliceBound (P := P) (w := w) hll .sliceB).1]
    have hlh : l ≤ h := by
      cases lo with
      | none => simp [hbound] at hll; omega
      | some lo => exact (run_sliceBound (P := P) (w := w) hll .sliceB).2
    have hhm : hi.isSome → h ≤ m := fun hs => by
      cases hi with
      | none => simp at hs
      | some hi => exact (run_sliceBound (P := P) (w := w) hh .sliceB).2
    have hmc : m ≤ cap := by
      cases mx with
      | none => simp [hbound] at hm; omega
      | some mx => exact (run_sliceBound (P := P) (w := w) hm .sliceB).2
    have hmx' : mx = none → m = cap := fun e => by subst e; simpa [hbound] using hm.symm
    have hhi' : mx.isSome → hi.isSome := fun e => by
      cases hi <;> simp_all
    have run : ∀ (ad : Option Addr) (cap' : Nat), cap ≤ cap' → (Instr.sliceAt t (.slice ad len cap') lo hi mx).run P w =
        .ok (.slice (if (if mx.isSome then m else cap') = l then ad else ad.map (·.add (l * n))) (h - l) ((if mx.isSome then m else cap') - l)) w := by
      intro ad cap' hc
      simp [Instr.sliceAt, Instr.slice, run_underlying ht, bounds cap' hc, run_sizeOf hn]
    have hhm' : len ≤ cap → h ≤ m := fun hlc => by
      cases hi with
      | some hi => exact hhm rfl
      | none =>
        have h1 := hlen_of rfl
        cases mx with
        | none => have := hmx' rfl; omega
        | some mx => simp at hmh
    cases hx with
    | nilSlice =>
      cases hl
      have := run none 0 (Nat.le_refl _)
      refine ⟨_, this, ?_⟩
      have hm0 : m = 0 := by omega
      have hh0 : h = 0 := by have := hhm' (Nat.le_refl _); omega
      subst hm0; subst hh0
      simp; exact .nilSlice
    | slice b o _ _ p hp hlc =>
      simp only at hl
      cases hl
      have hmeq : (if mx.isSome then m else cap) = m := by
        cases mx with
        | none => simpa using (hmx' rfl).symm
        | some _ => rfl
      have hr := run (some ⟨p.g, p.d + o, none⟩) cap (Nat.le_refl _)
      rw [hmeq] at hr
      refine ⟨_, hr, ?_⟩
      have hhm2 := hhm' hlc
      by_cases hml : m = l
      · rw [if_pos hml, if_pos hml]; exact .slice _ _ _ _ p hp (by omega)
      · rw [if_neg hml, if_neg hml]; simp only [Option.map_some, add_cell, Nat.add_assoc]; exact .slice _ _ _ _ p hp (by omega)
    | grown b o _ _ cap' e' p hp hlc hcc hx =>
      simp only at hl
      have hhm2 := hhm' hlc
      split at hl
      · cases hl
      rename_i hk
      have hen : e' = n := by omega
      subst hen
      have hr := run (some ⟨p.g, p.d + o, none⟩) cap' hcc
      split at hl
      · rename_i hs
        split at hl <;> cases hl
        rw [if_pos hs] at hr
        refine ⟨_, hr, ?_⟩
        by_cases hml : m = l
        · rw [if_pos hml, if_pos hml]; exact .slice _ _ _ _ p hp (by omega)
        · rw [if_neg hml, if_neg hml]; simp only [Option.map_some, add_cell, Nat.add_assoc]; exact .slice _ _ _ _ p hp (by omega)
      · rename_i hs
        have hmc' : m = cap := hmx' (by cases mx <;> simp_all)
        rw [if_neg hs] at hr
        split at hl <;> cases hl
        · rename_i hml
          refine ⟨_, hr, ?_⟩
          have hh0 : h - l = 0 := by omega
          rw [hh0]
          by_cases hcl : cap' = l
          · rw [if_pos hcl]
            refine .hole _ _ _ _ _ p hp ?_
            have : cap' - l = 0 := by omega
            rw [this]; have := Nat.zero_le (cap' * e'); omega
          · rw [if_neg hcl]; simp only [Option.map_some, add_cell, Nat.add_assoc]
            refine .hole _ _ _ _ _ p hp ?_
            have : l * e' + (cap' - l) * e' = cap' * e' := by rw [← Nat.add_mul]; congr 1; omega
            omega
        · rename_i hml
          have hcl : cap' ≠ l := by omega
          rw [if_neg hcl] at hr
          refine ⟨_, hr, ?_⟩
          simp only [Option.map_some, add_cell, Nat.add_assoc]
          refine .grown _ _ _ _ _ _ p hp (by omega) (by omega) ?_
          have : l * e' + (cap' - l) * e' = cap' * e' := by rw [← Nat.add_mul]; congr 1; omega
          omega
    | void b o ad =>
      simp only at hl
      cases hl
      have hhm2 := hhm' (Nat.le_refl _)
      have hm0 : m = 0 := by omega
      have hl0 : l = 0 := by omega
      have hh0 : h = 0 := by omega
      have hmeq : (if mx.isSome then m else 0) = m := by
        cases mx with
        | none => simpa using (hmx' rfl).symm
        | some _ => rfl
      have hr := run (some ad) 0 (Nat.le_refl _)
      rw [hmeq] at hr
      refine ⟨_, hr, ?_⟩
      subst hm0; subst hl0; subst hh0
      simp only [if_true, Nat.sub_self]
      exact .void _ _ _
    | hole b o o2 cap' e' p hp hx =>
      simp only at hl
      have hhm2 := hhm' (Nat.le_refl _)
      split at hl
      · cases hl
      rename_i hk
      have hen : e' = n := by omega
      subst hen
      have hr := run (some ⟨p.g, p.d + o2, none⟩) cap' (Nat.zero_le _)
      split at hl
      · rename_i hs
        split at hl
        · omega
        · cases hl
      · rename_i hs
        have hm0 : m = 0 := by omega
        have hl0 : l = 0 := by omega
        have hh0 : h = 0 := by omega
        rw [if_neg hs] at hr
        subst hm0; subst hl0; subst hh0
        simp at hl
        subst hl
        refine ⟨_, hr, ?_⟩
        have : (if cap' = 0 then some ({ block := p.g, off := p.d + o2 } : Addr) else Option.map (fun x : Addr => x.add (0 * e')) (some { block := p.g, off := p.d + o2 })) = some ⟨p.g, p.d + o2, none⟩ := by
          split <;> simp [add_cell]
        rw [this]
        exact .hole _ _ _ _ _ p hp hx
  · cases hl

end Go.HL
