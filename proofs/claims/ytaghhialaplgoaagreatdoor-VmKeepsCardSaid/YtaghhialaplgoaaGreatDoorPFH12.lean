/-
  A high level over the model, part 12: a row whose order is drawn, under any order; and code as one relation that can be unfolded.
-/
import Derived.Test.YtaghhialaplgoaaGreatDoorPFH11
set_option linter.unusedVariables false
set_option linter.unusedSimpArgs false
namespace Go.HL
open Go.RowKit

variable {P : Program} {D : List Deferred}

section
variable {ops : Array Oper} {ms : List Nat} {B : Nat} {μ0 : Mu} {H0 : HHeap} {w0 : World} {fr0 : HFrame}

def unlisted (n : Nat) (l : Array Bool) : Nat := ((List.range n).filter fun i => !l.getD i false).length

theorem unlisted_set {n : Nat} {l : Array Bool} {i : Nat} (hs : l.size = n) (hi : i < n) (hf : l.getD i false = false) : unlisted n (l.setIfInBounds i true) + 1 = unlisted n l := by
  unfold unlisted
  have hget : ∀ j, (l.setIfInBounds i true).getD j false = (if j = i then true else l.getD j false) := by
    intro j
    simp only [Array.getD_eq_getD_getElem?, Array.getElem?_setIfInBounds]
    by_cases hj : i = j
    · subst hj; simp [hs, hi]
    · simp [hj, Ne.symm hj]
  have key : ∀ (m : Nat) (L : List Nat), L.Nodup → L.length = m → i ∈ L → (L.filter fun j => !(if j = i then true else l.getD j false)).length + 1 = (L.filter fun j => !l.getD j false).length := by
    intro m
    induction m with
    | zero => intro L _ hl hm; rw [List.length_eq_zero_iff.1 hl] at hm; simp at hm
    | succ m ih =>
      intro L hnd hl hm
      cases L with
      | nil => simp at hm
      | cons x L =>
        rw [List.nodup_cons] at hnd
        by_cases hx : x = i
        · subst hx
          have hno : ∀ j ∈ L, (!(if j = x then true else l.getD j false)) = (!l.getD j false) := fun j hj => by
            rw [if_neg (fun e => hnd.1 (by rw [← e]; exact hj))]
          simp only [List.filter_cons, if_true, Bool.not_true, Bool.false_eq_true, if_false, hf, Bool.not_false]
          rw [List.filter_congr hno]; simp
        · have := ih L hnd.2 (by simpa using hl) ((List.mem_cons.1 hm).resolve_left (fun e => hx e.symm))
          simp only [List.filter_cons, if_neg hx]
          split
          · rw [List.length_cons, List.length_cons]; omega
          · exact this
  have := key n (List.range n) List.nodup_range (by simp) (by simpa using hi)
  rw [← this]
  congr 2
  apply List.filter_congr
  intro j _
  rw [hget]

theorem wpAny_of {Q : Exit → HFrame → HHeap → Prop} (hanc : ancOk ops ms = true) (hpairs : pairsOk ops ms = true) : ∀ (fuel : Nat) (l : Array Bool), l.size = ops.size → unlisted ops.size l = fuel → ∀ (T : List Ent) (tree : WT) (late : List Late) (H : HHeap) (μ : Mu) (w : World) (a : Act),
    Inv P ops ms (Q .normal) D B μ0 H0 w0 fr0 (fun k => l.getD k false) T tree late H μ w a → wpAny P .any ops (Lift D B μ0 H0 w0 Q) fuel l a w := by
  have done : ∀ (l : Array Bool), (∀ i, i < ops.size → l.getD i false = true) → ∀ (T : List Ent) (tree : WT) (late : List Late) (H : HHeap) (μ : Mu) (w : World) (a : Act),
      Inv P ops ms (Q .normal) D B μ0 H0 w0 fr0 (fun k => l.getD k false) T tree late H μ w a → Lift D B μ0 H0 w0 Q .normal a w := by
    intro l hl T tree late H μ w a h
    have htree : tree = .done := by
      have hok := h.ok
      cases htr : tree with
      | done => rfl
      | op j t => exact absurd htr (h.head j t)
      | eff j t other =>
        exfalso
        rw [htr] at hok
        simp only [wtOk, Bool.and_eq_true] at hok
        obtain ⟨hni, o, ho, _⟩ := nextOk_spec hok.1.1.1.1
        exact hni (h.inT j (hl j (Array.getElem?_eq_some_iff.1 ho).1))
      | stop => rw [htr] at hok; simp [wtOk] at hok
    have hw := h.walk
    rw [htree] at hw
    refine ⟨_, H, μ, hw, ?_, h.step⟩
    have : runS (fun k => l.getD k false) T fr0 = runS (fun _ => true) T fr0 := runS_all T _ (fun x hx => by
      obtain ⟨T1, T2, hT⟩ := List.append_of_mem hx
      exact hl _ (Array.getElem?_eq_some_iff.1 (h.ents T1 x T2 hT).1.op).1)
    rw [← this]; exact h.frame
  have allListed : ∀ (l : Array Bool), unlisted ops.size l = 0 → ∀ i, i < ops.size → l.getD i false = true := by
    intro l h0 i hi
    unfold unlisted at h0
    have := List.length_eq_zero_iff.1 h0
    rw [List.filter_eq_nil_iff] at this
    simpa using this i (by simpa using hi)
  have readyOf : ∀ (l : Array Bool), l.size = ops.size → ∀ i, i ∈ Region.ready .any ops l ↔ i < ops.size ∧ l.getD i false = false ∧ ∃ o, ops[i]? = some o ∧ ∀ e ∈ o.after.toList, Region.binds .any e = true → l.getD e.on false = true := by
    intro l hs i
    unfold Region.ready
    simp only [List.mem_filter, List.mem_range, Bool.and_eq_true, Bool.not_eq_true']
    constructor
    · rintro ⟨h1, h2, h3⟩
      refine ⟨h1, ?_, ?_⟩
      · have : i < l.size := by omega
        simpa [Array.getD_eq_getD_getElem?, this] using h2
      · refine ⟨ops[i], by simp [h1], fun e he hb => ?_⟩
        simp only [Array.getElem?_eq_getElem h1, Option.map_some, Option.getD_some] at h3
        rw [← Array.all_toList, List.all_eq_true] at h3
        have := h3 e he
        simpa [hb] using this
    · rintro ⟨h1, h2, o, h3, h4⟩
      refine ⟨h1, ?_, ?_⟩
      · have : i < l.size := by omega
        simpa [Array.getD_eq_getD_getElem?, this] using h2
      · simp only [h3, Option.map_some, Option.getD_some]
        rw [← Array.all_toList, List.all_eq_true]
        intro e he
        cases hb : Region.binds .any e with
        | false => rfl
        | true => simpa using h4 e he hb
  intro fuel
  induction fuel with
  | zero =>
    intro l hs h0 T tree late H μ w a h
    have hall := allListed l h0
    refine ⟨?_, done l hall T tree late H μ w a h⟩
    refine List.eq_nil_iff_forall_not_mem.2 fun i hi => ?_
    obtain ⟨h1, h2, _⟩ := (readyOf l hs i).1 hi
    rw [hall i h1] at h2; cases h2
  | succ fuel ih =>
    intro l hs hf T tree late H μ w a h
    refine ⟨fun hnil => ?_, fun i hi => ?_⟩
    · -- something is ready
      exfalso
      have notready : ∀ i o, l.getD i false = false → ops[i]? = some o → (∀ e ∈ o.after.toList, Region.binds .any e = true → l.getD e.on false = true) → False := by
        intro i o h1 h2 h3
        have : i ∈ Region.ready .any ops l := (readyOf l hs i).2 ⟨(Array.getElem?_eq_some_iff.1 h2).1, h1, o, h2, h3⟩
        rw [hnil] at this; simp at this
      have hfirst : ∀ (m : Nat) (T1 : List Ent) (t : Ent) (T2 : List Ent), T1.length = m → T = T1 ++ t :: T2 → l.getD t.idx false = true := by
        intro m
        induction m using Nat.strongRecOn with
        | _ m ih2 =>
          intro T1 t T2 hm hT
          obtain ⟨k1, k2, _⟩ := h.ents T1 t T2 hT
          cases hu : l.getD t.idx false with
          | true => rfl
          | false =>
            exfalso
            refine notready t.idx t.o hu k1.op fun e he hb => ?_
            obtain ⟨x, hx, hxe⟩ := List.mem_map.1 (k2 e he hb)
            obtain ⟨U1, U2, hU⟩ := List.append_of_mem hx
            rw [← hxe]
            exact ih2 U1.length (by rw [← hm, hU]; simp) U1 x (U2 ++ t :: T2) rfl (by rw [hT, hU]; simp)
      have hTall : ∀ i ∈ T.map (·.idx), l.getD i false = true := by
        intro i hi
        obtain ⟨x, hx, rfl⟩ := List.mem_map.1 hi
        obtain ⟨U1, U2, hU⟩ := List.append_of_mem hx
        exact hfirst U1.length U1 x U2 rfl hU
      have hex : ∃ i, i < ops.size ∧ l.getD i false = false := by
        unfold unlisted at hf
        have : ((List.range ops.size).filter fun i => !l.getD i false) ≠ [] := fun e => by rw [e] at hf; simp at hf
        obtain ⟨i, hi⟩ := List.exists_mem_of_ne_nil _ this
        simp only [List.mem_filter, List.mem_range, Bool.not_eq_true'] at hi
        exact ⟨i, hi.1, hi.2⟩
      obtain ⟨i0, hi0, hu0⟩ := hex
      have hok := h.ok
      cases htr : tree with
      | done =>
        rw [htr] at hok
        simp only [wtOk, Bool.true_and, List.all_eq_true, List.contains_eq_mem, decide_eq_true_eq] at hok
        have := hTall i0 (hok i0 (by simpa using hi0))
        rw [hu0] at this; cases this
      | op j t => exact absurd htr (h.head j t)
      | eff j t other =>
        rw [htr] at hok
        simp only [wtOk, Bool.and_eq_true] at hok
        obtain ⟨hni, o, ho, hed⟩ := nextOk_spec hok.1.1.1.1
        refine notready j o ?_ ho fun e he hb => hTall _ (hed e he hb)
        cases hj : l.getD j false with
        | false => rfl
        | true => exact absurd (h.inT j hj) hni
      | stop => rw [htr] at hok; simp [wtOk] at hok
    · obtain ⟨h1, h2, o, h3, h4⟩ := (readyOf l hs i).1 hi
      unfold wpOp
      simp only [h3]
      have hgo := h.go hanc hpairs (Qr := Lift D B μ0 H0 w0 Q) (next := wpAny P .any ops (Lift D B μ0 H0 w0 Q) fuel (l.setIfInBounds i true)) h2 h3 h4 (by
        intro T' tree' late' H' μ' w' a' hI
        have hget : (fun k => (l.setIfInBounds i true).getD k false) = (fun k => l.getD k false || k == i) := by
          funext j
          simp only [Array.getD_eq_getD_getElem?, Array.getElem?_setIfInBounds]
          by_cases hj : i = j
          · subst hj; simp [hs, h1]
          · simp [hj, Ne.symm hj]
        refine ih (l.setIfInBounds i true) (by simpa using hs) ?_ T' tree' late' H' μ' w' a' (by rw [hget]; exact hI)
        have := unlisted_set (n := ops.size) hs h1 h2
        omega)
      split
      · rename_i hw; rw [if_pos hw] at hgo; exact .inl hgo
      · rename_i hw; rw [if_neg hw] at hgo; exact hgo

/-- A ROW WHOSE ORDER IS DRAWN: it is walked along a tree. -/
theorem Hwp.draw {id : Nat} {Q : Exit → HFrame → HHeap → Prop} {fr : HFrame} {H : HHeap} (hm : P.follows .mixedOrders = true) (ms : List Nat) (tree : WT) (hok : orderOk ops ms tree = true)
    (h : HDraw P ops ms (Q .normal) tree [] fr H) : Hwp P (.region id ops true) Q fr H := by
  intro D B μ w a hR hf
  refine wp_region_any hm ?_
  unfold orderOk at hok
  simp only [Bool.and_eq_true] at hok
  obtain ⟨⟨hanc, hpairs⟩, hwt⟩ := hok
  obtain ⟨T, tree', late, e1, e2, e3, _, e6, e5⟩ := advance tree [] [] fr List.nodup_nil hwt h
  have hfalse : (fun k => (Array.replicate ops.size false).getD k false) = fun _ => false := by
    funext k
    simp only [Array.getD_eq_getD_getElem?, Array.getElem?_replicate]
    split <;> rfl
  refine wpAny_of (fr0 := fr) hanc hpairs ops.size (Array.replicate ops.size false) (by simp) ?_ T tree' late H μ w.drew a ?_
  · unfold unlisted
    have : ((List.range ops.size).filter fun i => !(Array.replicate ops.size false).getD i false) = List.range ops.size := by
      rw [List.filter_eq_self]
      intro i _
      have : (Array.replicate ops.size false).getD i false = false := congrFun hfalse i
      rw [this]; rfl
    rw [this]; simp
  · rw [hfalse]
    refine ⟨by simpa using e1, e2, e3, fun i hi => by simp at hi, fun k o hk => by simp at hk, by simpa using e6, fun T1 t T2 hT => ?_, ?_, Step.drew hR⟩
    · obtain ⟨k1, k4, k2, k3⟩ := e5 T1 t T2 hT
      exact ⟨k1, by simpa using k4, fun _ => ⟨k2, k3⟩⟩
    · rw [runS_none T fr (fun _ _ => rfl)]; exact hf
end

end Go.HL
