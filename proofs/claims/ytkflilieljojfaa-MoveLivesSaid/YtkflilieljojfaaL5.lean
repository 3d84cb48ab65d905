/-
  Joined: O1, O2, O3, C7, C8, C9, C10, N2, G2.
-/
import Derived.Test.YtkflilieljojfaaL4
import Derived.ChangeReads
import Derived.ReadAgain
import Derived.ChangeBears
import Derived.ProofKit
import Derived.Below
import Derived.ChangeSame
import Derived.OpenShut
/-
  Opening: an argument that reads as data, as values over a heap of blocks that are only read.
-/
namespace Go.HL
open Go.RowKit
set_option linter.unusedVariables false
set_option linter.unusedSimpArgs false

/-- A type of numbers, bools, texts, slices and structs of these. -/
def plainT (P : Program) : Nat → TypeId → Bool
  | 0, _ => false
  | n + 1, t =>
    match P.underlying t with
    | some .bool | some (.int _) | some .string => true
    | some (.slice e) => plainT P n e && decide (0 < P.cellsOf e)
    | some (.struct fs) => fs.toList.all fun f => plainT P n f.type
    | _ => false

/-- What the cells of an argument are. -/
def HArg (P : Program) (H : HHeap) : Nat → TypeId → List Value → Prop
  | 0, _, _ => False
  | n + 1, t, hs =>
    match P.underlying t with
    | some .bool => ∃ b, hs = [.bool b]
    | some (.int k) => ∃ z, hs = [.int k z] ∧ (Lit.int k z).wf = true
    | some .string => ∃ s, hs = [.string s] ∧ s.size ≤ maxLen
    | some (.slice e) => ∃ a len cap cells, hs = [.slice a len cap] ∧ len ≤ cap ∧ cap ≤ maxLen ∧ cells.length = len * P.cellsOf e ∧
        ((a = none ∧ cap = 0) ∨ ∃ b, a = some ⟨b, 0, none⟩ ∧ (len ≠ 0 → H.get b = some (.cells cells false))) ∧
        ∀ i, i < len → HArg P H n e ((cells.drop (i * P.cellsOf e)).take (P.cellsOf e))
    | some (.struct fs) => hs.length = P.cellsOf t ∧ ∀ f ∈ fs.toList, HArg P H n f.type ((hs.drop f.offset).take (P.cellsOf f.type))
    | _ => False

theorem HArg.mono {P : Program} {H H' : HHeap} (h : ∀ b o, H.get b = some o → H'.get b = some o) : ∀ (n : Nat) (t : TypeId) (hs : List Value), HArg P H n t hs → HArg P H' n t hs := by
  intro n
  induction n with
  | zero => intro t hs k; exact k
  | succ n ih =>
    intro t hs k
    unfold HArg at k ⊢
    split
    · rename_i e; rw [e] at k; exact k
    · rename_i e; rw [e] at k; exact k
    · rename_i e; rw [e] at k; exact k
    · rename_i e; rw [e] at k
      obtain ⟨a, len, cap, cells, h1, h2, h3, h4, h5, h6⟩ := k
      refine ⟨a, len, cap, cells, h1, h2, h3, h4, ?_, fun i hi => ih _ _ (h6 i hi)⟩
      rcases h5 with h5 | ⟨b, h5, h7⟩
      · exact .inl h5
      · exact .inr ⟨b, h5, fun hn => h _ _ (h7 hn)⟩
    · rename_i e; rw [e] at k
      exact ⟨k.1, fun f hf => ih _ _ (k.2 f hf)⟩
    · rename_i h1 h2 h3 h4 h5
      split at k
      · exact absurd ‹_› h1
      · exact absurd ‹_› (h2 _)
      · exact absurd ‹_› h3
      · exact absurd ‹_› (h4 _)
      · exact absurd ‹_› (h5 _)
      · exact k

/-- A heap of which more is known. -/
structure Grow (w : World) (μ : Mu) (H : HHeap) (μ' : Mu) (H' : HHeap) : Prop where
  sub : Sub μ μ'
  rel : Rel w.heap.size μ' H' w
  keep : ∀ b o, H.get b = some o → H'.get b = some o

theorem Grow.trans {w : World} {μ μ1 μ2 : Mu} {H H1 H2 : HHeap} (a : Grow w μ H μ1 H1) (b : Grow w μ1 H1 μ2 H2) : Grow w μ H μ2 H2 :=
  ⟨a.sub.trans b.sub, b.rel, fun x o h => b.keep x o (a.keep x o h)⟩

/-- A block that is only read. -/
theorem Rel.view {B : Nat} {μ : Mu} {H : HHeap} {w : World} (h : Rel B μ H w) (p : Place) (hs : List Value) (hp : p.g < B) (hl : hs.length ≤ p.ext)
    (hc : ∀ (i : Nat) (v : Value), hs[i]? = some v → v.oneCell' = true ∧ ∃ v', w.cell? ⟨p.g, p.d + i, none⟩ = some v' ∧ VRel μ v v') : Rel B (μ.add H.next p) (H.push (.cells hs false)) w := by
  have hsub : Sub μ (μ.add H.next p) := Mu.sub_add h.fresh
  have mu_old : ∀ x q, x ≠ H.next → (μ.add H.next p) x = some q → μ x = some q := fun x q hn hq => by simpa [Mu.add, hn] using hq
  have get_old : ∀ x y, x ≠ H.next → (H.push (.cells hs false)).get x = some y → H.get x = some y := fun x y hn e => by simpa [HHeap.get_push, hn] using e
  refine ⟨h.hB, ?_, ?_, ?_, ?_, ?_⟩
  · intro x q hx
    by_cases hxn : x = H.next
    · subst hxn; simp
    · have := h.bound x q (mu_old x q hxn hx); simp; omega
  · intro x q hx
    by_cases hxn : x = H.next
    · subst hxn; simp [Mu.add] at hx; subst hx; have := h.hB; omega
    · exact h.real x q (mu_old x q hxn hx)
  · intro x cs' rw' hg
    by_cases hxn : x = H.next
    · subst hxn
      simp [HHeap.get_push] at hg
      obtain ⟨rfl, rfl⟩ := hg
      refine ⟨p, by simp [Mu.add], hl, fun i v hi => ?_, by simp, fun _ => hp⟩
      obtain ⟨a1, v', a2, a3⟩ := hc i v hi
      exact ⟨a1, v', a2, a3.mono hsub⟩
    · have hg' := get_old _ _ hxn hg
      obtain ⟨q, hq, hl', hc', hw', hr'⟩ := h.cells x cs' rw' hg'
      exact ⟨q, hsub _ _ hq, hl', fun i v hi => let ⟨a1, v', a2, a3⟩ := hc' i v hi; ⟨a1, v', a2, a3.mono hsub⟩, hw', hr'⟩
  · intro x es hg
    have hxn : x ≠ H.next := by rintro rfl; simp [HHeap.get_push] at hg
    have hg' := get_old _ _ hxn hg
    obtain ⟨q, clock, es', hq, hB, hh, he⟩ := h.maps x es hg'
    exact ⟨q, clock, es', hsub _ _ hq, hB, hh, he.mono hsub⟩
  · intro x x' y y' q q' hne hg hg' hy hy' hq hq'
    have hxn : x ≠ H.next := by rintro rfl; simp [HHeap.get_push] at hg; subst hg; simp [HObj.wr] at hy
    have hxn' : x' ≠ H.next := by rintro rfl; simp [HHeap.get_push] at hg'; subst hg'; simp [HObj.wr] at hy'
    exact h.apart x x' _ _ q q' hne (get_old _ _ hxn hg) (get_old _ _ hxn' hg') hy hy' (mu_old _ _ hxn hq) (mu_old _ _ hxn' hq')

/-- Pieces that lie one behind the other. -/
theorem chop {α β : Type} (sz off : β → Nat) (cs : List α) : ∀ (fs : List β) (k : Nat), (∀ j f, fs[j]? = some f → off f = k + ((fs.take j).map sz).sum) →
    (fs.map fun f => (cs.drop (off f)).take (sz f)).flatten = (cs.drop k).take ((fs.map sz).sum)
  | [], k, _ => by simp
  | f :: fs, k, h => by
    have h0 := h 0 f rfl
    simp at h0
    have ih := chop sz off cs fs (k + sz f) (fun j g hg => by
      have := h (j + 1) g (by simpa using hg)
      rw [List.take_succ_cons, List.map_cons, List.sum_cons] at this; omega)
    simp only [List.map_cons, List.flatten_cons, List.sum_cons, ih, h0]
    rw [List.take_add, List.drop_drop]

theorem unchop {α : Type} : ∀ (l : List (List α)) (j : Nat) (x : List α), l[j]? = some x → (l.flatten.drop ((l.take j).map List.length).sum).take x.length = x
  | [], j, x, h => by simp at h
  | y :: l, 0, x, h => by simp at h; subst h; simp
  | y :: l, j + 1, x, h => by
    have ih := unchop l j x (by simpa using h)
    simp only [List.flatten_cons, List.take_succ_cons, List.map_cons, List.sum_cons]
    rw [← List.drop_drop, List.drop_left]
    exact ih

theorem VRels.flatten {μ : Mu} : ∀ {a b : List (List Value)}, a.length = b.length → (∀ (i : Nat) (x y : List Value), a[i]? = some x → b[i]? = some y → VRels μ x y) → VRels μ a.flatten b.flatten
  | [], [], _, _ => .nil
  | [], _ :: _, h, _ => by simp at h
  | _ :: _, [], h, _ => by simp at h
  | x :: a, y :: b, h, k => by
    simp only [List.flatten_cons]
    exact (k 0 x y rfl rfl).append (VRels.flatten (by simpa using h) (fun i x y e e' => k (i + 1) x y (by simpa using e) (by simpa using e')))

/-- Opened: the cells of a value. -/
def Opens (P : Program) (w : World) (n : Nat) (t : TypeId) (cs : List Value) : Prop :=
  ∀ μ H, Rel w.heap.size μ H w → ∃ μ' H' hs, Grow w μ H μ' H' ∧ VRels μ' hs cs ∧ HArg P H' n t hs ∧ ∀ v ∈ hs, v.oneCell' = true

theorem opens_list {P : Program} {w : World} {n : Nat} : ∀ (parts : List (TypeId × List Value)), (∀ p ∈ parts, Opens P w n p.1 p.2) → ∀ μ H, Rel w.heap.size μ H w →
    ∃ (μ' : Mu) (H' : HHeap) (hp : List (List Value)), Grow w μ H μ' H' ∧ hp.length = parts.length ∧ ∀ (i : Nat) (p : TypeId × List Value) (x : List Value), parts[i]? = some p → hp[i]? = some x → VRels μ' x p.2 ∧ HArg P H' n p.1 x ∧ ∀ v ∈ x, v.oneCell' = true
  | [], _, μ, H, h => ⟨μ, H, [], ⟨Sub.refl μ, h, fun _ _ e => e⟩, rfl, fun i p x e => by simp at e⟩
  | p :: parts, ho, μ, H, h => by
    obtain ⟨μ1, H1, hs, g1, v1, a1, o1⟩ := ho p (by simp) μ H h
    obtain ⟨μ2, H2, hp, g2, l2, k2⟩ := opens_list parts (fun q hq => ho q (by simp [hq])) μ1 H1 g1.rel
    refine ⟨μ2, H2, hs :: hp, g1.trans g2, by simp [l2], fun i q x e e' => ?_⟩
    cases i with
    | zero =>
      simp at e e'; subst e; subst e'
      exact ⟨VRels.mono g2.sub v1, HArg.mono g2.keep _ _ _ a1, o1⟩
    | succ i => exact k2 i q x (by simpa using e) (by simpa using e')

section
variable {Hd : Type} {enc : TypeId × Value → Hd} {P : Program} {w : World} {T : TypeId → Prop}

theorem opens_trod (K : Kids P T) : ∀ (n m : Nat) (t : TypeId) (cs : List Value) (x : DataW Hd × List MemPlace), T t → plainT P m t = true →
    DataW.trod enc P w 0 (fun _ => true) true n t cs = some x → Opens P w n t cs := by
  intro n
  induction n with
  | zero => intro m t cs x _ _ h; simp [DataW.trod] at h
  | succ n ih =>
    intro m t cs x hT hm h μ H hR
    cases m with
    | zero => simp [plainT] at hm
    | succ m =>
    unfold plainT at hm
    split at hm
    · rename_i e
      obtain ⟨b, rfl, rfl⟩ := DataW.trod_bool e h
      exact ⟨μ, H, [.bool b], ⟨Sub.refl μ, hR, fun _ _ e => e⟩, .cons _ _ _ _ (.bool b) .nil, by unfold HArg; rw [e]; exact ⟨b, rfl⟩, by simp [Value.oneCell']⟩
    · rename_i k e
      obtain ⟨z, rfl, rfl, hw⟩ := DataW.trod_int e h
      exact ⟨μ, H, [.int k z], ⟨Sub.refl μ, hR, fun _ _ e => e⟩, .cons _ _ _ _ (.int k z) .nil, by unfold HArg; rw [e]; exact ⟨z, rfl, hw⟩, by simp [Value.oneCell']⟩
    · rename_i e
      obtain ⟨s, rfl, rfl, hw⟩ := DataW.trod_string e h
      exact ⟨μ, H, [.string s], ⟨Sub.refl μ, hR, fun _ _ e => e⟩, .cons _ _ _ _ (.string s) .nil, by unfold HArg; rw [e]; exact ⟨s, rfl, hw⟩, by simp [Value.oneCell']⟩
    · rename_i e ht
      simp only [Bool.and_eq_true, decide_eq_true_eq] at hm
      obtain ⟨hpe, hce⟩ := hm
      rcases DataW.trod_slice ht h with ⟨rfl, rfl⟩ | ⟨a, len, cap, elems, rest, n', hn', rfl, rfl, hb, hl, hmx, hlen, hel, hsp, _⟩
      · refine ⟨μ, H, [.slice none 0 0], ⟨Sub.refl μ, hR, fun _ _ e => e⟩, .cons _ _ _ _ .nilSlice .nil, ?_, by simp [Value.oneCell']⟩
        unfold HArg; rw [ht]
        exact ⟨none, 0, 0, [], rfl, Nat.le_refl _, Nat.zero_le _, by simp, .inl ⟨rfl, rfl⟩, fun i hi => by omega⟩
      · have hnn : n' = n := by omega
        subst hnn
        rcases Nat.eq_zero_or_pos cap with hc0 | hcp
        · subst hc0
          have hl0 : len = 0 := by omega
          subst hl0
          refine ⟨μ, H, [.slice (some ⟨0, 0, none⟩) 0 0], ⟨Sub.refl μ, hR, fun _ _ e => e⟩, .cons _ _ _ _ (.void _ _ _) .nil, ?_, by simp [Value.oneCell']⟩
          unfold HArg; rw [ht]
          exact ⟨_, 0, 0, [], rfl, Nat.le_refl _, Nat.zero_le _, by simp, .inr ⟨0, rfl, fun h => absurd rfl h⟩, fun i hi => by omega⟩
        · -- some cell is there
          have hfirst : ∃ cs0, w.cells? 0 a (P.cellsOf e) = some cs0 := by
            by_cases hl0 : 0 < len
            · have h1 := hel 0 hl0
              simp only [Nat.zero_mul] at h1
              have h2 : elems[0]? = some elems[0] := List.getElem?_eq_getElem (by omega)
              rw [h2, Option.bind_eq_some_iff] at h1
              obtain ⟨cs0, h3, _⟩ := h1
              exact ⟨cs0, by simpa [Addr.add] using h3⟩
            · obtain ⟨k1, k2⟩ := hsp rfl
              have h1 := k2 0 (by omega)
              rw [show (len + 0) * P.cellsOf e = 0 by rw [show len + 0 = 0 by omega, Nat.zero_mul]] at h1
              have h2 : rest[0]? = some rest[0] := List.getElem?_eq_getElem (by omega)
              rw [h2, Option.bind_eq_some_iff] at h1
              obtain ⟨cs0, h3, _⟩ := h1
              exact ⟨cs0, by simpa [Addr.add] using h3⟩
          obtain ⟨cs0, hcs0⟩ := hfirst
          obtain ⟨_, q2, q3⟩ := World.cells?_some hcs0
          have hcell0 : ∃ v, w.cell? a = some v := by
            have := q3 0 hce
            rw [List.getElem?_eq_getElem (by omega)] at this
            exact ⟨_, by simpa [Addr.add] using this⟩
          obtain ⟨v0, hv0⟩ := hcell0
          obtain ⟨hspot, hblk⟩ : a.spot = none ∧ a.block < w.heap.size := by
            unfold World.cell? at hv0
            split at hv0
            · rename_i c _ _ hh
              refine ⟨?_, ?_⟩
              · cases hs : a.spot with
                | none => rfl
                | some s => rw [hs] at hv0; simp at hv0
              · exact (Array.getElem?_eq_some_iff.1 hh).1
            · cases hv0
          obtain ⟨ab, ao, asp⟩ := a
          simp only at hspot hblk
          subst hspot
          have each : ∀ i, i < len → ∃ cs1 y, w.cells? 0 ((⟨ab, ao, none⟩ : Addr).add (i * P.cellsOf e)) (P.cellsOf e) = some cs1 ∧ DataW.trod enc P w 0 (fun _ => true) true n' e cs1 = some y := by
            intro i hi
            have h1 := hel i hi
            have h2 : elems[i]? = some elems[i] := List.getElem?_eq_getElem (by omega)
            rw [h2, Option.bind_eq_some_iff] at h1
            obtain ⟨cs1, h3, h4⟩ := h1
            exact ⟨cs1, _, h3, h4⟩
          let cellsAt : Nat → List Value := fun i => (w.cells? 0 ((⟨ab, ao, none⟩ : Addr).add (i * P.cellsOf e)) (P.cellsOf e)).getD []
          have hca : ∀ i, i < len → (cellsAt i).length = P.cellsOf e ∧ (∀ j, j < P.cellsOf e → w.cell? ⟨ab, ao + i * P.cellsOf e + j, none⟩ = (cellsAt i)[j]?) ∧ Opens P w n' e (cellsAt i) := by
            intro i hi
            obtain ⟨cs1, y, h1, h2⟩ := each i hi
            have hc : cellsAt i = cs1 := by simp only [cellsAt, h1, Option.getD_some]
            obtain ⟨_, k2, k3⟩ := World.cells?_some h1
            rw [hc]
            refine ⟨k2, fun j hj => ?_, ih m e cs1 y (K.slice hT ht) hpe h2⟩
            rw [← k3 j hj]
            congr 1
            simp only [Addr.add]
            split <;> split <;> simp_all <;> omega
          obtain ⟨μ1, H1, hp, g1, l1, k1⟩ := opens_list ((List.range len).map fun i => (e, cellsAt i)) (by
            intro p hp
            obtain ⟨i, hi, rfl⟩ := List.mem_map.1 hp
            exact (hca i (by simpa using hi)).2.2) μ H hR
          simp only [List.length_map, List.length_range] at l1
          have piece : ∀ i x, hp[i]? = some x → i < len ∧ VRels μ1 x (cellsAt i) ∧ HArg P H1 n' e x ∧ (∀ v ∈ x, v.oneCell' = true) ∧ x.length = P.cellsOf e := by
            intro i x hx
            have hi : i < len := by have := (List.getElem?_eq_some_iff.1 hx).1; omega
            obtain ⟨p1, p2, p3⟩ := k1 i (e, cellsAt i) x (by simp [hi]) hx
            exact ⟨hi, p1, p2, p3, by have := p1.length; rw [(hca i hi).1] at this; omega⟩
          have hsum : ∀ j, j ≤ hp.length → ((hp.take j).map List.length).sum = j * P.cellsOf e := by
            intro j
            induction j with
            | zero => intro _; simp
            | succ j ihj =>
              intro hj
              rw [List.take_add_one, List.getElem?_eq_getElem (by omega)]
              simp only [Option.toList_some, List.map_append, List.map_cons, List.map_nil, List.sum_append, List.sum_cons, List.sum_nil]
              rw [ihj (by omega), (piece j hp[j] (List.getElem?_eq_getElem (by omega))).2.2.2.2, Nat.add_mul]; omega
          have hflen : hp.flatten.length = len * P.cellsOf e := by
            rw [List.length_flatten]
            have := hsum hp.length (Nat.le_refl _)
            rw [List.take_of_length_le (Nat.le_refl _), l1] at this
            exact this
          have hget : ∀ i (hi : i < len), (hp.flatten.drop (i * P.cellsOf e)).take (P.cellsOf e) = hp[i]'(by omega) := by
            intro i hi
            have h1 : hp[i]? = some (hp[i]'(by omega)) := List.getElem?_eq_getElem (by omega)
            have := unchop hp i _ h1
            rw [hsum i (by omega), (piece i _ h1).2.2.2.2] at this
            exact this
          have hview := g1.rel.view ⟨ab, ao, len * P.cellsOf e⟩ hp.flatten hblk (by simp only [hflen]; exact Nat.le_refl _) (by
            intro q v hq
            have hql : q < len * P.cellsOf e := by have := (List.getElem?_eq_some_iff.1 hq).1; omega
            have hdm := Nat.div_add_mod q (P.cellsOf e)
            have hmod := Nat.mod_lt q hce
            have hdiv : q / P.cellsOf e < len := (Nat.div_lt_iff_lt_mul hce).2 hql
            have h1 : hp[q / P.cellsOf e]? = some (hp[q / P.cellsOf e]'(by omega)) := List.getElem?_eq_getElem (by omega)
            obtain ⟨_, p1, p2, p3, p4⟩ := piece _ _ h1
            have h2 : (hp[q / P.cellsOf e]'(by omega))[q % P.cellsOf e]? = some v := by
              rw [← hget _ hdiv, List.getElem?_take, if_pos hmod, List.getElem?_drop, Nat.mul_comm, hdm]
              exact hq
            obtain ⟨v', hv', hrel⟩ := p1.get _ v h2
            refine ⟨p3 v (List.mem_of_getElem? h2), v', ?_, hrel⟩
            have := (hca _ hdiv).2.1 _ hmod
            rw [hv'] at this
            rw [← this]
            congr 2
            rw [Nat.add_assoc, Nat.mul_comm (q / P.cellsOf e), hdm])
          have hsub2 : Sub μ1 (μ1.add H1.next ⟨ab, ao, len * P.cellsOf e⟩) := Mu.sub_add g1.rel.fresh
          have hkeep2 : ∀ b o, H1.get b = some o → (H1.push (.cells hp.flatten false)).get b = some o := by
            intro b o hbo
            have := g1.rel.ok b o hbo
            rw [HHeap.get_push, if_neg (by omega)]; exact hbo
          refine ⟨μ1.add H1.next ⟨ab, ao, len * P.cellsOf e⟩, H1.push (.cells hp.flatten false), [.slice (some ⟨H1.next, 0, none⟩) len cap], g1.trans ⟨hsub2, hview, hkeep2⟩, ?_, ?_, by simp [Value.oneCell']⟩
          · exact .cons _ _ _ _ (VRel.slice H1.next 0 len cap ⟨ab, ao, len * P.cellsOf e⟩ (by simp [Mu.add]) hl) .nil
          · unfold HArg; rw [ht]
            refine ⟨_, len, cap, hp.flatten, rfl, hl, hmx, hflen, .inr ⟨H1.next, rfl, fun _ => by simp [HHeap.get_push]⟩, fun i hi => ?_⟩
            rw [hget i hi]
            exact HArg.mono hkeep2 _ _ _ (piece i _ (List.getElem?_eq_getElem (by omega))).2.2.1
    · rename_i fs ht
      obtain ⟨xs, n', hn', rfl, hcl, hxl, hfs⟩ := DataW.trod_struct ht h
      have hnn : n' = n := by omega
      subst hnn
      obtain ⟨kT, ksum, koff⟩ := K.struct hT ht
      rw [List.all_eq_true] at hm
      obtain ⟨μ1, H1, hp, g1, l1, k1⟩ := opens_list (fs.toList.map fun (f : Field) => (f.type, (cs.drop f.offset).take (P.cellsOf f.type))) (by
        intro p hp
        obtain ⟨f, hf, rfl⟩ := List.mem_map.1 hp
        obtain ⟨i, hi⟩ := List.getElem?_of_mem hf
        have h1 := hfs i f (by simpa using hi)
        have hil : i < xs.length := by have := (List.getElem?_eq_some_iff.1 hi).1; rw [hxl]; simpa using this
        rw [List.getElem?_eq_getElem hil] at h1
        exact ih m f.type _ _ (kT f hf) (hm f hf) h1) μ H hR
      simp only [List.length_map] at l1
      have hch := chop (fun f : Field => P.cellsOf f.type) (fun f => f.offset) cs fs.toList 0 (by simpa using koff)
      rw [List.drop_zero, ← ksum, ← hcl, List.take_length] at hch
      have hrel : VRels μ1 hp.flatten cs := by
        rw [← hch]
        refine VRels.flatten (by simp [l1]) (fun i x y hx hy => ?_)
        rw [List.getElem?_map, Option.map_eq_some_iff] at hy
        obtain ⟨f, hf, rfl⟩ := hy
        exact (k1 i _ x (by rw [List.getElem?_map, hf]; rfl) hx).1
      have hsz : ∀ (j : Nat) (f : Field), fs.toList[j]? = some f → ((cs.drop f.offset).take (P.cellsOf f.type)).length = P.cellsOf f.type := by
        intro j f hj
        have h1 := koff j f hj
        have h2 : ((fs.toList.take j).map fun f => P.cellsOf f.type).sum + P.cellsOf f.type ≤ cs.length := by
          rw [hcl, ksum]
          conv => rhs; rw [← List.take_append_drop j fs.toList]
          rw [List.map_append, List.sum_append]
          have : fs.toList.drop j = f :: fs.toList.drop (j + 1) := by
            have := (List.getElem?_eq_some_iff.1 hj)
            rw [List.drop_eq_getElem_cons this.1, this.2]
          rw [this, List.map_cons, List.sum_cons]; omega
        rw [List.length_take, List.length_drop]; omega
      have hlens : ∀ (j : Nat) (f : Field) (x : List Value), fs.toList[j]? = some f → hp[j]? = some x → x.length = P.cellsOf f.type := by
        intro j f x hj hx
        have := (k1 j _ x (by rw [List.getElem?_map, hj]; rfl) hx).1.length
        rw [hsz j f hj] at this; omega
      have hsums : ∀ j, j ≤ hp.length → ((hp.take j).map List.length).sum = ((fs.toList.take j).map fun f => P.cellsOf f.type).sum := by
        intro j
        induction j with
        | zero => intro _; simp
        | succ j ihj =>
          intro hj
          have e1 : hp[j]? = some (hp[j]'(by omega)) := List.getElem?_eq_getElem (by omega)
          have e2 : fs.toList[j]? = some (fs.toList[j]'(by omega)) := List.getElem?_eq_getElem (by omega)
          rw [List.take_add_one, List.take_add_one, e1, e2]
          simp only [Option.toList_some, List.map_append, List.map_cons, List.map_nil, List.sum_append, List.sum_cons, List.sum_nil]
          rw [ihj (by omega), hlens j _ _ e2 e1]
      refine ⟨μ1, H1, hp.flatten, g1, hrel, ?_, ?_⟩
      · unfold HArg; rw [ht]
        refine ⟨by have := hrel.length; omega, fun f hf => ?_⟩
        obtain ⟨j, hj⟩ := List.getElem?_of_mem hf
        have hjl : j < hp.length := by have := (List.getElem?_eq_some_iff.1 hj).1; omega
        have e1 : hp[j]? = some (hp[j]'hjl) := List.getElem?_eq_getElem hjl
        have := unchop hp j _ e1
        rw [hsums j (by omega), hlens j f _ hj e1] at this
        have ho := koff j f hj
        rw [← ho] at this
        rw [this]
        exact (k1 j _ _ (by rw [List.getElem?_map, hj]; rfl) e1).2.1
      · intro v hv
        obtain ⟨x, hx, hvx⟩ := List.mem_flatten.1 hv
        obtain ⟨j, hj⟩ := List.getElem?_of_mem hx
        have hjl : j < fs.toList.length := by have := (List.getElem?_eq_some_iff.1 hj).1; omega
        exact (k1 j _ x (by rw [List.getElem?_map, List.getElem?_eq_getElem hjl]; rfl) hj).2.2 v hvx
    · cases hm
end
end Go.HL
/-
  The final row of a law: from what its body comes to over all heaps to the given statement's form.
-/
namespace Go.HL
open Go.RowKit Go.ChangeShapes Go.WideShapes Go.ChangeAt
set_option linter.unusedVariables false
set_option maxRecDepth 10000
set_option linter.unusedSimpArgs false

theorem rel_empty (w : World) : Rel w.heap.size (fun _ => none) ⟨0, fun _ => none⟩ w :=
  ⟨Nat.le_refl _, by simp, by simp, by simp, by simp, by simp⟩

/-- An argument. -/
def harg1 (P : Program) (H : HHeap) (t : TypeId) (v : Value) : Prop :=
  ∃ n hs, HArg P H n t hs ∧ (match P.underlying t with | some (.struct _) => v = .agg hs.toArray | _ => hs = [v])
def HArgs (P : Program) (H : HHeap) : List TypeId → List Value → Prop
  | [], [] => True
  | t :: ts, v :: vs => harg1 P H t v ∧ HArgs P H ts vs
  | _, _ => False

theorem harg1.mono {P : Program} {H H' : HHeap} (h : ∀ b o, H.get b = some o → H'.get b = some o) {t : TypeId} {v : Value} (k : harg1 P H t v) : harg1 P H' t v := by
  obtain ⟨n, hs, k1, k2⟩ := k
  exact ⟨n, hs, HArg.mono h _ _ _ k1, k2⟩
theorem HArgs.mono {P : Program} {H H' : HHeap} (h : ∀ b o, H.get b = some o → H'.get b = some o) : ∀ {ts : List TypeId} {vs : List Value}, HArgs P H ts vs → HArgs P H' ts vs
  | [], [], _ => trivial
  | _ :: _, _ :: _, k => ⟨k.1.mono h, HArgs.mono h k.2⟩
  | [], _ :: _, k => k.elim
  | _ :: _, [], k => k.elim

section
variable {Hd : Type} {enc : TypeId × Value → Hd} {P : Program} {w : World}

theorem open_one {T : TypeId → Prop} (K : Kids P T) {t : TypeId} {v : Value} {d : DataW Hd} {p : List MemPlace} {m base : Nat} (hT : T t) (hm : plainT P m t = true) (hok : Value.okWide P w .any base t v)
    (h : DataW.Trod enc P w 0 (fun _ => true) true t v d p) (μ : Mu) (H : HHeap) (hR : Rel w.heap.size μ H w) : ∃ μ' H' hv, Grow w μ H μ' H' ∧ VRel μ' hv v ∧ harg1 P H' t hv := by
  obtain ⟨n, hn⟩ := h
  obtain ⟨μ', H', hs, g, hr, ha, _⟩ := opens_trod K n m t _ _ hT hm hn μ H hR
  cases m with
  | zero => simp [plainT] at hm
  | succ m =>
  have hcell : (∀ fs, P.underlying t ≠ some (.struct fs)) → v.cells = #[v] → ∃ μ' H' hv, Grow w μ H μ' H' ∧ VRel μ' hv v ∧ harg1 P H' t hv := by
    intro hns hc
    rw [hc] at hr
    cases hr with
    | cons hv _ _ _ h1 h2 =>
      cases h2
      refine ⟨μ', H', hv, g, h1, n, [hv], ha, ?_⟩
      split
      · exact absurd ‹_› (hns _)
      · rfl
  unfold plainT at hm
  split at hm
  · rename_i e
    refine hcell (fun fs => by rw [e]; simp) ?_
    unfold Value.okWide Cell.okWide Cell.ok at hok
    rw [e] at hok
    cases v with
    | agg cs => exact absurd hok (by simp)
    | _ => rfl
  · rename_i k e
    refine hcell (fun fs => by rw [e]; simp) ?_
    unfold Value.okWide Cell.okWide Cell.ok at hok
    rw [e] at hok
    cases v with
    | agg cs => exact absurd hok (by simp)
    | _ => rfl
  · rename_i e
    refine hcell (fun fs => by rw [e]; simp) ?_
    unfold Value.okWide Cell.okWide Cell.ok at hok
    rw [e] at hok
    cases v with
    | agg cs => exact absurd hok (by simp)
    | _ => rfl
  · rename_i e' e
    refine hcell (fun fs => by rw [e]; simp) ?_
    unfold Value.okWide Cell.okWide Cell.ok at hok
    rw [e] at hok
    cases v with
    | agg cs => exact absurd hok (by simp)
    | _ => rfl
  · rename_i fs e
    unfold Value.okWide at hok
    rw [e] at hok
    obtain ⟨cs, rfl, _⟩ := hok
    refine ⟨μ', H', .agg hs.toArray, g, ?_, n, hs, ha, by rw [e]⟩
    have := VRel.agg hs cs.toList hr
    simpa using this
  · cases hm

theorem open_all {T : TypeId → Prop} (K : Kids P T) {m base : Nat} : ∀ (ts : List TypeId) (vs : List Value) (ds : List (DataW Hd)) (p : List MemPlace), (∀ t ∈ ts, T t ∧ plainT P m t = true) →
    (∀ (j : Nat) t v, ts[j]? = some t → vs[j]? = some v → Value.okWide P w .any base t v) → DataW.TrodAll enc P w 0 (fun _ => true) true ts vs ds p →
    ∀ μ H, Rel w.heap.size μ H w → ∃ μ' H' hvs, Grow w μ H μ' H' ∧ VRels μ' hvs vs ∧ HArgs P H' ts hvs
  | [], [], _, _, _, _, _, μ, H, hR => ⟨μ, H, [], ⟨Sub.refl μ, hR, fun _ _ e => e⟩, .nil, trivial⟩
  | t :: ts, v :: vs, d :: ds, p, hT, hok, h, μ, H, hR => by
    obtain ⟨p1, p2, h1, h2, _⟩ := h
    obtain ⟨μ1, H1, hv, g1, r1, a1⟩ := open_one K (hT t (by simp)).1 (hT t (by simp)).2 (hok 0 t v rfl rfl) h1 μ H hR
    obtain ⟨μ2, H2, hvs, g2, r2, a2⟩ := open_all K ts vs ds p2 (fun u hu => hT u (by simp [hu])) (fun j u x e e' => hok (j + 1) u x (by simpa using e) (by simpa using e')) h2 μ1 H1 g1.rel
    exact ⟨μ2, H2, hv :: hvs, g1.trans g2, .cons _ _ _ _ (r1.mono g2.sub) r2, a1.mono g2.keep, a2⟩
  | [], _ :: _, _, _, _, _, h, _, _, _ => by cases h
  | _ :: _, [], _, _, _, _, h, _, _, _ => by cases h
  | _ :: _, _ :: _, [], _, _, _, h, _, _, _ => by cases h

theorem carry_all {w' : World} {spare : Nat → Bool} {held : Bool} : ∀ {ts : List TypeId} {vs : List Value} {ds : List (DataW Hd)} {ps : List MemPlace},
    DataW.TrodAll enc P w 0 spare held ts vs ds ps → (∀ p ∈ ps, w.sameAt w' p) → DataW.TrodAll enc P w' 0 spare held ts vs ds ps
  | [], [], [], _, h, _ => h
  | _ :: _, _ :: _, _ :: _, _, ⟨p, q, ⟨n, h1⟩, h2, e⟩, hs =>
    ⟨p, q, ⟨n, DataW.trod_carry n _ _ _ h1 (fun x hx => hs x (by rw [e]; exact List.mem_append_left _ hx))⟩, carry_all h2 (fun x hx => hs x (by rw [e]; exact List.mem_append_right _ hx)), e⟩
end

/-- THE FINAL ROW: a law that answers true over every heap in which its arguments lie. -/
theorem returns_true {Hd : Type} {enc : TypeId × Value → Hd} {C : Checked} {os : Os} {f : FuncId} {fn : Func} {s : ChangeSpec} {conds : List PathCond} {tb : TypeId}
    (own : ownKnob C.prog.godebug = none) (started : os.Started) (noInit : C.prog.inits.idxOf? f = none) (hfn : C.prog.funcs[f]? = some fn)
    (witness : ∃ (w : World) (tape : Tape) (i : Input), w.os = os ∧ (w.forCall tape i).Shaped C.prog ∧ i.vars = [] ∧ Input.okWide C.prog (w.forCall tape i) .any w.heap.size f i ∧
      s.pre6 enc C.prog fn conds false (w.forCall tape i).memory i.args ∧ ({} : Assume).holds C.prog (lone (Frame.enter C.prog f i.args .normal) [] (w.forCall tape i)))
    (hl : laidOutB C.prog = true) (hm : mapsRowed C.prog = true)
    (hz : ((List.range C.prog.types.size).all fun t => match C.prog.underlying t with | some (.slice e) => decide (0 < C.prog.cellsOf e) | _ => true) = true)
    (hp : (fn.params.toList.all fun t => decide (t < C.prog.types.size) && plainT C.prog 9 t) = true)
    (hr : fn.resultTypes = #[tb]) (hb : C.prog.underlying tb = some .bool) (hv : s.vars = [])
    (hs : ∀ ds : List (DataW Hd), ds.length = fn.params.toList.length → s.fn Hd ds = { results := [.lit (.bool true)], args := ds })
    (law : ∀ H hargs, HArgs C.prog H fn.params.toList hargs → HCalls C.prog f hargs H fun v _ => v = .bool true) :
    ReturnsInHanded {} C os f .any (s.pre6 enc C.prog fn conds false) (s.post enc C.prog fn false true false false) := by
  refine returnsInHanded_of_change (C := C) own started noInit hfn witness ?_
  intro W base args ds gs before hval hW hcnd _
  have hW' := hW
  obtain ⟨p, q, hA, hV, rfl, hfz, hnd⟩ := hW
  rw [hv] at hV
  obtain ⟨rfl, rfl⟩ := trodVars_none hV
  have hT : ∀ t ∈ fn.params.toList, t < C.prog.types.size ∧ plainT C.prog 9 t = true := by
    intro t ht
    have := List.all_eq_true.1 hp t ht
    simpa using this
  have K := kids_rows hl hm
  obtain ⟨μ, H, hargs, g, hrel, hha⟩ := open_all (enc := enc) K fn.params.toList args.toList ds p hT (fun j t v e e' => hval j t v (by simpa using e) (by simpa using e')) hA _ _ (rel_empty W)
  have hlen : ds.length = fn.params.toList.length := by
    have : ∀ (ts : List TypeId) (vs : List Value) (ds : List (DataW Hd)) (p : List MemPlace), DataW.TrodAll enc C.prog W 0 (fun _ => true) true ts vs ds p → ds.length = ts.length := by
      intro ts
      induction ts with
      | nil => intro vs ds p h; cases vs <;> cases ds <;> first | rfl | cases h
      | cons t ts ih =>
        intro vs ds p h
        cases vs with
        | nil => cases h
        | cons v vs => cases ds with
          | nil => cases h
          | cons d ds =>
            obtain ⟨_, _, _, h2, _⟩ := h
            simp [ih _ _ _ h2]
    exact this _ _ _ _ hA
  have := law H hargs hha W.heap.size μ W args.toList g.rel hrel
  rw [Array.toArray_toList] at this
  refine this.mono fun e W' ⟨μ', v, H', v', he, hvt, hvr, hst⟩ => ?_
  subst he; subst hvt
  cases hvr
  have hbel := hst.below g.rel
  have hlt := hA.lt
  have hargs' : DataW.TrodAll enc C.prog W' 0 (fun b => decide (b < W.heap.size)) true fn.params.toList args.toList ds p :=
    carry_all (hA.respare K (slices_full_of C.prog hz) (fun t ht => (hT t ht).1) (fun x hx => by simpa using hlt x hx)) (fun x hx => by
      have hx' := hlt x hx
      cases x with
      | cell b off => show W'.cell? _ = W.cell? _; unfold World.cell?; rw [hbel.block b hx']
      | map b => exact hbel.block b hx')
  have hspec := hs ds hlen
  refine ⟨_, rfl, ds, [], p ++ [], [], p, [], hW', ?_, ?_, ?_, hbel.frame _, fun h => by cases h⟩
  · rw [List.append_nil, hspec, hr]
    exact trodAll_mk1 (shut_bool hb true)
  · rw [List.append_nil, hspec]; exact hargs'
  · rw [hv, List.append_nil, hspec]; rfl
end Go.HL
/-
  Arguments, opened: rows of numbers, of bools, of structs.
-/
namespace Go.HL
open Go.RowKit
set_option linter.unusedVariables false
set_option linter.unusedSimpArgs false

/-- A row that came as an argument. -/
def SlArg (H : HHeap) (v : Value) (e n : Nat) (cells : List Value) : Prop :=
  cells.length = n * e ∧ n ≤ maxLen ∧ ∃ a cap, v = .slice a n cap ∧ n ≤ cap ∧ ((a = none ∧ cap = 0) ∨ ∃ b, a = some ⟨b, 0, none⟩ ∧ (n ≠ 0 → H.get b = some (.cells cells false)))

theorem SlArg.frame {H H' : HHeap} {v : Value} {e n : Nat} {cells : List Value} (h : SlArg H v e n cells) (ok : H.Ok) (f : ∀ b, b < H.next → H'.get b = H.get b) : SlArg H' v e n cells := by
  obtain ⟨h1, h2, a, cap, h3, h4, h5⟩ := h
  refine ⟨h1, h2, a, cap, h3, h4, ?_⟩
  rcases h5 with h5 | ⟨b, h5, h6⟩
  · exact .inl h5
  · exact .inr ⟨b, h5, fun hn => by rw [f b (ok _ _ (h6 hn))]; exact h6 hn⟩

section
variable {P : Program} {H : HHeap} {n : Nat} {t : TypeId} {hs : List Value}

theorem harg_slice {e : TypeId} (ht : P.underlying t = some (.slice e)) (h : HArg P H n t hs) :
    ∃ v len cells m, hs = [v] ∧ SlArg H v (P.cellsOf e) len cells ∧ ∀ i, i < len → HArg P H m e ((cells.drop (i * P.cellsOf e)).take (P.cellsOf e)) := by
  cases n with
  | zero => exact h.elim
  | succ n =>
    unfold HArg at h; rw [ht] at h
    obtain ⟨a, len, cap, cells, rfl, h2, h3, h4, h5, h6⟩ := h
    exact ⟨_, len, cells, n, rfl, ⟨h4, by omega, a, cap, rfl, h2, h5⟩, h6⟩
theorem harg_struct {fs : Array Field} (ht : P.underlying t = some (.struct fs)) (h : HArg P H n t hs) :
    hs.length = P.cellsOf t ∧ ∃ m, ∀ f ∈ fs.toList, HArg P H m f.type ((hs.drop f.offset).take (P.cellsOf f.type)) := by
  cases n with
  | zero => exact h.elim
  | succ n =>
    unfold HArg at h; rw [ht] at h
    exact ⟨h.1, n, h.2⟩
theorem harg_int {k : IntKind} (ht : P.underlying t = some (.int k)) (h : HArg P H n t hs) : ∃ z, hs = [.int k z] ∧ (Lit.int k z).wf = true := by
  cases n with
  | zero => exact h.elim
  | succ n => unfold HArg at h; rw [ht] at h; exact h
theorem harg_bool (ht : P.underlying t = some .bool) (h : HArg P H n t hs) : ∃ b, hs = [.bool b] := by
  cases n with
  | zero => exact h.elim
  | succ n => unfold HArg at h; rw [ht] at h; exact h
theorem harg_string (ht : P.underlying t = some .string) (h : HArg P H n t hs) : ∃ s, hs = [.string s] ∧ s.size ≤ maxLen := by
  cases n with
  | zero => exact h.elim
  | succ n => unfold HArg at h; rw [ht] at h; exact h

theorem one_cell {cells : List Value} {i : Nat} {v : Value} (h : (cells.drop (i * 1)).take 1 = [v]) : cells[i]? = some v := by
  have : ((cells.drop (i * 1)).take 1)[0]? = some v := by rw [h]; rfl
  rw [List.getElem?_take, if_pos (by omega), List.getElem?_drop] at this
  simpa using this

/-- A row of words. -/
theorem harg_words {e : TypeId} (ht : P.underlying t = some (.slice e)) (he : P.underlying e = some (.int .u64)) (hc : P.cellsOf e = 1) (h : HArg P H n t hs) :
    ∃ (v : Value) (l : List Nat), hs = [v] ∧ SlArg H v 1 l.length (l.map U) ∧ ∀ x ∈ l, x < 18446744073709551616 := by
  obtain ⟨v, len, cells, m, rfl, hs, hel⟩ := harg_slice ht h
  rw [hc] at hs hel
  have hl := hs.1
  have each : ∀ (i : Nat) (v : Value), cells[i]? = some v → ∃ x : Nat, v = U x ∧ x < 18446744073709551616 := by
    intro i v hv
    have hi : i < len := by have := (List.getElem?_eq_some_iff.1 hv).1; omega
    obtain ⟨z, h1, h2⟩ := harg_int he (hel i hi)
    have h3 := one_cell h1
    rw [hv] at h3; cases h3
    have := bounds_u64 h2
    exact ⟨z.toNat, by rw [U, Int.toNat_of_nonneg this.1], by omega⟩
  have hcells : ∃ l : List Nat, cells = l.map U ∧ ∀ x ∈ l, x < 18446744073709551616 := by
    clear hel hs hl
    induction cells with
    | nil => exact ⟨[], rfl, by simp⟩
    | cons v cells ih =>
      obtain ⟨x, h1, h2⟩ := each 0 v rfl
      obtain ⟨l, h3, h4⟩ := ih (fun i v hv => each (i + 1) v (by simpa using hv))
      exact ⟨x :: l, by rw [List.map_cons, h1, h3], fun y hy => by rcases List.mem_cons.1 hy with rfl | hy; exact h2; exact h4 y hy⟩
  obtain ⟨l, rfl, hlt⟩ := hcells
  have : len = l.length := by simpa using hl.symm
  subst this
  exact ⟨v, l, rfl, hs, hlt⟩
end

/-- Its first so many. -/
theorem slarg_hi {P : Program} {t u : TypeId} {e n m : Nat} {k : IntKind} {a : Option Addr} {cap : Nat} {cells : List Value} {H : HHeap} (ht : P.underlying t = some (.slice u)) (hz : hsize P u = some e) (h : SlArg H (.slice a n cap) e n cells) (hm : m ≤ n) :
    hslice P t (.slice a n cap) none (some (.int k (m : Int))) none = some (.slice a m cap) := by
  obtain ⟨_, _, a', cap', h3, h4, h5⟩ := h
  cases h3
  rcases h5 with ⟨rfl, rfl⟩ | ⟨b, rfl, _⟩
  · have : n = 0 := by omega
    subst this
    have : m = 0 := by omega
    subst this
    rw [x_sliceN ht hz]; unfold sln; simp [hbound]
  · rw [x_slice ht hz, slx_hi _ _ _ _ _ _ _ (by omega) (by omega)]
    simp
theorem slarg_source {e n m cap : Nat} {a : Option Addr} {cells : List Value} {H H' : HHeap} (h : SlArg H (.slice a n cap) e n cells) (hm : m ≤ n) (ok : H.Ok) (f : ∀ b, b < H.next → H'.get b = H.get b) :
    hsource H' e (.slice a m cap) = some (cells.take (m * e), m) := by
  obtain ⟨h1, _, a', cap', h3, h4, h5⟩ := h
  cases h3
  rcases h5 with ⟨rfl, rfl⟩ | ⟨b, rfl, h6⟩
  · have : n = 0 := by omega
    subst this
    have : m = 0 := by omega
    subst this
    rw [hsource_nil]; simp
  · rw [hsource_slice]
    rcases Nat.eq_zero_or_pos m with rfl | hp
    · rw [hsrc_zero]; simp
    · have hg := h6 (by omega)
      have hle : m * e ≤ n * e := Nat.mul_le_mul_right _ hm
      rw [f b (ok _ _ hg), hg, hsrc_cells _ _ _ _ _ hp (by omega), List.drop_zero]
end Go.HL
/-
  Walks: what is kept.
-/
namespace Go.HL
open Go.RowKit Go.Proofs
set_option maxHeartbeats 4000000
set_option maxRecDepth 100000
set_option linter.unusedSimpArgs false
set_option linter.unusedVariables false

/-- How it stands while roots are brought. -/
structure LiveI (H0 H : HHeap) (m g' gw' gh' mm g size : Nat) (T : Things) (F ord : List Nat) (p q : Nat) (mv ov : Value) (out : List Nat) : Prop where
  lv : LvAt H m g' gw' gh' mm g size T F ord p q mv
  out : MadeAt H ov out
  keep : ∀ b, b < H0.next → H.get b = H0.get b
  next : H0.next ≤ H.next
  new : H0.next ≤ m ∧ H0.next ≤ g' ∧ H0.next ≤ gw' ∧ H0.next ≤ gh' ∧ H0.next ≤ mm
  mnew : ∀ b ∈ vblk mv, H0.next ≤ b
  onew : ∀ b ∈ vblk ov, H0.next ≤ b ∧ b ≠ m ∧ b ≠ g' ∧ b ≠ gw' ∧ b ≠ gh' ∧ b ≠ mm ∧ b ∉ vblk mv

theorem stepAll_append (T : Things) (ord a b : List Nat) : stepAll T ord (a ++ b) = stepAll T (stepAll T ord a) b := by unfold stepAll; rw [List.foldl_append]
theorem bfs_prefix (T : Things) (roots : List Nat) {i w : Nat} (h : roots[i]? = some w) : stepAll T [] (roots.take (i + 1)) = stepO T (stepAll T [] (roots.take i)) w ∧ ∃ l, bfs T roots = stepO T (stepAll T [] (roots.take i)) w ++ l := by
  have e : stepAll T [] (roots.take (i + 1)) = stepO T (stepAll T [] (roots.take i)) w := by
    rw [List.take_add_one, h, stepAll_append]; rfl
  refine ⟨e, ?_⟩
  obtain ⟨l, hl⟩ := scan_sub (T := T) (T.length + 1) 0 (stepAll T [] roots)
  obtain ⟨l', hl'⟩ := stepAll_sub (T := T) (roots.drop (i + 1)) (stepAll T [] (roots.take (i + 1)))
  refine ⟨l' ++ l, ?_⟩
  unfold bfs
  rw [hl]
  conv => lhs; rw [← List.take_append_drop (i + 1) roots]
  rw [stepAll_append, hl', e, List.append_assoc]
theorem stepAll_lt {T : Things} (ws ord : List Nat) (h : ∀ x ∈ ord, x < T.length) : ∀ x ∈ stepAll T ord ws, x < T.length := by
  intro x hx
  rw [stepAll_mem] at hx
  rcases hx with hx | ⟨w, _, hx⟩
  · exact h x hx
  · exact findI_lt hx
theorem MadeAt.frame {H H' : HHeap} {v : Value} {l : List Nat} (h : MadeAt H v l) (hn : H.next ≤ H'.next) (f : ∀ b ∈ vblk v, H'.get b = H.get b) : MadeAt H' v l := by
  rcases h with h | ⟨b, h1, h2, h3, h4⟩
  · exact .inl h
  · exact .inr ⟨b, h1, h2, by omega, by rw [f b (by rw [h2]; simp [vblk])]; exact h4⟩
theorem MadeAt.lt {H : HHeap} {v : Value} {l : List Nat} (h : MadeAt H v l) : ∀ b ∈ vblk v, b < H.next := by
  rcases h with ⟨_, rfl⟩ | ⟨b, h1, rfl, h3, h4⟩
  · simp [vblk]
  · intro c hc; simp [vblk] at hc; omega
theorem MvAt.frame {H H' : HHeap} {m g' gw' gh' mm g size : Nat} {T' : Things} {went : List (Nat × Nat)} {made : List Nat} {mv : Value} (h : MvAt H m g' gw' gh' mm g size T' went made mv) (hn : H.next ≤ H'.next)
    (f : ∀ b, b = m ∨ b = g' ∨ b = gw' ∨ b = gh' ∨ b = mm ∨ b ∈ vblk mv → H'.get b = H.get b) : MvAt H' m g' gw' gh' mm g size T' went made mv := by
  obtain ⟨l1, l2, l3, l4, l5⟩ := h.lt
  exact ⟨by rw [f _ (by simp)]; exact h.s, h.to.frame (fun b hb => f b (by rcases hb with rfl | rfl | rfl <;> simp)), by rw [f _ (by simp)]; exact h.map, h.mades.frame hn (fun b hb => f b (by simp [hb])), h.d1, h.d2, ⟨by omega, by omega, by omega, by omega, by omega⟩, h.mlen, h.mvn⟩

theorem tr_lt {T : Things} {F : List Nat} (hnd : F.Nodup) (hlt : ∀ x ∈ F, x < T.length) (hu : usedOf T ≤ 65536) {w : Nat} (hw : w < 18446744073709551616) (hF : ∀ i, findI T w = some i → i ∈ F) : tr T F w < 18446744073709551616 := by
  unfold tr
  cases h : findI T w with
  | none => simp only; split <;> omega
  | some i =>
    simp only
    obtain ⟨n, hn⟩ := List.getElem?_of_mem (hF i h)
    rw [placeIn_get (l := []) (by simp) hnd hn]
    have := sumR_le T (F.take n) (hnd.sublist (List.take_sublist _ _)) (fun x hx => hlt x (List.mem_of_mem_take hx))
    unfold wordAt; omega

theorem move_Live (H : HHeap) (g gw gh size : Nat) (T : Things) (hA : AtA H g gw gh size T) (hAlt : g < H.next ∧ gw < H.next ∧ gh < H.next) (s : Value) (roots : List Nat) (hs : RowAt H s (roots.map U)) (hrw : ∀ w ∈ roots, w < 18446744073709551616) (hrl : roots.length ≤ 1073741824)
    (R : Value → HHeap → Prop)
    (hR : ∀ H' g' gw' gh' v, AtA H' g' gw' gh' size (outT T (bfs T roots)) → MadeAt H' v (roots.map (tr T (bfs T roots))) → (∀ b, b < H.next → H'.get b = H.get b) → H.next ≤ H'.next →
      (H.next ≤ g' ∧ H.next ≤ gw' ∧ H.next ≤ gh') → (g' < H'.next ∧ gw' < H'.next ∧ gh' < H'.next) → (∀ b ∈ vblk v, H.next ≤ b ∧ b ≠ g' ∧ b ≠ gw' ∧ b ≠ gh') → R (.tuple #[ptr g' 0, v]) H') : HCalls Try.prog 12 [ptr g 0, s] H R := by
  have hbig := hA.big
  have hpos := hA.pos
  obtain ⟨a1, a2, a3⟩ := hAlt
  refine HCalls.of_hw Try.func12 rfl _ Try.ntmps12 _ (by rw [Try.results12]) ?_
  rw [hframe0_eq _ _ (by simp)]
  simp only [List.zipIdx_cons, List.zipIdx_nil, List.map_cons, List.map_nil, Nat.reduceAdd]
  simp (disch := first | omega | (show allOne _ = true; simp [allOne, Value.oneCell']) | (simp only [List.length_cons, List.length_nil, List.length_set, List.length_map, List.length_replicate, List.length_append, List.length_take, List.length_drop, Int.toNat_natCast, Int.toNat_of_nonneg, nx_push, nx_set, nx_kill]; done) | (simp only [List.length_cons, List.length_nil, List.length_set, List.length_map, List.length_replicate, List.length_append, List.length_take, List.length_drop, Int.toNat_natCast, Int.toNat_of_nonneg, nx_push, nx_set, nx_kill]; omega)) only [go_sem, reduceCtorEq, Nat.reduceAdd, Nat.reduceSub, Nat.reduceMul, Nat.reduceLT, Nat.reduceLeDiff, Nat.reduceEqDiff, Nat.reduceBEq, Nat.reduceBNe, Int.reduceBEq, Int.reduceEq, Int.reduceLT, Int.reduceLE, Int.reduceAdd, Int.reduceSub, ↓reduceIte, Int.reduceToNat, Nat.reduceShiftRight, Nat.reduceAnd]
  refine arena_Size _ _ _ _ _ _ hA _ ?_
  simp (disch := first | omega | (show allOne _ = true; simp [allOne, Value.oneCell']) | (simp only [List.length_cons, List.length_nil, List.length_set, List.length_map, List.length_replicate, List.length_append, List.length_take, List.length_drop, Int.toNat_natCast, Int.toNat_of_nonneg, nx_push, nx_set, nx_kill]; done) | (simp only [List.length_cons, List.length_nil, List.length_set, List.length_map, List.length_replicate, List.length_append, List.length_take, List.length_drop, Int.toNat_natCast, Int.toNat_of_nonneg, nx_push, nx_set, nx_kill]; omega)) only [go_sem, reduceCtorEq, Nat.reduceAdd, Nat.reduceSub, Nat.reduceMul, Nat.reduceLT, Nat.reduceLeDiff, Nat.reduceEqDiff, Nat.reduceBEq, Nat.reduceBNe, Int.reduceBEq, Int.reduceEq, Int.reduceLT, Int.reduceLE, Int.reduceAdd, Int.reduceSub, ↓reduceIte, Int.reduceToNat, Nat.reduceShiftRight, Nat.reduceAnd]
  refine arena_New size hpos hbig _ _ ?_
  intro H1 g' gw' gh' b1 b2 b3 b4 b5 b6 b7 hA1
  have hn1 := hA1.ne1
  have hn2 := hA1.ne2
  have hn3 := hA1.ne3
  obtain ⟨sa, sc, rfl, hsv⟩ := hs
  simp (disch := first | omega | (show allOne _ = true; simp [allOne, Value.oneCell']) | (simp only [List.length_cons, List.length_nil, List.length_set, List.length_map, List.length_replicate, List.length_append, List.length_take, List.length_drop, Int.toNat_natCast, Int.toNat_of_nonneg, nx_push, nx_set, nx_kill]; done) | (simp only [List.length_cons, List.length_nil, List.length_set, List.length_map, List.length_replicate, List.length_append, List.length_take, List.length_drop, Int.toNat_natCast, Int.toNat_of_nonneg, nx_push, nx_set, nx_kill]; omega)) only [go_sem, reduceCtorEq, Nat.reduceAdd, Nat.reduceSub, Nat.reduceMul, Nat.reduceLT, Nat.reduceLeDiff, Nat.reduceEqDiff, Nat.reduceBEq, Nat.reduceBNe, Int.reduceBEq, Int.reduceEq, Int.reduceLT, Int.reduceLE, Int.reduceAdd, Int.reduceSub, ↓reduceIte, Int.reduceToNat, Nat.reduceShiftRight, Nat.reduceAnd, hbox_agg]
  refine Hwp.loop (fun n fr H' => ∃ i mv ov, n = roots.length - i ∧ i ≤ roots.length ∧ LiveI H H' (H1.next + 1) g' gw' gh' H1.next g size T (bfs T roots) (stepAll T [] (roots.take i)) 0 0 mv ov ((roots.take i).map (tr T (bfs T roots))) ∧
     FLe (hfr 85 [(33, I i), (32, I roots.length), (31, .slice sa (roots.map U).length sc), (9, ov), (8, ptr (H1.next + 1) 0), (6, ptr g' 0), (0, ptr g 0), (1, .slice sa (roots.map U).length sc)]) fr) roots.length ?_ ?_
  · refine ⟨0, .slice none 0 0, .slice none 0 0, by omega, by omega, ?_, fle_of (by simp [flook])⟩
    refine ⟨⟨?_, ?_, ?_, .inl ⟨rfl, rfl⟩, ?_, ?_, ?_, rfl, ?_⟩, .inl ⟨by simp, rfl⟩, ?_, ?_, ?_, ?_, ?_⟩
    · simp (disch := first | omega | (simp only [nx_push, nx_set, nx_kill]; done) | (simp only [nx_push, nx_set, nx_kill]; omega)) only [get_push_ne, get_push_eq, get_set_ne, get_set_eq, get_kill_ne, nx_push, nx_set, nx_kill]
    · exact hA1.frame (by rintro b (rfl | rfl | rfl) <;> simp (disch := first | omega | (simp only [nx_push, nx_set, nx_kill]; done) | (simp only [nx_push, nx_set, nx_kill]; omega)) only [get_push_ne, get_push_eq, get_set_ne, get_set_eq, get_kill_ne, nx_push, nx_set, nx_kill])
    · simp (disch := first | omega | (simp only [nx_push, nx_set, nx_kill]; done) | (simp only [nx_push, nx_set, nx_kill]; omega)) only [get_push_ne, get_push_eq, get_set_ne, get_set_eq, get_kill_ne, nx_push, nx_set, nx_kill]; rfl
    · omega
    · omega
    · simp (disch := first | omega | (simp only [nx_push, nx_set, nx_kill]; done) | (simp only [nx_push, nx_set, nx_kill]; omega)) only [get_push_ne, get_push_eq, get_set_ne, get_set_eq, get_kill_ne, nx_push, nx_set, nx_kill]; omega
    · simp [vblk]
    · intro b hb; simp (disch := first | omega | (simp only [nx_push, nx_set, nx_kill]; done) | (simp only [nx_push, nx_set, nx_kill]; omega)) only [get_push_ne, get_push_eq, get_set_ne, get_set_eq, get_kill_ne, nx_push, nx_set, nx_kill]; exact b7 b hb
    · simp (disch := first | omega | (simp only [nx_push, nx_set, nx_kill]; done) | (simp only [nx_push, nx_set, nx_kill]; omega)) only [get_push_ne, get_push_eq, get_set_ne, get_set_eq, get_kill_ne, nx_push, nx_set, nx_kill]; omega
    · omega
    · simp [vblk]
    · simp [vblk]
  · rintro n fr H' ⟨i, mv, ov, rfl, hi, hI, hle⟩
    refine Hwp.weaken hle (HW.sound _ _ _ _ ?_)
    by_cases hc : i < roots.length
    · obtain ⟨w, hw⟩ : ∃ w, roots[i]? = some w := ⟨_, List.getElem?_eq_getElem hc⟩
      have hwm : w ∈ roots := List.mem_of_getElem? hw
      obtain ⟨e1, e2⟩ := bfs_prefix T roots hw
      rcases hsv with hsv | ⟨b, o, k, cs, rw', rfl, hbl, hbg, hbv⟩
      · have : roots.length = 0 := by simpa using hsv.1
        omega
      · have hcb := hbv i (U w) (by rw [List.getElem?_map, hw]; rfl)
        have hgb := hI.keep b hbl
        rw [hbg] at hgb
        simp (disch := first | omega | (show allOne _ = true; simp [allOne, Value.oneCell']) | (simp only [List.length_cons, List.length_nil, List.length_set, List.length_map, List.length_replicate, List.length_append, List.length_take, List.length_drop, Int.toNat_natCast, Int.toNat_of_nonneg, nx_push, nx_set, nx_kill]; done) | (simp only [List.length_cons, List.length_nil, List.length_set, List.length_map, List.length_replicate, List.length_append, List.length_take, List.length_drop, Int.toNat_natCast, Int.toNat_of_nonneg, nx_push, nx_set, nx_kill]; omega)) only [go_sem, reduceCtorEq, Nat.reduceAdd, Nat.reduceSub, Nat.reduceMul, Nat.reduceLT, Nat.reduceLeDiff, Nat.reduceEqDiff, Nat.reduceBEq, Nat.reduceBNe, Int.reduceBEq, Int.reduceEq, Int.reduceLT, Int.reduceLE, Int.reduceAdd, Int.reduceSub, ↓reduceIte, Int.reduceToNat, Nat.reduceShiftRight, Nat.reduceAnd, ixa_ok, ldc_cells, hgb, hcb]
        have hA2 : AtA H' g gw gh size T := hA.frame (by rintro b (rfl | rfl | rfl) <;> exact hI.keep _ (by omega))
        have hnx := hI.next
        obtain ⟨c1, c2, c3, c4, c5⟩ := hI.new
        refine bringO H' _ _ _ _ _ g gw gh size size T _ _ 0 0 mv hI.lv hA2 ⟨by omega, by omega, by omega⟩ w (hrw w hwm) e2 (stepAll_nodup _ _ List.nodup_nil) (stepAll_lt _ _ (by simp)) (by omega) hA.room _ ?_
        intro H2 mv2 hlv2 hst
        have hov : MadeAt H2 ov ((roots.take i).map (tr T (bfs T roots))) := hI.out.frame hst.next (fun c hc => by
          obtain ⟨o1, o2, o3, o4, o5, o6, o7⟩ := hI.onew c hc
          exact hst.same c (hI.out.lt c hc) o2 o3 o4 o5 o6 o7)
        obtain ⟨ov3, H3, q1, q2, q3, q4, q5⟩ := append_one H2 ov _ (tr T (bfs T roots) w) hov (by simp; omega)
        simp (disch := first | omega | (show allOne _ = true; simp [allOne, Value.oneCell']) | (simp only [List.length_cons, List.length_nil, List.length_set, List.length_map, List.length_replicate, List.length_append, List.length_take, List.length_drop, Int.toNat_natCast, Int.toNat_of_nonneg, nx_push, nx_set, nx_kill]; done) | (simp only [List.length_cons, List.length_nil, List.length_set, List.length_map, List.length_replicate, List.length_append, List.length_take, List.length_drop, Int.toNat_natCast, Int.toNat_of_nonneg, nx_push, nx_set, nx_kill]; omega)) only [go_sem, reduceCtorEq, Nat.reduceAdd, Nat.reduceSub, Nat.reduceMul, Nat.reduceLT, Nat.reduceLeDiff, Nat.reduceEqDiff, Nat.reduceBEq, Nat.reduceBNe, Int.reduceBEq, Int.reduceEq, Int.reduceLT, Int.reduceLE, Int.reduceAdd, Int.reduceSub, ↓reduceIte, Int.reduceToNat, Nat.reduceShiftRight, Nat.reduceAnd, hsource_slice, hsrc_cells, List.drop_zero, List.take_succ_cons, List.take_zero, q1, ldc_cells]
        have hovn : ∀ c ∈ vblk ov, c ∉ vblk mv2 ∧ c ≠ H1.next + 1 ∧ c ≠ g' ∧ c ≠ gw' ∧ c ≠ gh' ∧ c ≠ H1.next := fun c hc => by
          obtain ⟨o1, o2, o3, o4, o5, o6, o7⟩ := hI.onew c hc
          refine ⟨fun hm => ?_, o2, o3, o4, o5, o6⟩
          rcases hst.mine c hm with hh | hh
          · exact o7 hh
          · have := hI.out.lt c hc; omega
        have hmlt := hlv2.mades.lt
        obtain ⟨l1, l2, l3, l4, l5⟩ := hlv2.lt
        have hn2 := hst.next
        refine ⟨_, ?_, i + 1, mv2, ov3, rfl, by omega, ?_, fle_of (by simp [flook])⟩
        · omega
        · rw [e1]
          refine ⟨hlv2.frame q3 (fun c hc => q4 c ?_ ?_), ?_, ?_, by omega, ⟨c1, c2, c3, c4, c5⟩, ?_, ?_⟩
          · rcases hc with rfl | rfl | rfl | rfl | rfl | hc <;> first | assumption | exact hmlt c hc
          · intro hm
            obtain ⟨o0, o2, o3, o4, o5, o6⟩ := hovn c hm
            rcases hc with hc | hc | hc | hc | hc | hc <;> contradiction
          · rw [List.take_add_one, hw]; simpa using q2
          · intro c hc
            rw [q4 c (by omega) (fun hm => by have := (hI.onew c hm).1; omega), hst.same c (by omega) (by omega) (by omega) (by omega) (by omega) (by omega) (fun hm => by have := hI.mnew c hm; omega)]
            exact hI.keep c hc
          · intro c hc
            rcases hst.mine c hc with hh | hh
            · exact hI.mnew c hh
            · omega
          · intro c hc
            have := q5 c hc
            exact ⟨by omega, by omega, by omega, by omega, by omega, by omega, fun hm => by have := hmlt c hm; omega⟩
    · simp (disch := first | omega | (show allOne _ = true; simp [allOne, Value.oneCell']) | (simp only [List.length_cons, List.length_nil, List.length_set, List.length_map, List.length_replicate, List.length_append, List.length_take, List.length_drop, Int.toNat_natCast, Int.toNat_of_nonneg, nx_push, nx_set, nx_kill]; done) | (simp only [List.length_cons, List.length_nil, List.length_set, List.length_map, List.length_replicate, List.length_append, List.length_take, List.length_drop, Int.toNat_natCast, Int.toNat_of_nonneg, nx_push, nx_set, nx_kill]; omega)) only [go_sem, reduceCtorEq, Nat.reduceAdd, Nat.reduceSub, Nat.reduceMul, Nat.reduceLT, Nat.reduceLeDiff, Nat.reduceEqDiff, Nat.reduceBEq, Nat.reduceBNe, Int.reduceBEq, Int.reduceEq, Int.reduceLT, Int.reduceLE, Int.reduceAdd, Int.reduceSub, ↓reduceIte, Int.reduceToNat, Nat.reduceShiftRight, Nat.reduceAnd]
      have hi' : i = roots.length := by omega
      subst hi'
      rw [List.take_of_length_le (by omega)] at hI
      refine Hwp.loop (fun n fr H' => ∃ p ord mv, n = T.length + 1 - p ∧ p ≤ ord.length ∧ ScanInv T roots p ord ∧ bfs T roots = scan T (T.length + 1 - p) p ord ∧ LiveI H H' (H1.next + 1) g' gw' gh' H1.next g size T (bfs T roots) ord p 0 mv ov (roots.map (tr T (bfs T roots))) ∧
         FLe (hfr 85 [(12, I p), (9, ov), (8, ptr (H1.next + 1) 0), (6, ptr g' 0)]) fr) (T.length + 1) ?_ ?_
      · exact ⟨0, _, mv, by omega, by omega, ScanInv.start T roots, rfl, hI, fle_of (by simp [flook])⟩
      · clear hI hle mv hi hc
        rintro n fr H' ⟨p, ord, mv, rfl, hp, hS, hF, hI, hle⟩
        refine Hwp.weaken hle (HW.sound _ _ _ _ ?_)
        have hol := hS.le
        have fin : ord.length ≤ p → R (.tuple #[ptr g' 0, ov]) H' := by
          intro hpo
          have hpe : p = ord.length := by omega
          have hFo : bfs T roots = ord := by rw [hF]; exact scan_stop hpo
          have hto := hI.lv.to
          rw [midT_done T (bfs T roots) p 0 ord 0 (by omega), ← hFo] at hto
          obtain ⟨c1, c2, c3, c4, c5⟩ := hI.new
          obtain ⟨l1, l2, l3, l4, l5⟩ := hI.lv.lt
          exact hR H' g' gw' gh' ov hto hI.out hI.keep hI.next ⟨c2, c3, c4⟩ ⟨l2, l3, l4⟩ (fun b hb => by
            obtain ⟨o1, o2, o3, o4, o5, o6, o7⟩ := hI.onew b hb
            exact ⟨o1, o3, o4, o5⟩)
        have hml : (madeO T (bfs T roots) ord).length = ord.length := by simp [madeO]
        have hls := hI.lv.s
        rcases hI.lv.mades with ⟨md, hmv⟩ | ⟨mb, md, hmv, mbl, mbg⟩
        · rw [md] at hml
          have hp0 : p = 0 := by simp at hml; omega
          subst hmv; subst hp0
          simp (disch := first | omega | (show allOne _ = true; simp [allOne, Value.oneCell']) | (simp only [List.length_cons, List.length_nil, List.length_set, List.length_map, List.length_replicate, List.length_append, List.length_take, List.length_drop, Int.toNat_natCast, Int.toNat_of_nonneg, nx_push, nx_set, nx_kill]; done) | (simp only [List.length_cons, List.length_nil, List.length_set, List.length_map, List.length_replicate, List.length_append, List.length_take, List.length_drop, Int.toNat_natCast, Int.toNat_of_nonneg, nx_push, nx_set, nx_kill]; omega)) only [go_sem, reduceCtorEq, Nat.reduceAdd, Nat.reduceSub, Nat.reduceMul, Nat.reduceLT, Nat.reduceLeDiff, Nat.reduceEqDiff, Nat.reduceBEq, Nat.reduceBNe, Int.reduceBEq, Int.reduceEq, Int.reduceLT, Int.reduceLE, Int.reduceAdd, Int.reduceSub, ↓reduceIte, Int.reduceToNat, Nat.reduceShiftRight, Nat.reduceAnd, hls, ldc_cells]
          exact fin (by simp at hml; omega)
        · subst hmv
          by_cases hpo : p < ord.length
          · obtain ⟨i, hi⟩ : ∃ i, ord[p]? = some i := ⟨_, List.getElem?_eq_getElem hpo⟩
            have hil : i < T.length := reached_lt (hS.sound i (List.mem_of_getElem? hi))
            obtain ⟨t, hti⟩ : ∃ t, T[i]? = some t := ⟨_, List.getElem?_eq_getElem hil⟩
            have htok := hA.ok t (List.mem_of_getElem? hti)
            have hwi : wordsI T i = t.l := by unfold wordsI; rw [hti]
            have hmg : ((madeO T (bfs T roots) ord).map U)[p]? = some (U (wordAt (placeIn T (bfs T roots) i))) := by
              rw [List.getElem?_map, madeO, List.getElem?_map, hi]; rfl
            obtain ⟨Fl, hFl⟩ := scan_sub (T := T) (T.length + 1 - p) p ord
            rw [← hF] at hFl
            have hfind := midT_find (T := T) hFl hS.nodup p 0 hi
            rw [midThing_new hti (.inr ⟨rfl, rfl⟩)] at hfind
            have hwN : wordsN (midT T (bfs T roots) p 0 0 ord) (wordAt (placeIn T (bfs T roots) i)) = t.l := by unfold wordsN; rw [hfind]
            have hlN : lenN (midT T (bfs T roots) p 0 0 ord) (wordAt (placeIn T (bfs T roots) i)) = t.l.length := by unfold lenN; rw [hfind]
            obtain ⟨l1, l2, l3, l4, l5⟩ := hI.lv.lt
            have hpl : placeIn T (bfs T roots) i ≤ 65536 := by
              rw [placeIn_get hFl hS.nodup hi]
              have := sumR_le T (ord.take p) (hS.nodup.sublist (List.take_sublist _ _)) (fun x hx => reached_lt (hS.sound x (List.mem_of_mem_take hx)))
              have := hA.room
              omega
            simp (disch := first | omega | (show allOne _ = true; simp [allOne, Value.oneCell']) | (simp only [List.length_cons, List.length_nil, List.length_set, List.length_map, List.length_replicate, List.length_append, List.length_take, List.length_drop, Int.toNat_natCast, Int.toNat_of_nonneg, nx_push, nx_set, nx_kill]; done) | (simp only [List.length_cons, List.length_nil, List.length_set, List.length_map, List.length_replicate, List.length_append, List.length_take, List.length_drop, Int.toNat_natCast, Int.toNat_of_nonneg, nx_push, nx_set, nx_kill]; omega)) only [go_sem, reduceCtorEq, Nat.reduceAdd, Nat.reduceSub, Nat.reduceMul, Nat.reduceLT, Nat.reduceLeDiff, Nat.reduceEqDiff, Nat.reduceBEq, Nat.reduceBNe, Int.reduceBEq, Int.reduceEq, Int.reduceLT, Int.reduceLE, Int.reduceAdd, Int.reduceSub, ↓reduceIte, Int.reduceToNat, Nat.reduceShiftRight, Nat.reduceAnd, hls, ldc_cells, mbg, ixa_ok, hmg]
            refine move_words _ _ _ _ _ _ hI.lv.to ⟨l2, l3, l4⟩ _ (by unfold wordAt; omega) _ ?_
            rw [hwN, hlN]
            have hlen := htok.len
            have hTl := length_le_used T
            have hTr := hA.room
            simp (disch := first | omega | (show allOne _ = true; simp [allOne, Value.oneCell']) | (simp only [List.length_cons, List.length_nil, List.length_set, List.length_map, List.length_replicate, List.length_append, List.length_take, List.length_drop, Int.toNat_natCast, Int.toNat_of_nonneg, nx_push, nx_set, nx_kill]; done) | (simp only [List.length_cons, List.length_nil, List.length_set, List.length_map, List.length_replicate, List.length_append, List.length_take, List.length_drop, Int.toNat_natCast, Int.toNat_of_nonneg, nx_push, nx_set, nx_kill]; omega)) only [go_sem, reduceCtorEq, Nat.reduceAdd, Nat.reduceSub, Nat.reduceMul, Nat.reduceLT, Nat.reduceLeDiff, Nat.reduceEqDiff, Nat.reduceBEq, Nat.reduceBNe, Int.reduceBEq, Int.reduceEq, Int.reduceLT, Int.reduceLE, Int.reduceAdd, Int.reduceSub, ↓reduceIte, Int.reduceToNat, Nat.reduceShiftRight, Nat.reduceAnd]
            have hnx := hI.next
            obtain ⟨c1, c2, c3, c4, c5⟩ := hI.new
            have hFi : bfs T roots = scan T (T.length - p) (p + 1) (stepAll T ord (wordsI T i)) := by
              rw [hF, show T.length + 1 - p = (T.length - p) + 1 by omega, scan_step hi]
            obtain ⟨Fl2, hFl2⟩ := scan_sub (T := T) (T.length - p) (p + 1) (stepAll T ord (wordsI T i))
            rw [← hFi] at hFl2
            refine Hwp.loop (fun n fr H'' => ∃ q ord' mv', n = t.l.length - q ∧ q ≤ t.l.length ∧ ord' = stepAll T ord (t.l.take q) ∧ LiveI H H'' (H1.next + 1) g' gw' gh' H1.next g size T (bfs T roots) ord' p q mv' ov (roots.map (tr T (bfs T roots))) ∧
              H''.get H'.next = some (.cells (t.l.map U) true) ∧ H'.next < H''.next ∧ H'.next ∉ vblk mv' ∧ H'.next ∉ vblk ov ∧
              FLe (hfr 85 [(63, I q), (62, I t.l.length), (61, .slice (some ⟨H'.next, 0, none⟩) t.l.length t.l.length), (12, I p), (9, ov), (8, ptr (H1.next + 1) 0), (6, ptr g' 0)]) fr) t.l.length ?_ ?_
            · refine ⟨0, ord, _, by omega, by omega, by simp [stepAll], ⟨hI.lv.frame (by simp (disch := first | omega | (simp only [nx_push, nx_set, nx_kill]; done) | (simp only [nx_push, nx_set, nx_kill]; omega)) only [get_push_ne, get_push_eq, get_set_ne, get_set_eq, get_kill_ne, nx_push, nx_set, nx_kill]; omega) ?_, hI.out.frame (by simp (disch := first | omega | (simp only [nx_push, nx_set, nx_kill]; done) | (simp only [nx_push, nx_set, nx_kill]; omega)) only [get_push_ne, get_push_eq, get_set_ne, get_set_eq, get_kill_ne, nx_push, nx_set, nx_kill]; omega) ?_, ?_, by simp (disch := first | omega | (simp only [nx_push, nx_set, nx_kill]; done) | (simp only [nx_push, nx_set, nx_kill]; omega)) only [get_push_ne, get_push_eq, get_set_ne, get_set_eq, get_kill_ne, nx_push, nx_set, nx_kill]; omega, hI.new, hI.mnew, hI.onew⟩, by simp (disch := first | omega | (simp only [nx_push, nx_set, nx_kill]; done) | (simp only [nx_push, nx_set, nx_kill]; omega)) only [get_push_ne, get_push_eq, get_set_ne, get_set_eq, get_kill_ne, nx_push, nx_set, nx_kill], by simp (disch := first | omega | (simp only [nx_push, nx_set, nx_kill]; done) | (simp only [nx_push, nx_set, nx_kill]; omega)) only [get_push_ne, get_push_eq, get_set_ne, get_set_eq, get_kill_ne, nx_push, nx_set, nx_kill]; omega, ?_, ?_, fle_of (by simp [flook])⟩
              · intro c hc
                have : c < H'.next := by
                  rcases hc with rfl | rfl | rfl | rfl | rfl | hc
                  · exact l1
                  · exact l2
                  · exact l3
                  · exact l4
                  · exact l5
                  · exact hI.lv.mades.lt c hc
                simp (disch := first | omega | (simp only [nx_push, nx_set, nx_kill]; done) | (simp only [nx_push, nx_set, nx_kill]; omega)) only [get_push_ne, get_push_eq, get_set_ne, get_set_eq, get_kill_ne, nx_push, nx_set, nx_kill]
              · intro c hc
                have := hI.out.lt c hc
                simp (disch := first | omega | (simp only [nx_push, nx_set, nx_kill]; done) | (simp only [nx_push, nx_set, nx_kill]; omega)) only [get_push_ne, get_push_eq, get_set_ne, get_set_eq, get_kill_ne, nx_push, nx_set, nx_kill]
              · intro c hc
                simp (disch := first | omega | (simp only [nx_push, nx_set, nx_kill]; done) | (simp only [nx_push, nx_set, nx_kill]; omega)) only [get_push_ne, get_push_eq, get_set_ne, get_set_eq, get_kill_ne, nx_push, nx_set, nx_kill]; exact hI.keep c hc
              · intro hm; have := hI.lv.mades.lt _ hm; omega
              · intro hm; have := hI.out.lt _ hm; omega
            · rintro n fr H'' ⟨q, ord', mv', rfl, hq, rfl, hJ, hwb, hwn, hw1, hw2, hle2⟩
              refine Hwp.weaken hle2 (HW.sound _ _ _ _ ?_)
              by_cases hqc : q < t.l.length
              · obtain ⟨w, hw⟩ : ∃ w, t.l[q]? = some w := ⟨_, List.getElem?_eq_getElem hqc⟩
                have hwlt := htok.words w (List.mem_of_getElem? hw)
                have hwg : (t.l.map U)[q]? = some (U w) := by rw [List.getElem?_map, hw]; rfl
                simp (disch := first | omega | (show allOne _ = true; simp [allOne, Value.oneCell']) | (simp only [List.length_cons, List.length_nil, List.length_set, List.length_map, List.length_replicate, List.length_append, List.length_take, List.length_drop, Int.toNat_natCast, Int.toNat_of_nonneg, nx_push, nx_set, nx_kill]; done) | (simp only [List.length_cons, List.length_nil, List.length_set, List.length_map, List.length_replicate, List.length_append, List.length_take, List.length_drop, Int.toNat_natCast, Int.toNat_of_nonneg, nx_push, nx_set, nx_kill]; omega)) only [go_sem, reduceCtorEq, Nat.reduceAdd, Nat.reduceSub, Nat.reduceMul, Nat.reduceLT, Nat.reduceLeDiff, Nat.reduceEqDiff, Nat.reduceBEq, Nat.reduceBNe, Int.reduceBEq, Int.reduceEq, Int.reduceLT, Int.reduceLE, Int.reduceAdd, Int.reduceSub, ↓reduceIte, Int.reduceToNat, Nat.reduceShiftRight, Nat.reduceAnd, ixa_ok, ldc_cells, hwb, hwg]
                have hA3 : AtA H'' g gw gh size T := hA.frame (by rintro b (rfl | rfl | rfl) <;> exact hJ.keep _ (by omega))
                have hnx2 := hJ.next
                obtain ⟨sl, hsl⟩ := stepAll_sub (T := T) (t.l.take q) ord
                have est : stepAll T ord (t.l.take (q + 1)) = stepO T (stepAll T ord (t.l.take q)) w := by
                  rw [List.take_add_one, hw, stepAll_append]; rfl
                have hpre : ∃ l, bfs T roots = stepO T (stepAll T ord (t.l.take q)) w ++ l := by
                  obtain ⟨l', hl'⟩ := stepAll_sub (T := T) (t.l.drop (q + 1)) (stepAll T ord (t.l.take (q + 1)))
                  rw [← stepAll_append, List.take_append_drop, est] at hl'
                  exact ⟨l' ++ Fl2, by rw [hFl2, hwi, hl', List.append_assoc]⟩
                have hordlt : ∀ x ∈ stepAll T ord (t.l.take q), x < T.length := stepAll_lt _ _ (fun x hx => reached_lt (hS.sound x hx))
                have hordnd : (stepAll T ord (t.l.take q)).Nodup := stepAll_nodup _ _ hS.nodup
                refine bringO H'' _ _ _ _ _ g gw gh size size T _ _ p q mv' hJ.lv hA3 ⟨by omega, by omega, by omega⟩ w hwlt hpre hordnd hordlt (.inl (by rw [hsl, List.length_append]; omega)) hA.room _ ?_
                intro H3 mv3 hlv3 hst
                rw [← est] at hlv3 hpre
                obtain ⟨s3, hs3⟩ := stepAll_sub (T := T) (t.l.take (q + 1)) ord
                have hgi : (stepAll T ord (t.l.take (q + 1)))[p]? = some i := by rw [hs3, List.getElem?_append_left hpo]; exact hi
                have hls3 := hlv3.s
                have hmg3 : ((madeO T (bfs T roots) (stepAll T ord (t.l.take (q + 1)))).map U)[p]? = some (U (wordAt (placeIn T (bfs T roots) i))) := by
                  rw [List.getElem?_map, madeO, List.getElem?_map, hgi]; rfl
                rcases hlv3.mades with ⟨md3, _⟩ | ⟨mb3, md3, hmv3, mbl3, mbg3⟩
                · rw [md3] at hmg3; simp at hmg3
                · subst hmv3
                  have hml3 : p < (madeO T (bfs T roots) (stepAll T ord (t.l.take (q + 1)))).length := by
                    have := (List.getElem?_eq_some_iff.1 hmg3).1
                    simpa using this
                  simp (disch := first | omega | (show allOne _ = true; simp [allOne, Value.oneCell']) | (simp only [List.length_cons, List.length_nil, List.length_set, List.length_map, List.length_replicate, List.length_append, List.length_take, List.length_drop, Int.toNat_natCast, Int.toNat_of_nonneg, nx_push, nx_set, nx_kill]; done) | (simp only [List.length_cons, List.length_nil, List.length_set, List.length_map, List.length_replicate, List.length_append, List.length_take, List.length_drop, Int.toNat_natCast, Int.toNat_of_nonneg, nx_push, nx_set, nx_kill]; omega)) only [go_sem, reduceCtorEq, Nat.reduceAdd, Nat.reduceSub, Nat.reduceMul, Nat.reduceLT, Nat.reduceLeDiff, Nat.reduceEqDiff, Nat.reduceBEq, Nat.reduceBNe, Int.reduceBEq, Int.reduceEq, Int.reduceLT, Int.reduceLE, Int.reduceAdd, Int.reduceSub, ↓reduceIte, Int.reduceToNat, Nat.reduceShiftRight, Nat.reduceAnd, hls3, ldc_cells, mbg3, ixa_ok, hmg3]
                  obtain ⟨pl, hpl3⟩ := hpre
                  have hnd3 : (stepAll T ord (t.l.take (q + 1))).Nodup := stepAll_nodup _ _ hS.nodup
                  have hpe : placeIn T (bfs T roots) i = placeOf (midT T (bfs T roots) p q 0 (stepAll T ord (t.l.take (q + 1)))) p := by
                    rw [placeOf_midT]; exact placeIn_get hpl3 hnd3 hgi
                  have hmt := midT_get T (bfs T roots) p q _ 0 p i hgi
                  rw [Nat.zero_add] at hmt
                  have hmlen : (midThing T (bfs T roots) p q p i).l.length = t.l.length := by
                    unfold midThing; rw [hti]; simp; omega
                  have htrl : tr T (bfs T roots) w < 18446744073709551616 := by
                    refine tr_lt (bfs_nodup T roots) (fun x hx => reached_lt ((bfs_mem T roots x).1 hx)) (by omega) hwlt (fun j hj => ?_)
                    rw [bfs_mem]
                    exact .next i w j (hS.sound i (List.mem_of_getElem? hi)) (by rw [hwi]; exact List.mem_of_getElem? hw) hj
                  rw [hpe]
                  refine arena_Set1 H3 g' gw' gh' size _ hlv3.to p q _ _ hmt (by omega) htrl _ ?_
                  have hset := hlv3.to.set hmt (i := q) (by omega) htrl
                  rw [midT_set T (bfs T roots) p q hti hw _ 0 p hgi (by omega)] at hset
                  obtain ⟨m1, m2, m3, m4, m5⟩ := hlv3.lt
                  obtain ⟨d1, d2, d3, d4⟩ := hlv3.d1
                  obtain ⟨e1, e2, e3⟩ := hlv3.d2
                  have hn1 := hlv3.to.ne1
                  have hn2 := hlv3.to.ne2
                  have hn3 := hlv3.to.ne3
                  have hst1 := hst.next
                  have hmvn := hlv3.mvn
                  have hmlt3 := hlv3.mades.lt
                  have hlive : LiveI H (H3.set gw' (.cells ((wcells size (midT T (bfs T roots) p q 0 (stepAll T ord (t.l.take (q + 1))))).set (placeOf (midT T (bfs T roots) p q 0 (stepAll T ord (t.l.take (q + 1)))) p + 1 + q) (U (tr T (bfs T roots) w))) true)) (H1.next + 1) g' gw' gh' H1.next g size T (bfs T roots) (stepAll T ord (t.l.take (q + 1))) p (q + 1) (.slice (some ⟨mb3, 0, some 2⟩) (madeO T (bfs T roots) (stepAll T ord (t.l.take (q + 1)))).length (madeO T (bfs T roots) (stepAll T ord (t.l.take (q + 1)))).length) ov (roots.map (tr T (bfs T roots))) := by
                    refine ⟨⟨?_, hset, ?_, hlv3.mades.frame (by simp (disch := first | omega | (simp only [nx_push, nx_set, nx_kill]; done) | (simp only [nx_push, nx_set, nx_kill]; omega)) only [get_push_ne, get_push_eq, get_set_ne, get_set_eq, get_kill_ne, nx_push, nx_set, nx_kill]; omega) ?_, ⟨d1, d2, d3, d4⟩, ⟨e1, e2, e3⟩, ?_, ?_, hlv3.mvn⟩, ?_, ?_, ?_, hJ.new, ?_, ?_⟩
                    · simp (disch := first | omega | (simp only [nx_push, nx_set, nx_kill]; done) | (simp only [nx_push, nx_set, nx_kill]; omega)) only [get_push_ne, get_push_eq, get_set_ne, get_set_eq, get_kill_ne, nx_push, nx_set, nx_kill]; exact hlv3.s
                    · simp (disch := first | omega | (simp only [nx_push, nx_set, nx_kill]; done) | (simp only [nx_push, nx_set, nx_kill]; omega)) only [get_push_ne, get_push_eq, get_set_ne, get_set_eq, get_kill_ne, nx_push, nx_set, nx_kill]; exact hlv3.map
                    · intro c hc
                      have := hmvn c hc
                      simp (disch := first | omega | (simp only [nx_push, nx_set, nx_kill]; done) | (simp only [nx_push, nx_set, nx_kill]; omega)) only [get_push_ne, get_push_eq, get_set_ne, get_set_eq, get_kill_ne, nx_push, nx_set, nx_kill]
                    · simp (disch := first | omega | (simp only [nx_push, nx_set, nx_kill]; done) | (simp only [nx_push, nx_set, nx_kill]; omega)) only [get_push_ne, get_push_eq, get_set_ne, get_set_eq, get_kill_ne, nx_push, nx_set, nx_kill]; exact ⟨m1, m2, m3, m4, m5⟩
                    · have := hlv3.mlen
                      rw [midT_length] at this ⊢; exact this
                    · refine (hJ.out.frame hst.next (fun c hc => ?_)).frame (by simp (disch := first | omega | (simp only [nx_push, nx_set, nx_kill]; done) | (simp only [nx_push, nx_set, nx_kill]; omega)) only [get_push_ne, get_push_eq, get_set_ne, get_set_eq, get_kill_ne, nx_push, nx_set, nx_kill]; omega) (fun c hc => ?_)
                      · obtain ⟨o1, o2, o3, o4, o5, o6, o7⟩ := hJ.onew c hc
                        exact hst.same c (hJ.out.lt c hc) o2 o3 o4 o5 o6 o7
                      · obtain ⟨o1, o2, o3, o4, o5, o6, o7⟩ := hJ.onew c hc
                        simp (disch := first | omega | (simp only [nx_push, nx_set, nx_kill]; done) | (simp only [nx_push, nx_set, nx_kill]; omega)) only [get_push_ne, get_push_eq, get_set_ne, get_set_eq, get_kill_ne, nx_push, nx_set, nx_kill]
                    · intro c hc
                      simp (disch := first | omega | (simp only [nx_push, nx_set, nx_kill]; done) | (simp only [nx_push, nx_set, nx_kill]; omega)) only [get_push_ne, get_push_eq, get_set_ne, get_set_eq, get_kill_ne, nx_push, nx_set, nx_kill]
                      rw [hst.same c (by omega) (by omega) (by omega) (by omega) (by omega) (by omega) (fun hm => by have := hJ.mnew c hm; omega)]
                      exact hJ.keep c hc
                    · simp (disch := first | omega | (simp only [nx_push, nx_set, nx_kill]; done) | (simp only [nx_push, nx_set, nx_kill]; omega)) only [get_push_ne, get_push_eq, get_set_ne, get_set_eq, get_kill_ne, nx_push, nx_set, nx_kill]; omega
                    · intro c hc
                      rcases hst.mine c hc with hh | hh
                      · exact hJ.mnew c hh
                      · omega
                    · intro c hc
                      obtain ⟨o1, o2, o3, o4, o5, o6, o7⟩ := hJ.onew c hc
                      refine ⟨o1, o2, o3, o4, o5, o6, fun hm => ?_⟩
                      rcases hst.mine c hm with hh | hh
                      · exact o7 hh
                      · have := hJ.out.lt c hc; omega
                  simp (disch := first | omega | (show allOne _ = true; simp [allOne, Value.oneCell']) | (simp only [List.length_cons, List.length_nil, List.length_set, List.length_map, List.length_replicate, List.length_append, List.length_take, List.length_drop, Int.toNat_natCast, Int.toNat_of_nonneg, nx_push, nx_set, nx_kill]; done) | (simp only [List.length_cons, List.length_nil, List.length_set, List.length_map, List.length_replicate, List.length_append, List.length_take, List.length_drop, Int.toNat_natCast, Int.toNat_of_nonneg, nx_push, nx_set, nx_kill]; omega)) only [go_sem, reduceCtorEq, Nat.reduceAdd, Nat.reduceSub, Nat.reduceMul, Nat.reduceLT, Nat.reduceLeDiff, Nat.reduceEqDiff, Nat.reduceBEq, Nat.reduceBNe, Int.reduceBEq, Int.reduceEq, Int.reduceLT, Int.reduceLE, Int.reduceAdd, Int.reduceSub, ↓reduceIte, Int.reduceToNat, Nat.reduceShiftRight, Nat.reduceAnd]
                  refine ⟨_, ?_, q + 1, _, _, rfl, by omega, rfl, hlive, ?_, ?_, ?_, hw2, fle_of (by simp [flook])⟩
                  · omega
                  · try simp (disch := first | omega | (simp only [nx_push, nx_set, nx_kill]; done) | (simp only [nx_push, nx_set, nx_kill]; omega)) only [get_push_ne, get_push_eq, get_set_ne, get_set_eq, get_kill_ne, nx_push, nx_set, nx_kill]
                    rw [hst.same _ hwn (by omega) (by omega) (by omega) (by omega) (by omega) hw1]; exact hwb
                  · (try simp (disch := first | omega | (simp only [nx_push, nx_set, nx_kill]; done) | (simp only [nx_push, nx_set, nx_kill]; omega)) only [get_push_ne, get_push_eq, get_set_ne, get_set_eq, get_kill_ne, nx_push, nx_set, nx_kill]); omega
                  · intro hm
                    rcases hst.mine _ hm with hh | hh
                    · exact hw1 hh
                    · omega
              · simp (disch := first | omega | (show allOne _ = true; simp [allOne, Value.oneCell']) | (simp only [List.length_cons, List.length_nil, List.length_set, List.length_map, List.length_replicate, List.length_append, List.length_take, List.length_drop, Int.toNat_natCast, Int.toNat_of_nonneg, nx_push, nx_set, nx_kill]; done) | (simp only [List.length_cons, List.length_nil, List.length_set, List.length_map, List.length_replicate, List.length_append, List.length_take, List.length_drop, Int.toNat_natCast, Int.toNat_of_nonneg, nx_push, nx_set, nx_kill]; omega)) only [go_sem, reduceCtorEq, Nat.reduceAdd, Nat.reduceSub, Nat.reduceMul, Nat.reduceLT, Nat.reduceLeDiff, Nat.reduceEqDiff, Nat.reduceBEq, Nat.reduceBNe, Int.reduceBEq, Int.reduceEq, Int.reduceLT, Int.reduceLE, Int.reduceAdd, Int.reduceSub, ↓reduceIte, Int.reduceToNat, Nat.reduceShiftRight, Nat.reduceAnd]
                have hq' : q = t.l.length := by omega
                subst hq'
                rw [List.take_of_length_le (by omega), show stepAll T ord t.l = stepAll T ord (wordsI T i) by rw [hwi]] at hJ
                obtain ⟨l, hl⟩ := stepAll_sub (T := T) (wordsI T i) ord
                refine ⟨_, ?_, p + 1, _, mv', rfl, ?_, hS.next hi, ?_, ⟨?_, hJ.out, hJ.keep, hJ.next, hJ.new, hJ.mnew, hJ.onew⟩, fle_of (by simp [flook])⟩
                · omega
                · rw [hl, List.length_append]; omega
                · rw [hFi]; congr 1; omega
                · have hlv := hJ.lv
                  have e : midT T (bfs T roots) p t.l.length 0 (stepAll T ord (wordsI T i)) = midT T (bfs T roots) (p + 1) 0 0 (stepAll T ord (wordsI T i)) := by
                    refine midT_turn _ _ _ _ _ _ (fun n j hn e => ?_)
                    have : n = p := by omega
                    subst this
                    rw [hl, List.getElem?_append_left hpo, hi] at hn
                    cases hn; rw [hwi]
                  show MvAt _ _ _ _ _ _ _ _ _ _ _ _
                  rw [← e]; exact hlv
          · simp (disch := first | omega | (show allOne _ = true; simp [allOne, Value.oneCell']) | (simp only [List.length_cons, List.length_nil, List.length_set, List.length_map, List.length_replicate, List.length_append, List.length_take, List.length_drop, Int.toNat_natCast, Int.toNat_of_nonneg, nx_push, nx_set, nx_kill]; done) | (simp only [List.length_cons, List.length_nil, List.length_set, List.length_map, List.length_replicate, List.length_append, List.length_take, List.length_drop, Int.toNat_natCast, Int.toNat_of_nonneg, nx_push, nx_set, nx_kill]; omega)) only [go_sem, reduceCtorEq, Nat.reduceAdd, Nat.reduceSub, Nat.reduceMul, Nat.reduceLT, Nat.reduceLeDiff, Nat.reduceEqDiff, Nat.reduceBEq, Nat.reduceBNe, Int.reduceBEq, Int.reduceEq, Int.reduceLT, Int.reduceLE, Int.reduceAdd, Int.reduceSub, ↓reduceIte, Int.reduceToNat, Nat.reduceShiftRight, Nat.reduceAnd, hls, ldc_cells]
            exact fin (by omega)
end Go.HL
/-
  Walks: rows that grow and shrink.
-/
namespace Go.HL
open Go.RowKit Go.Proofs
set_option maxHeartbeats 4000000
set_option maxRecDepth 100000
set_option linter.unusedSimpArgs false
set_option linter.unusedVariables false

theorem sumR_eq (T : Things) {a b : List Nat} (ha : a.Nodup) (hb : b.Nodup) (h : ∀ i, i ∈ a ↔ i ∈ b) : sumR T a = sumR T b := by
  have hp : a.Perm b := (List.perm_ext_iff_of_nodup ha hb).2 h
  unfold sumR; exact (hp.map (roomI T)).sum_nat

/-- A row of words to which more come, and of which some go, at its end. -/
def TodoAt (H : HHeap) (v : Value) (l : List Nat) : Prop :=
  (l = [] ∧ v = .slice none 0 0) ∨ (∃ b, l = [] ∧ v = .slice (some ⟨b, 0, none⟩) 0 0 ∧ b < H.next ∧ H.get b = some (.cells [] true)) ∨
    (∃ b cap cs, v = .slice (some ⟨b, 0, some 2⟩) l.length cap ∧ b < H.next ∧ H.get b = some (.cells cs true) ∧ cs.length = cap ∧ l.length ≤ cap ∧ 0 < cap ∧ cs.take l.length = l.map U)
theorem TodoAt.frame {H H' : HHeap} {v : Value} {l : List Nat} (h : TodoAt H v l) (hn : H.next ≤ H'.next) (f : ∀ b ∈ vblk v, H'.get b = H.get b) : TodoAt H' v l := by
  rcases h with h | ⟨b, h1, rfl, h3, h4⟩ | ⟨b, cap, cs, rfl, h2, h3, h4, h5, h6, h7⟩
  · exact .inl h
  · exact .inr (.inl ⟨b, h1, rfl, by omega, by rw [f b (by simp [vblk])]; exact h4⟩)
  · exact .inr (.inr ⟨b, cap, cs, rfl, by omega, by rw [f b (by simp [vblk])]; exact h3, h4, h5, h6, h7⟩)
theorem TodoAt.lt {H : HHeap} {v : Value} {l : List Nat} (h : TodoAt H v l) : ∀ b ∈ vblk v, b < H.next := by
  rcases h with ⟨_, rfl⟩ | ⟨b, h1, rfl, h3, h4⟩ | ⟨b, cap, cs, rfl, h2, h3, h4, h5, h6, h7⟩
  · simp [vblk]
  · intro c hc; simp [vblk] at hc; omega
  · intro c hc; simp [vblk] at hc; omega
theorem append_row (H : HHeap) (v : Value) (l ws : List Nat) (hv : TodoAt H v l) (hl : l.length + ws.length ≤ 1073741824) :
    ∃ v' H', apd H 1 8 v (ws.map U, ws.length) = some (v', H') ∧ TodoAt H' v' (l ++ ws) ∧ H.next ≤ H'.next ∧ (∀ b, b < H.next → b ∉ vblk v → H'.get b = H.get b) ∧ (∀ b ∈ vblk v', b ∈ vblk v ∨ H.next ≤ b) := by
  by_cases h0 : ws.length = 0
  · rw [List.length_eq_zero_iff] at h0; subst h0
    refine ⟨v, H, ?_, by simpa using hv, Nat.le_refl _, fun _ _ _ => rfl, fun _ h => .inl h⟩
    rcases hv with ⟨rfl, rfl⟩ | ⟨b, h1, rfl, h3, h4⟩ | ⟨b, cap, cs, rfl, h2, h3, h4, h5, h6, h7⟩ <;> exact apd_zero _ _ _ _ _ _
  · have fresh : ∀ (L : List Value), L = (l ++ ws).map U → ∀ H0 : HHeap, H0.next = H.next → TodoAt (H0.push (.cells L true)) (.slice (some ⟨H.next, 0, some 2⟩) (l.length + ws.length) (l.length + ws.length)) (l ++ ws) := by
      intro L hL H0 hn
      refine .inr (.inr ⟨H.next, l.length + ws.length, L, by simp, by simp (disch := first | omega | (simp only [nx_push, nx_set, nx_kill]; done) | (simp only [nx_push, nx_set, nx_kill]; omega)) only [get_push_ne, get_push_eq, get_set_ne, get_set_eq, get_kill_ne, nx_push, nx_set, nx_kill]; omega, by simp (disch := first | omega | (simp only [nx_push, nx_set, nx_kill]; done) | (simp only [nx_push, nx_set, nx_kill]; omega)) only [get_push_ne, get_push_eq, get_set_ne, get_set_eq, get_kill_ne, nx_push, nx_set, nx_kill], by simp [hL], by simp, by omega, ?_⟩)
      rw [hL, List.take_of_length_le (by simp)]
    rcases hv with ⟨rfl, rfl⟩ | ⟨b, rfl, rfl, h3, h4⟩ | ⟨b, cap, cs, rfl, h2, h3, h4, h5, h6, h7⟩
    · refine ⟨.slice (some ⟨H.next, 0, some 2⟩) ws.length ws.length, H.push (.cells (ws.map U) true), ?_, ?_, by simp (disch := first | omega | (simp only [nx_push, nx_set, nx_kill]; done) | (simp only [nx_push, nx_set, nx_kill]; omega)) only [get_push_ne, get_push_eq, get_set_ne, get_set_eq, get_kill_ne, nx_push, nx_set, nx_kill]; omega, fun b hb _ => by simp (disch := first | omega | (simp only [nx_push, nx_set, nx_kill]; done) | (simp only [nx_push, nx_set, nx_kill]; omega)) only [get_push_ne, get_push_eq, get_set_ne, get_set_eq, get_kill_ne, nx_push, nx_set, nx_kill], fun b hb => by simp [vblk] at hb; right; omega⟩
      · rw [apd_nil _ _ _ _ (by omega) (by simp at hl; omega) (by simp at hl; omega)]
      · have := fresh (ws.map U) (by simp) H rfl; simpa using this
    · refine ⟨.slice (some ⟨H.next, 0, some 2⟩) ws.length ws.length, H.push (.cells (ws.map U) true), ?_, ?_, by simp (disch := first | omega | (simp only [nx_push, nx_set, nx_kill]; done) | (simp only [nx_push, nx_set, nx_kill]; omega)) only [get_push_ne, get_push_eq, get_set_ne, get_set_eq, get_kill_ne, nx_push, nx_set, nx_kill]; omega, fun c hb _ => by simp (disch := first | omega | (simp only [nx_push, nx_set, nx_kill]; done) | (simp only [nx_push, nx_set, nx_kill]; omega)) only [get_push_ne, get_push_eq, get_set_ne, get_set_eq, get_kill_ne, nx_push, nx_set, nx_kill], fun c hb => by simp [vblk] at hb; right; omega⟩
      · rw [apd_some _ _ _ _ _ _ _ _ _ (by omega) (by simp at hl; omega) (by simp at hl; omega), h4]
        unfold apo; simp only
        rw [if_neg (by omega), if_pos (by simp)]
        simp
      · have := fresh (ws.map U) (by simp) H rfl; simpa using this
    · by_cases hc : l.length + ws.length ≤ cap
      · refine ⟨.slice (some ⟨b, 0, some 2⟩) (l.length + ws.length) cap, H.set b (.cells (splice cs l.length (ws.map U)) true), ?_, ?_, by simp (disch := first | omega | (simp only [nx_push, nx_set, nx_kill]; done) | (simp only [nx_push, nx_set, nx_kill]; omega)) only [get_push_ne, get_push_eq, get_set_ne, get_set_eq, get_kill_ne, nx_push, nx_set, nx_kill]; omega, fun c hb hn => ?_, fun c hb => .inl (by simpa [vblk] using hb)⟩
        · rw [apd_some _ _ _ _ _ _ _ _ _ (by omega) (by omega) (by omega), h3]
          unfold apo; simp only
          rw [if_pos hc, if_pos ⟨trivial, by omega, by simp⟩]
          simp
        · refine .inr (.inr ⟨b, cap, splice cs l.length (ws.map U), by simp, by simp (disch := first | omega | (simp only [nx_push, nx_set, nx_kill]; done) | (simp only [nx_push, nx_set, nx_kill]; omega)) only [get_push_ne, get_push_eq, get_set_ne, get_set_eq, get_kill_ne, nx_push, nx_set, nx_kill]; omega, by simp (disch := first | omega | (simp only [nx_push, nx_set, nx_kill]; done) | (simp only [nx_push, nx_set, nx_kill]; omega)) only [get_push_ne, get_push_eq, get_set_ne, get_set_eq, get_kill_ne, nx_push, nx_set, nx_kill], by rw [splice_length]; exact h4, by simpa using hc, h6, ?_⟩)
          have e : cs = cs.take l.length ++ (cs.drop l.length).take ws.length ++ (cs.drop l.length).drop ws.length := by
            rw [List.append_assoc, List.take_append_drop, List.take_append_drop]
          have hp : (cs.take l.length).length = l.length := by simp; omega
          have := splice_mid (ws.map U) ((cs.drop l.length).take ws.length) ((cs.drop l.length).drop ws.length) (by simp; omega) (cs.take l.length)
          rw [← e, hp] at this
          rw [this, h7, ← List.map_append, List.take_append_of_le_length (by simp), List.take_of_length_le (by simp)]
        · have : c ≠ b := fun e => hn (by simp [vblk, e])
          simp (disch := first | omega | (simp only [nx_push, nx_set, nx_kill]; done) | (simp only [nx_push, nx_set, nx_kill]; omega)) only [get_push_ne, get_push_eq, get_set_ne, get_set_eq, get_kill_ne, nx_push, nx_set, nx_kill]
      · refine ⟨.slice (some ⟨H.next, 0, some 2⟩) (l.length + ws.length) (l.length + ws.length), (H.kill b).push (.cells (l.map U ++ ws.map U) true), ?_, ?_, by simp (disch := first | omega | (simp only [nx_push, nx_set, nx_kill]; done) | (simp only [nx_push, nx_set, nx_kill]; omega)) only [get_push_ne, get_push_eq, get_set_ne, get_set_eq, get_kill_ne, nx_push, nx_set, nx_kill]; omega, fun c hb hn => ?_, fun c hb => by simp [vblk] at hb; right; omega⟩
        · rw [apd_some _ _ _ _ _ _ _ _ _ (by omega) (by omega) (by omega), h3]
          unfold apo; simp only
          rw [if_neg hc, if_pos (show 0 + l.length * 1 ≤ cs.length ∨ l.length = 0 by omega), if_pos (by simp)]
          simp [h7]
        · exact fresh _ (by simp) _ (by simp (disch := first | omega | (simp only [nx_push, nx_set, nx_kill]; done) | (simp only [nx_push, nx_set, nx_kill]; omega)) only [get_push_ne, get_push_eq, get_set_ne, get_set_eq, get_kill_ne, nx_push, nx_set, nx_kill])
        · have : c ≠ b := fun e => hn (by simp [vblk, e])
          simp (disch := first | omega | (simp only [nx_push, nx_set, nx_kill]; done) | (simp only [nx_push, nx_set, nx_kill]; omega)) only [get_push_ne, get_push_eq, get_set_ne, get_set_eq, get_kill_ne, nx_push, nx_set, nx_kill]
end Go.HL
/-
  Walks: how much is reached.
-/
namespace Go.HL
open Go.RowKit Go.Proofs
set_option maxHeartbeats 4000000
set_option maxRecDepth 100000
set_option linter.unusedSimpArgs false
set_option linter.unusedVariables false

def map1 (ks : List Nat) : List (Value × Value) := ks.map fun k => (U k, I 1)
theorem map1_find : ∀ (ks : List Nat) (w : Nat), (w ∈ ks → ∃ j, hfind (U w) (map1 ks) = some (j, I 1)) ∧ (w ∉ ks → hfind (U w) (map1 ks) = none)
  | [], w => ⟨by simp, fun _ => rfl⟩
  | k :: ks, w => by
    obtain ⟨h1, h2⟩ := map1_find ks w
    unfold map1 at h1 h2 ⊢
    rw [List.map_cons, hfind_cons]
    by_cases hk : w = k
    · subst hk
      exact ⟨fun _ => ⟨0, by simp⟩, fun h => absurd List.mem_cons_self h⟩
    · refine ⟨fun h => ?_, fun h => ?_⟩
      · obtain ⟨j, hj⟩ := h1 ((List.mem_cons.1 h).resolve_left hk)
        exact ⟨j + 1, by rw [if_neg hk, hj]; rfl⟩
      · rw [if_neg hk, h2 (fun hm => h (List.mem_cons_of_mem _ hm))]; rfl
theorem map1_plain (ks : List Nat) : (map1 ks).all (fun e => plainKey Try.prog 42 e.1) = true := by
  rw [List.all_eq_true]; intro e he
  obtain ⟨p, _, rfl⟩ := List.mem_map.1 he
  simp [plainKey, Try.underlying42]
theorem hz3 : hzero Try.prog 3 = some (I 0) := by kernel_rfl
theorem lk73_yes {H : HHeap} {b : Nat} {ks : List Nat} (hg : H.get b = some (.map (map1 ks))) {w : Nat} (h : w ∈ ks) : hlookup Try.prog H 73 (.map (some b)) (.int .u64 (w : Int)) false = some (.int .i64 1) := by
  obtain ⟨j, hj⟩ := (map1_find ks w).1 h
  unfold hlookup
  simp only [Try.underlying73, hentries, hg, Option.bind_some]
  rw [if_pos ⟨by simp [plainKey, Try.underlying42], map1_plain ks⟩, hj]; rfl
theorem lk73_no {H : HHeap} {b : Nat} {ks : List Nat} (hg : H.get b = some (.map (map1 ks))) {w : Nat} (h : w ∉ ks) : hlookup Try.prog H 73 (.map (some b)) (.int .u64 (w : Int)) false = some (.int .i64 0) := by
  unfold hlookup
  simp only [Try.underlying73, hentries, hg, Option.bind_some]
  rw [if_pos ⟨by simp [plainKey, Try.underlying42], map1_plain ks⟩, (map1_find ks w).2 h, hz3]; rfl
theorem mu73 {H : HHeap} {b : Nat} {ks : List Nat} (hg : H.get b = some (.map (map1 ks))) {w : Nat} (h : w ∉ ks) : hmapUpdate Try.prog H 73 (.map (some b)) (.int .u64 (w : Int)) (.int .i64 1) = some (H.set b (.map (map1 (ks ++ [w])))) := by
  unfold hmapUpdate
  simp only [Try.underlying73, hg]
  rw [if_pos ⟨by simp [plainKey, Try.underlying42], map1_plain ks⟩, (map1_find ks w).2 h]
  simp [map1]

/-- What holds at the head of a round. -/
structure ReachI (T : Things) (roots sn todo : List Nat) : Prop where
  nodup : sn.Nodup
  lt : ∀ i ∈ sn, i < T.length
  sound : ∀ i ∈ sn, Reached T roots i
  tsound : ∀ w ∈ todo, ∀ i, findI T w = some i → Reached T roots i
  root : ∀ w ∈ roots, ∀ i, findI T w = some i → i ∈ sn ∨ w ∈ todo
  clos : ∀ j ∈ sn, ∀ w ∈ wordsI T j, ∀ i, findI T w = some i → i ∈ sn ∨ w ∈ todo
theorem ReachI.start (T : Things) (roots : List Nat) : ReachI T roots [] roots :=
  ⟨List.nodup_nil, by simp, by simp, fun w hw i hi => .root w i hw hi, fun w hw i hi => .inr hw, by simp⟩
theorem ReachI.finish {T : Things} {roots sn : List Nat} (h : ReachI T roots sn []) : sumR T sn = sumR T (bfs T roots) := by
  refine sumR_eq T h.nodup (bfs_nodup T roots) (fun i => ?_)
  rw [bfs_mem]
  refine ⟨h.sound i, fun hr => ?_⟩
  induction hr with
  | root w i hw hi => rcases h.root w hw i hi with h1 | h1
                      · exact h1
                      · simp at h1
  | next j w i _ hw hi ih => rcases h.clos j ih w hw i hi with h1 | h1
                             · exact h1
                             · simp at h1
theorem ReachI.skip {T : Things} {roots sn todo : List Nat} {w : Nat} (h : ReachI T roots sn (todo ++ [w])) (hw : ∀ i, findI T w = some i → i ∈ sn) : ReachI T roots sn todo := by
  refine ⟨h.nodup, h.lt, h.sound, fun u hu => h.tsound u (by simp [hu]), fun u hu i hi => ?_, fun j hj u hu i hi => ?_⟩
  · rcases h.root u hu i hi with h1 | h1
    · exact .inl h1
    · rcases List.mem_append.1 h1 with h1 | h1
      · exact .inr h1
      · rw [List.mem_singleton.1 h1] at hi; exact .inl (hw i hi)
  · rcases h.clos j hj u hu i hi with h1 | h1
    · exact .inl h1
    · rcases List.mem_append.1 h1 with h1 | h1
      · exact .inr h1
      · rw [List.mem_singleton.1 h1] at hi; exact .inl (hw i hi)
theorem ReachI.more {T : Things} {roots sn todo : List Nat} {w i : Nat} (h : ReachI T roots sn (todo ++ [w])) (hw : findI T w = some i) (hi : i ∉ sn) : ReachI T roots (sn ++ [i]) (todo ++ wordsI T i) := by
  have hr : Reached T roots i := h.tsound w (by simp) i hw
  refine ⟨List.nodup_append.2 ⟨h.nodup, by simp, fun a ha b hb => by simp at hb; subst hb; exact fun e => hi (by rw [← e]; exact ha)⟩, fun x hx => ?_, fun x hx => ?_, fun u hu j hj => ?_, fun u hu j hj => ?_, fun k hk u hu j hj => ?_⟩
  · rcases List.mem_append.1 hx with hx | hx
    · exact h.lt x hx
    · rw [List.mem_singleton.1 hx]; exact findI_lt hw
  · rcases List.mem_append.1 hx with hx | hx
    · exact h.sound x hx
    · rw [List.mem_singleton.1 hx]; exact hr
  · rcases List.mem_append.1 hu with hu | hu
    · exact h.tsound u (by simp [hu]) j hj
    · exact .next i u j hr hu hj
  · rcases h.root u hu j hj with h1 | h1
    · exact .inl (by simp [h1])
    · rcases List.mem_append.1 h1 with h1 | h1
      · exact .inr (by simp [h1])
      · rw [List.mem_singleton.1 h1, hw] at hj; cases hj; exact .inl (by simp)
  · rcases List.mem_append.1 hk with hk | hk
    · rcases h.clos k hk u hu j hj with h1 | h1
      · exact .inl (by simp [h1])
      · rcases List.mem_append.1 h1 with h1 | h1
        · exact .inr (by simp [h1])
        · rw [List.mem_singleton.1 h1, hw] at hj; cases hj; exact .inl (by simp)
    · rw [List.mem_singleton.1 hk] at hu; exact .inr (by simp [hu])

theorem RowAt.source {H H' : HHeap} {s : Value} {l : List Nat} (h : RowAt H s (l.map U)) (f : ∀ b, b < H.next → H'.get b = H.get b) : hsource H' 1 s = some (l.map U, l.length) := by
  obtain ⟨a, c, rfl, h⟩ := h
  rcases h with ⟨h, hc⟩ | ⟨b, o, k, cs, rw', rfl, h2, h3, h4⟩
  · have : l = [] := by simpa using h
    subst this
    cases a with
    | none => rw [hc rfl]; rfl
    | some a => rfl
  · by_cases h0 : l.length = 0
    · have : l = [] := List.length_eq_zero_iff.1 h0
      subst this; rfl
    · have hle : o + (l.map U).length * 1 ≤ cs.length := by
        have := h4 (l.length - 1) (U (l.getD (l.length - 1) 0)) (by rw [List.getElem?_map, List.getElem?_eq_getElem (by omega)]; simp [List.getD, show l.length - 1 < l.length by omega])
        have := (List.getElem?_eq_some_iff.1 this).1
        simp; omega
      rw [hsource_slice, f b h2, h3, hsrc_cells _ _ _ _ _ (by simp; omega) hle]
      simp only [Option.some.injEq, Prod.mk.injEq]
      refine ⟨?_, by simp⟩
      apply List.ext_getElem?
      intro i
      rw [List.getElem?_take]
      split
      · rename_i hi
        rw [List.getElem?_drop]
        have hi' : i < (l.map U).length := by simpa using hi
        rw [List.getElem?_eq_getElem hi']
        exact h4 i _ (List.getElem?_eq_getElem hi')
      · rename_i hi
        exact (List.getElem?_eq_none (by simpa using hi)).symm

theorem slg_hi (b len cap : Nat) (i : Int) (h : 0 ≤ i) (h' : i ≤ cap) (hc : 0 < cap) : slg b 0 1 2 len cap none (some (.int .i64 i)) none = some (.slice (some ⟨b, 0, some 2⟩) i.toNat cap) := by
  unfold slg
  rw [if_neg (by simp), hbound_none, Option.bind_some, hbound_int _ _ _ _ h h', Option.bind_some, hbound_none, Option.bind_some]
  simp [show cap ≠ 0 by omega]
def keysO (T : Things) (sn : List Nat) : List Nat := sn.map fun i => wordAt (placeOf T i)
theorem keysO_mem {T : Things} {sn : List Nat} (hlt : ∀ i ∈ sn, i < T.length) (w : Nat) : w ∈ keysO T sn ↔ ∃ i ∈ sn, findI T w = some i := by
  unfold keysO
  rw [List.mem_map]
  constructor
  · rintro ⟨i, hi, rfl⟩; exact ⟨i, hi, word_findI (hlt i hi)⟩
  · rintro ⟨i, hi, h⟩; exact ⟨i, hi, (findI_word h).1.symm⟩

theorem move_Reach (H : HHeap) (g gw gh size : Nat) (T : Things) (hA : AtA H g gw gh size T) (hAlt : g < H.next ∧ gw < H.next ∧ gh < H.next) (s : Value) (roots : List Nat) (hs : RowAt H s (roots.map U)) (hrw : ∀ w ∈ roots, w < 18446744073709551616) (hrl : roots.length ≤ 1000000)
    (R : Value → HHeap → Prop)
    (hR : ∀ H', (∀ b, b < H.next → H'.get b = H.get b) → H.next ≤ H'.next → R (I (sumR T (bfs T roots))) H') : HCalls Try.prog 16 [ptr g 0, s] H R := by
  have hbig := hA.big
  have hroom := hA.room
  have hTl := length_le_used T
  obtain ⟨a1, a2, a3⟩ := hAlt
  have hsr := hs.source (H' := H.push (.map [])) (fun b hb => by simp (disch := first | omega | (simp only [nx_push, nx_set, nx_kill]; done) | (simp only [nx_push, nx_set, nx_kill]; omega)) only [get_push_ne, get_push_eq, get_set_ne, get_set_eq, get_kill_ne, nx_push, nx_set, nx_kill])
  obtain ⟨v0, H0, q1, q2, q3, q4, q5⟩ := append_row (H.push (.map [])) (.slice none 0 0) [] roots (.inl ⟨rfl, rfl⟩) (by simp; omega)
  obtain ⟨sa, sc, rfl, hsv⟩ := hs
  refine HCalls.of_hw Try.func16 rfl _ Try.ntmps16 _ (by rw [Try.results16]) ?_
  rw [hframe0_eq _ _ (by simp)]
  simp only [List.zipIdx_cons, List.zipIdx_nil, List.map_cons, List.map_nil, Nat.reduceAdd]
  simp (disch := first | omega | (show allOne _ = true; simp [allOne, Value.oneCell']) | (simp only [List.length_cons, List.length_nil, List.length_set, List.length_map, List.length_replicate, List.length_append, List.length_take, List.length_drop, Int.toNat_natCast, Int.toNat_of_nonneg, nx_push, nx_set, nx_kill]; done) | (simp only [List.length_cons, List.length_nil, List.length_set, List.length_map, List.length_replicate, List.length_append, List.length_take, List.length_drop, Int.toNat_natCast, Int.toNat_of_nonneg, nx_push, nx_set, nx_kill]; omega)) only [go_sem, reduceCtorEq, Nat.reduceAdd, Nat.reduceSub, Nat.reduceMul, Nat.reduceLT, Nat.reduceLeDiff, Nat.reduceEqDiff, Nat.reduceBEq, Nat.reduceBNe, Int.reduceBEq, Int.reduceEq, Int.reduceLT, Int.reduceLE, Int.reduceAdd, Int.reduceSub, ↓reduceIte, Int.reduceToNat, Nat.reduceShiftRight, Nat.reduceAnd, hsr, q1]
  have n1 : H.next + 1 ≤ H0.next := by simpa using q3
  refine Hwp.loop (fun n fr H' => ∃ sn todo v, n = (T.length - sn.length) * 256 + todo.length ∧ ReachI T roots sn todo ∧ TodoAt H' v todo ∧ H'.get H.next = some (.map (map1 (keysO T sn))) ∧ (∀ b, b < H.next → H'.get b = H.get b) ∧ H.next < H'.next ∧
     (∀ b ∈ vblk v, H.next < b) ∧ (∀ w ∈ todo, w < 18446744073709551616) ∧ todo.length ≤ roots.length + sumR T sn ∧ FLe (hfr 50 [(7, v), (6, I (sumR T sn)), (5, .map (some H.next)), (0, ptr g 0)]) fr) (T.length * 256 + roots.length) ?_ ?_
  · refine ⟨[], roots, v0, by simp, ReachI.start T roots, by simpa using q2, ?_, ?_, by omega, ?_, hrw, by simp [sumR], fle_of (by simp [flook, sumR])⟩
    · rw [q4 _ (by simp) (by simp [vblk])]; simp (disch := first | omega | (simp only [nx_push, nx_set, nx_kill]; done) | (simp only [nx_push, nx_set, nx_kill]; omega)) only [get_push_ne, get_push_eq, get_set_ne, get_set_eq, get_kill_ne, nx_push, nx_set, nx_kill]; rfl
    · intro b hb
      rw [q4 _ (by simp; omega) (by simp [vblk])]; simp (disch := first | omega | (simp only [nx_push, nx_set, nx_kill]; done) | (simp only [nx_push, nx_set, nx_kill]; omega)) only [get_push_ne, get_push_eq, get_set_ne, get_set_eq, get_kill_ne, nx_push, nx_set, nx_kill]
    · intro b hb
      rcases q5 b hb with hh | hh
      · simp [vblk] at hh
      · simp at hh; omega
  · rintro n fr H' ⟨sn, todo, v, rfl, hI, hT, hm, hk, hn, hvn, hw64, htl, hle⟩
    refine Hwp.weaken hle (HW.sound _ _ _ _ ?_)
    have hsu := sumR_le T sn hI.nodup hI.lt
    have hsl := nodup_le sn hI.nodup hI.lt
    have fin : todo = [] → R (I (sumR T sn)) H' := by
      rintro rfl
      rw [hI.finish]
      exact hR H' hk (by omega)
    rcases hT with ⟨rfl, rfl⟩ | ⟨b, rfl, rfl, hb1, hb2⟩ | ⟨b, cap, cs, rfl, hb1, hb2, hb3, hb4, hb5, hb6⟩
    · simp (disch := first | omega | (show allOne _ = true; simp [allOne, Value.oneCell']) | (simp only [List.length_cons, List.length_nil, List.length_set, List.length_map, List.length_replicate, List.length_append, List.length_take, List.length_drop, Int.toNat_natCast, Int.toNat_of_nonneg, nx_push, nx_set, nx_kill]; done) | (simp only [List.length_cons, List.length_nil, List.length_set, List.length_map, List.length_replicate, List.length_append, List.length_take, List.length_drop, Int.toNat_natCast, Int.toNat_of_nonneg, nx_push, nx_set, nx_kill]; omega)) only [go_sem, reduceCtorEq, Nat.reduceAdd, Nat.reduceSub, Nat.reduceMul, Nat.reduceLT, Nat.reduceLeDiff, Nat.reduceEqDiff, Nat.reduceBEq, Nat.reduceBNe, Int.reduceBEq, Int.reduceEq, Int.reduceLT, Int.reduceLE, Int.reduceAdd, Int.reduceSub, ↓reduceIte, Int.reduceToNat, Nat.reduceShiftRight, Nat.reduceAnd]
      exact fin rfl
    · simp (disch := first | omega | (show allOne _ = true; simp [allOne, Value.oneCell']) | (simp only [List.length_cons, List.length_nil, List.length_set, List.length_map, List.length_replicate, List.length_append, List.length_take, List.length_drop, Int.toNat_natCast, Int.toNat_of_nonneg, nx_push, nx_set, nx_kill]; done) | (simp only [List.length_cons, List.length_nil, List.length_set, List.length_map, List.length_replicate, List.length_append, List.length_take, List.length_drop, Int.toNat_natCast, Int.toNat_of_nonneg, nx_push, nx_set, nx_kill]; omega)) only [go_sem, reduceCtorEq, Nat.reduceAdd, Nat.reduceSub, Nat.reduceMul, Nat.reduceLT, Nat.reduceLeDiff, Nat.reduceEqDiff, Nat.reduceBEq, Nat.reduceBNe, Int.reduceBEq, Int.reduceEq, Int.reduceLT, Int.reduceLE, Int.reduceAdd, Int.reduceSub, ↓reduceIte, Int.reduceToNat, Nat.reduceShiftRight, Nat.reduceAnd]
      exact fin rfl
    · rcases List.eq_nil_or_concat todo with htd | ⟨td, w, htd⟩
      · subst htd
        simp (disch := first | omega | (show allOne _ = true; simp [allOne, Value.oneCell']) | (simp only [List.length_cons, List.length_nil, List.length_set, List.length_map, List.length_replicate, List.length_append, List.length_take, List.length_drop, Int.toNat_natCast, Int.toNat_of_nonneg, nx_push, nx_set, nx_kill]; done) | (simp only [List.length_cons, List.length_nil, List.length_set, List.length_map, List.length_replicate, List.length_append, List.length_take, List.length_drop, Int.toNat_natCast, Int.toNat_of_nonneg, nx_push, nx_set, nx_kill]; omega)) only [go_sem, reduceCtorEq, Nat.reduceAdd, Nat.reduceSub, Nat.reduceMul, Nat.reduceLT, Nat.reduceLeDiff, Nat.reduceEqDiff, Nat.reduceBEq, Nat.reduceBNe, Int.reduceBEq, Int.reduceEq, Int.reduceLT, Int.reduceLE, Int.reduceAdd, Int.reduceSub, ↓reduceIte, Int.reduceToNat, Nat.reduceShiftRight, Nat.reduceAnd, List.length_nil]
        exact fin rfl
      · rw [List.concat_eq_append] at htd
        subst htd
        have htn : (td ++ [w]).length = td.length + 1 := by simp
        have hlast : cs[td.length]? = some (U w) := by
          have : (cs.take (td ++ [w]).length)[td.length]? = some (U w) := by rw [hb6]; simp
          rw [List.getElem?_take, if_pos (by omega)] at this
          exact this
        have hww := hw64 w (by simp)
        have hcap64 : (td ++ [w]).length ≤ 2000000 := by omega
        have htd' : TodoAt H' (.slice (some ⟨b, 0, some 2⟩) td.length cap) td := by
          refine .inr (.inr ⟨b, cap, cs, rfl, hb1, hb2, hb3, by omega, hb5, ?_⟩)
          have : (cs.take (td ++ [w]).length).take td.length = ((td ++ [w]).map U).take td.length := by rw [hb6]
          rw [List.take_take, Nat.min_eq_left (by omega)] at this
          rw [this]; simp
        have hbn := hvn b (by simp [vblk])
        have hb7 : td.length + 1 ≤ cap := by omega
        have htl2 : td.length + 1 ≤ roots.length + sumR T sn := by omega
        rw [htn] at *
        have hd1 : ((td.length + 1 : Nat) : Int) - 1 = (td.length : Int) := by omega
        by_cases hseen : w ∈ keysO T sn
        · simp (disch := first | omega | (show allOne _ = true; simp [allOne, Value.oneCell']) | (simp only [List.length_cons, List.length_nil, List.length_set, List.length_map, List.length_replicate, List.length_append, List.length_take, List.length_drop, Int.toNat_natCast, Int.toNat_of_nonneg, nx_push, nx_set, nx_kill]; done) | (simp only [List.length_cons, List.length_nil, List.length_set, List.length_map, List.length_replicate, List.length_append, List.length_take, List.length_drop, Int.toNat_natCast, Int.toNat_of_nonneg, nx_push, nx_set, nx_kill]; omega)) only [go_sem, reduceCtorEq, Nat.reduceAdd, Nat.reduceSub, Nat.reduceMul, Nat.reduceLT, Nat.reduceLeDiff, Nat.reduceEqDiff, Nat.reduceBEq, Nat.reduceBNe, Int.reduceBEq, Int.reduceEq, Int.reduceLT, Int.reduceLE, Int.reduceAdd, Int.reduceSub, ↓reduceIte, Int.reduceToNat, Nat.reduceShiftRight, Nat.reduceAnd, ixa_ok, ldc_cells, hb2, hlast, slg_hi, hd1, lk73_yes hm hseen]
          obtain ⟨i, hi1, hi2⟩ := (keysO_mem hI.lt w).1 hseen
          refine ⟨_, ?_, sn, td, _, rfl, hI.skip (fun j hj => by rw [hi2] at hj; cases hj; exact hi1), htd', hm, hk, hn, by simpa [vblk] using hbn, fun u hu => hw64 u (by simp [hu]), by omega, fle_of (by simp [flook])⟩
          omega
        · have hA2 : AtA H' g gw gh size T := hA.frame (by rintro b (rfl | rfl | rfl) <;> exact hk _ (by omega))
          simp (disch := first | omega | (show allOne _ = true; simp [allOne, Value.oneCell']) | (simp only [List.length_cons, List.length_nil, List.length_set, List.length_map, List.length_replicate, List.length_append, List.length_take, List.length_drop, Int.toNat_natCast, Int.toNat_of_nonneg, nx_push, nx_set, nx_kill]; done) | (simp only [List.length_cons, List.length_nil, List.length_set, List.length_map, List.length_replicate, List.length_append, List.length_take, List.length_drop, Int.toNat_natCast, Int.toNat_of_nonneg, nx_push, nx_set, nx_kill]; omega)) only [go_sem, reduceCtorEq, Nat.reduceAdd, Nat.reduceSub, Nat.reduceMul, Nat.reduceLT, Nat.reduceLeDiff, Nat.reduceEqDiff, Nat.reduceBEq, Nat.reduceBNe, Int.reduceBEq, Int.reduceEq, Int.reduceLT, Int.reduceLE, Int.reduceAdd, Int.reduceSub, ↓reduceIte, Int.reduceToNat, Nat.reduceShiftRight, Nat.reduceAnd, ixa_ok, ldc_cells, hb2, hlast, slg_hi, hd1, lk73_no hm hseen]
          refine arena_Kind _ _ _ _ _ _ hA2 w hww _ ?_
          cases hf : findT T w with
          | none =>
            have hk0 : kindN T w = 0 := by unfold kindN; rw [hf]
            rw [hk0]
            simp (disch := first | omega | (show allOne _ = true; simp [allOne, Value.oneCell']) | (simp only [List.length_cons, List.length_nil, List.length_set, List.length_map, List.length_replicate, List.length_append, List.length_take, List.length_drop, Int.toNat_natCast, Int.toNat_of_nonneg, nx_push, nx_set, nx_kill]; done) | (simp only [List.length_cons, List.length_nil, List.length_set, List.length_map, List.length_replicate, List.length_append, List.length_take, List.length_drop, Int.toNat_natCast, Int.toNat_of_nonneg, nx_push, nx_set, nx_kill]; omega)) only [go_sem, reduceCtorEq, Nat.reduceAdd, Nat.reduceSub, Nat.reduceMul, Nat.reduceLT, Nat.reduceLeDiff, Nat.reduceEqDiff, Nat.reduceBEq, Nat.reduceBNe, Int.reduceBEq, Int.reduceEq, Int.reduceLT, Int.reduceLE, Int.reduceAdd, Int.reduceSub, ↓reduceIte, Int.reduceToNat, Nat.reduceShiftRight, Nat.reduceAnd]
            refine ⟨_, ?_, sn, td, _, rfl, hI.skip (fun j hj => by rw [findI_none hf] at hj; cases hj), htd', hm, hk, hn, by simpa [vblk] using hbn, fun u hu => hw64 u (by simp [hu]), by omega, fle_of (by simp [flook])⟩
            omega
          | some t =>
            obtain ⟨i, hi, hti⟩ := findI_some hf
            have hin : i ∉ sn := fun h => hseen ((keysO_mem hI.lt w).2 ⟨i, h, hi⟩)
            have hok := hA.ok t (List.mem_of_getElem? hti)
            have kl := hok.len
            have kk := hok.k1
            have hk1 : kindN T w = t.kind := by unfold kindN; rw [hf]
            have hl1 : lenN T w = t.l.length := by unfold lenN; rw [hf]
            have hws : wordsN T w = t.l := by unfold wordsN; rw [hf]
            have hwi : wordsI T i = t.l := by unfold wordsI; rw [hti]
            have hri : roomI T i = 1 + t.l.length := by unfold roomI; rw [hti]; rfl
            have hI2 := hI.more hi hin
            have hsu2 := sumR_le T _ hI2.nodup hI2.lt
            rw [sumR_append, sumR_one, hri] at hsu2
            have hsl2 := nodup_le _ hI2.nodup hI2.lt
            rw [List.length_append, List.length_singleton] at hsl2
            rw [hk1]
            simp (disch := first | omega | (show allOne _ = true; simp [allOne, Value.oneCell']) | (simp only [List.length_cons, List.length_nil, List.length_set, List.length_map, List.length_replicate, List.length_append, List.length_take, List.length_drop, Int.toNat_natCast, Int.toNat_of_nonneg, nx_push, nx_set, nx_kill]; done) | (simp only [List.length_cons, List.length_nil, List.length_set, List.length_map, List.length_replicate, List.length_append, List.length_take, List.length_drop, Int.toNat_natCast, Int.toNat_of_nonneg, nx_push, nx_set, nx_kill]; omega)) only [go_sem, reduceCtorEq, Nat.reduceAdd, Nat.reduceSub, Nat.reduceMul, Nat.reduceLT, Nat.reduceLeDiff, Nat.reduceEqDiff, Nat.reduceBEq, Nat.reduceBNe, Int.reduceBEq, Int.reduceEq, Int.reduceLT, Int.reduceLE, Int.reduceAdd, Int.reduceSub, ↓reduceIte, Int.reduceToNat, Nat.reduceShiftRight, Nat.reduceAnd, mu73 hm hseen]
            have hA3 : AtA (H'.set H.next (.map (map1 (keysO T sn ++ [w])))) g gw gh size T := hA2.frame (by rintro b (rfl | rfl | rfl) <;> simp (disch := first | omega | (simp only [nx_push, nx_set, nx_kill]; done) | (simp only [nx_push, nx_set, nx_kill]; omega)) only [get_push_ne, get_push_eq, get_set_ne, get_set_eq, get_kill_ne, nx_push, nx_set, nx_kill])
            refine arena_Len _ _ _ _ _ _ hA3 w hww _ ?_
            rw [hl1]
            simp (disch := first | omega | (show allOne _ = true; simp [allOne, Value.oneCell']) | (simp only [List.length_cons, List.length_nil, List.length_set, List.length_map, List.length_replicate, List.length_append, List.length_take, List.length_drop, Int.toNat_natCast, Int.toNat_of_nonneg, nx_push, nx_set, nx_kill]; done) | (simp only [List.length_cons, List.length_nil, List.length_set, List.length_map, List.length_replicate, List.length_append, List.length_take, List.length_drop, Int.toNat_natCast, Int.toNat_of_nonneg, nx_push, nx_set, nx_kill]; omega)) only [go_sem, reduceCtorEq, Nat.reduceAdd, Nat.reduceSub, Nat.reduceMul, Nat.reduceLT, Nat.reduceLeDiff, Nat.reduceEqDiff, Nat.reduceBEq, Nat.reduceBNe, Int.reduceBEq, Int.reduceEq, Int.reduceLT, Int.reduceLE, Int.reduceAdd, Int.reduceSub, ↓reduceIte, Int.reduceToNat, Nat.reduceShiftRight, Nat.reduceAnd]
            refine move_words _ _ _ _ _ _ hA3 ⟨by simp (disch := first | omega | (simp only [nx_push, nx_set, nx_kill]; done) | (simp only [nx_push, nx_set, nx_kill]; omega)) only [get_push_ne, get_push_eq, get_set_ne, get_set_eq, get_kill_ne, nx_push, nx_set, nx_kill]; omega, by simp (disch := first | omega | (simp only [nx_push, nx_set, nx_kill]; done) | (simp only [nx_push, nx_set, nx_kill]; omega)) only [get_push_ne, get_push_eq, get_set_ne, get_set_eq, get_kill_ne, nx_push, nx_set, nx_kill]; omega, by simp (disch := first | omega | (simp only [nx_push, nx_set, nx_kill]; done) | (simp only [nx_push, nx_set, nx_kill]; omega)) only [get_push_ne, get_push_eq, get_set_ne, get_set_eq, get_kill_ne, nx_push, nx_set, nx_kill]; omega⟩ w hww _ ?_
            rw [hl1, hws]
            have htd3 : TodoAt ((H'.set H.next (.map (map1 (keysO T sn ++ [w])))).push (.cells (t.l.map U) true)) (.slice (some ⟨b, 0, some 2⟩) td.length cap) td := by
              refine htd'.frame (by simp (disch := first | omega | (simp only [nx_push, nx_set, nx_kill]; done) | (simp only [nx_push, nx_set, nx_kill]; omega)) only [get_push_ne, get_push_eq, get_set_ne, get_set_eq, get_kill_ne, nx_push, nx_set, nx_kill]; omega) (fun c hc => ?_)
              have hcb : c = b := by simpa [vblk] using hc
              subst hcb
              simp (disch := first | omega | (simp only [nx_push, nx_set, nx_kill]; done) | (simp only [nx_push, nx_set, nx_kill]; omega)) only [get_push_ne, get_push_eq, get_set_ne, get_set_eq, get_kill_ne, nx_push, nx_set, nx_kill]
            obtain ⟨v3, H3, r1, r2, r3, r4, r5⟩ := append_row _ _ td t.l htd3 (by omega)
            have hsrc3 : hsource ((H'.set H.next (.map (map1 (keysO T sn ++ [w])))).push (.cells (t.l.map U) true)) 1 (.slice (some ⟨H'.next, 0, none⟩) t.l.length t.l.length) = some (t.l.map U, t.l.length) := by
              rw [hsource_slice]
              by_cases h0 : t.l.length = 0
              · rw [h0, hsrc_zero]; rw [List.length_eq_zero_iff.1 h0]; rfl
              · simp (disch := first | omega | (simp only [nx_push, nx_set, nx_kill]; done) | (simp only [nx_push, nx_set, nx_kill]; omega)) only [get_push_ne, get_push_eq, get_set_ne, get_set_eq, get_kill_ne, nx_push, nx_set, nx_kill]
                rw [hsrc_cells _ _ _ _ _ (by omega) (by simp), List.drop_zero, List.take_of_length_le (by simp)]
            simp (disch := first | omega | (show allOne _ = true; simp [allOne, Value.oneCell']) | (simp only [List.length_cons, List.length_nil, List.length_set, List.length_map, List.length_replicate, List.length_append, List.length_take, List.length_drop, Int.toNat_natCast, Int.toNat_of_nonneg, nx_push, nx_set, nx_kill]; done) | (simp only [List.length_cons, List.length_nil, List.length_set, List.length_map, List.length_replicate, List.length_append, List.length_take, List.length_drop, Int.toNat_natCast, Int.toNat_of_nonneg, nx_push, nx_set, nx_kill]; omega)) only [go_sem, reduceCtorEq, Nat.reduceAdd, Nat.reduceSub, Nat.reduceMul, Nat.reduceLT, Nat.reduceLeDiff, Nat.reduceEqDiff, Nat.reduceBEq, Nat.reduceBNe, Int.reduceBEq, Int.reduceEq, Int.reduceLT, Int.reduceLE, Int.reduceAdd, Int.reduceSub, ↓reduceIte, Int.reduceToNat, Nat.reduceShiftRight, Nat.reduceAnd, hsrc3, r1]
            have hkw : keysO T (sn ++ [i]) = keysO T sn ++ [w] := by
              unfold keysO; rw [List.map_append, List.map_cons, List.map_nil, ← (findI_word hi).1]
            have hsum : sumR T (sn ++ [i]) = sumR T sn + (1 + t.l.length) := by rw [sumR_append, sumR_one, hri]
            rw [nx_push, nx_set] at r3 r5
            have r4' : ∀ c, c < H'.next → c ≠ b → c ≠ H.next → H3.get c = H'.get c := by
              intro c h1 h2 h3
              rw [r4 c (by rw [nx_push, nx_set]; omega) (by simpa [vblk] using h2)]
              simp (disch := first | omega | (simp only [nx_push, nx_set, nx_kill]; done) | (simp only [nx_push, nx_set, nx_kill]; omega)) only [get_push_ne, get_push_eq, get_set_ne, get_set_eq, get_kill_ne, nx_push, nx_set, nx_kill]
            rw [hwi] at hI2
            refine ⟨_, ?_, sn ++ [i], td ++ t.l, v3, rfl, hI2, r2, ?_, ?_, by omega, ?_, ?_, ?_, fle_of ?_⟩
            · rw [List.length_append, List.length_singleton, List.length_append]; omega
            · rw [hkw, r4 _ (by rw [nx_push, nx_set]; omega) (by simp [vblk]; omega)]; simp (disch := first | omega | (simp only [nx_push, nx_set, nx_kill]; done) | (simp only [nx_push, nx_set, nx_kill]; omega)) only [get_push_ne, get_push_eq, get_set_ne, get_set_eq, get_kill_ne, nx_push, nx_set, nx_kill]
            · intro c hc
              rw [r4' c (by omega) (by omega) (by omega)]; exact hk c hc
            · intro c hc
              rcases r5 c hc with hh | hh
              · have : c = b := by simpa [vblk] using hh
                omega
              · omega
            · intro u hu
              rcases List.mem_append.1 hu with hu | hu
              · exact hw64 u (by simp [hu])
              · exact hok.words u hu
            · rw [List.length_append, hsum]; omega
            · rw [hsum]; simp [flook]
end Go.HL
/-
  Walks: the examples.
-/
namespace Go.HL
open Go.RowKit Go.Proofs
set_option maxHeartbeats 4000000
set_option maxRecDepth 100000
set_option linter.unusedSimpArgs false
set_option linter.unusedVariables false

/-- A thing is made, where there is room. -/
theorem arena_Alloc_ok (H : HHeap) (g gw gh size : Nat) (T : Things) (hA : AtA H g gw gh size T) (t : Thing) (ht : t.Ok) (a : Option Addr) (c : Nat) (hroom : usedOf T + t.room ≤ size)
    (hsrc : ∀ H' : HHeap, (∀ b, b ≠ g → b ≠ gw → b ≠ gh → H'.get b = H.get b) → hsource H' 1 (.slice a t.l.length c) = some (t.l.map U, t.l.length)) (R : Value → HHeap → Prop)
    (hR : ∀ H', AtA H' g gw gh size (T ++ [t]) → (∀ b, b ≠ g → b ≠ gw → b ≠ gh → H'.get b = H.get b) → H'.next = H.next → R (.tuple #[U (wordAt (usedOf T)), I 0]) H') : HCalls Try.prog 25 [ptr g 0, I t.kind, .slice a t.l.length c] H R := by
  have n1 := hA.ne1
  have n2 := hA.ne2
  have n3 := hA.ne3
  have k1 := ht.k1
  have k9 := ht.k9
  have kl := ht.len
  unfold Thing.room at hroom
  refine arena_Alloc _ _ _ _ _ _ hA _ _ t.l t.l.length rfl ht.words a c rfl hsrc _ ?_ ?_ ?_
  · intro _ _ _
    have et : (⟨(t.kind : Int).toNat, t.l⟩ : Thing) = t := by cases t; rfl
    rw [et]
    refine hR _ ⟨by unfold putT; simp (disch := first | omega | (simp only [nx_push, nx_set, nx_kill]; done) | (simp only [nx_push, nx_set, nx_kill]; omega)) only [get_push_ne, get_push_eq, get_set_ne, get_set_eq, get_kill_ne, nx_push, nx_set, nx_kill], by unfold putT; simp (disch := first | omega | (simp only [nx_push, nx_set, nx_kill]; done) | (simp only [nx_push, nx_set, nx_kill]; omega)) only [get_push_ne, get_push_eq, get_set_ne, get_set_eq, get_kill_ne, nx_push, nx_set, nx_kill], by unfold putT; simp (disch := first | omega | (simp only [nx_push, nx_set, nx_kill]; done) | (simp only [nx_push, nx_set, nx_kill]; omega)) only [get_push_ne, get_push_eq, get_set_ne, get_set_eq, get_kill_ne, nx_push, nx_set, nx_kill], ?_, hA.big, hA.pos, ?_, n1, n2, n3⟩ ?_ ?_
    · rw [usedOf_append]; simp [usedOf, Thing.room]; omega
    · intro u hu
      rcases List.mem_append.1 hu with hu | hu
      · exact hA.ok u hu
      · rw [List.mem_singleton.1 hu]; exact ht
    · intro b b1 b2 b3; unfold putT; simp (disch := first | omega | (simp only [nx_push, nx_set, nx_kill]; done) | (simp only [nx_push, nx_set, nx_kill]; omega)) only [get_push_ne, get_push_eq, get_set_ne, get_set_eq, get_kill_ne, nx_push, nx_set, nx_kill]
    · unfold putT; simp (disch := first | omega | (simp only [nx_push, nx_set, nx_kill]; done) | (simp only [nx_push, nx_set, nx_kill]; omega)) only [get_push_ne, get_push_eq, get_set_ne, get_set_eq, get_kill_ne, nx_push, nx_set, nx_kill]
  · intro _ _ hh; omega
  · intro hh; exact absurd ⟨⟨by omega, by omega⟩, kl⟩ hh
theorem RowAt.one {H : HHeap} {b w : Nat} (hb : b < H.next) (hg : H.get b = some (.cells [U w] true)) : RowAt H (.slice (some ⟨b, 0, none⟩) 1 1) ([w].map U) :=
  ⟨some ⟨b, 0, none⟩, 1, rfl, .inr ⟨b, 0, none, [U w], true, rfl, hb, hg, fun i v h => by simpa using h⟩⟩

theorem law_shown (H : HHeap) (R : Value → HHeap → Prop) (hR : ∀ H', (∀ b, b < H.next → H'.get b = H.get b) → H.next ≤ H'.next → R (.bool true) H') : HCalls Try.prog 10 [] H R := by
  refine HCalls.of_hw Try.func10 rfl _ Try.ntmps10 _ (by rw [Try.results10]) ?_
  rw [hframe0_eq _ _ (by simp)]
  simp only [List.zipIdx_cons, List.zipIdx_nil, List.map_cons, List.map_nil, Nat.reduceAdd]
  simp (disch := first | omega | (show allOne _ = true; simp [allOne, Value.oneCell']) | (simp only [List.length_cons, List.length_nil, List.length_set, List.length_map, List.length_replicate, List.length_append, List.length_take, List.length_drop, Int.toNat_natCast, Int.toNat_of_nonneg, nx_push, nx_set, nx_kill]; done) | (simp only [List.length_cons, List.length_nil, List.length_set, List.length_map, List.length_replicate, List.length_append, List.length_take, List.length_drop, Int.toNat_natCast, Int.toNat_of_nonneg, nx_push, nx_set, nx_kill]; omega)) only [go_sem, reduceCtorEq, Nat.reduceAdd, Nat.reduceSub, Nat.reduceMul, Nat.reduceLT, Nat.reduceLeDiff, Nat.reduceEqDiff, Nat.reduceBEq, Nat.reduceBNe, Int.reduceBEq, Int.reduceEq, Int.reduceLT, Int.reduceLE, Int.reduceAdd, Int.reduceSub, ↓reduceIte, Int.reduceToNat, Nat.reduceShiftRight, Nat.reduceAnd]
  refine arena_New 9 (by omega) (by omega) _ _ ?_
  intro H1 g gw gh b1 b2 b3 b4 b5 b6 b7 hA1
  have n1 := hA1.ne1
  have n2 := hA1.ne2
  have n3 := hA1.ne3
  simp (disch := first | omega | (show allOne _ = true; simp [allOne, Value.oneCell']) | (simp only [List.length_cons, List.length_nil, List.length_set, List.length_map, List.length_replicate, List.length_append, List.length_take, List.length_drop, Int.toNat_natCast, Int.toNat_of_nonneg, nx_push, nx_set, nx_kill]; done) | (simp only [List.length_cons, List.length_nil, List.length_set, List.length_map, List.length_replicate, List.length_append, List.length_take, List.length_drop, Int.toNat_natCast, Int.toNat_of_nonneg, nx_push, nx_set, nx_kill]; omega)) only [go_sem, reduceCtorEq, Nat.reduceAdd, Nat.reduceSub, Nat.reduceMul, Nat.reduceLT, Nat.reduceLeDiff, Nat.reduceEqDiff, Nat.reduceBEq, Nat.reduceBNe, Int.reduceBEq, Int.reduceEq, Int.reduceLT, Int.reduceLE, Int.reduceAdd, Int.reduceSub, ↓reduceIte, Int.reduceToNat, Nat.reduceShiftRight, Nat.reduceAnd]
  have hA2 : AtA (H1.push (.cells [.int .u64 17] true)) g gw gh 9 [] := hA1.frame (by rintro b (rfl | rfl | rfl) <;> simp (disch := first | omega | (simp only [nx_push, nx_set, nx_kill]; done) | (simp only [nx_push, nx_set, nx_kill]; omega)) only [get_push_ne, get_push_eq, get_set_ne, get_set_eq, get_kill_ne, nx_push, nx_set, nx_kill])
  refine arena_Alloc_ok _ _ _ _ _ _ hA2 ⟨1, [17]⟩ ⟨by decide, by decide, by decide, by simp⟩ _ _ (by decide) ?_ _ ?_
  · intro H' hH'
    rw [hsource_slice, hH' _ (by omega) (by omega) (by omega)]
    simp (disch := first | omega | (simp only [nx_push, nx_set, nx_kill]; done) | (simp only [nx_push, nx_set, nx_kill]; omega)) only [get_push_ne, get_push_eq, get_set_ne, get_set_eq, get_kill_ne, nx_push, nx_set, nx_kill]
    rfl
  · intro H2 hA3 f2 n2'
    rw [nx_push] at n2'
    simp (disch := first | omega | (show allOne _ = true; simp [allOne, Value.oneCell']) | (simp only [List.length_cons, List.length_nil, List.length_set, List.length_map, List.length_replicate, List.length_append, List.length_take, List.length_drop, Int.toNat_natCast, Int.toNat_of_nonneg, nx_push, nx_set, nx_kill]; done) | (simp only [List.length_cons, List.length_nil, List.length_set, List.length_map, List.length_replicate, List.length_append, List.length_take, List.length_drop, Int.toNat_natCast, Int.toNat_of_nonneg, nx_push, nx_set, nx_kill]; omega)) only [go_sem, reduceCtorEq, Nat.reduceAdd, Nat.reduceSub, Nat.reduceMul, Nat.reduceLT, Nat.reduceLeDiff, Nat.reduceEqDiff, Nat.reduceBEq, Nat.reduceBNe, Int.reduceBEq, Int.reduceEq, Int.reduceLT, Int.reduceLE, Int.reduceAdd, Int.reduceSub, ↓reduceIte, Int.reduceToNat, Nat.reduceShiftRight, Nat.reduceAnd]
    have hA4 : AtA (H2.push (.cells [.int .u64 2] true)) g gw gh 9 [⟨1, [17]⟩] := hA3.frame (by rintro b (rfl | rfl | rfl) <;> simp (disch := first | omega | (simp only [nx_push, nx_set, nx_kill]; done) | (simp only [nx_push, nx_set, nx_kill]; omega)) only [get_push_ne, get_push_eq, get_set_ne, get_set_eq, get_kill_ne, nx_push, nx_set, nx_kill])
    refine arena_Alloc_ok _ _ _ _ _ _ hA4 ⟨1, [2]⟩ ⟨by decide, by decide, by decide, by simp⟩ _ _ (by decide) ?_ _ ?_
    · intro H' hH'
      rw [hsource_slice, hH' _ (by omega) (by omega) (by omega)]
      simp (disch := first | omega | (simp only [nx_push, nx_set, nx_kill]; done) | (simp only [nx_push, nx_set, nx_kill]; omega)) only [get_push_ne, get_push_eq, get_set_ne, get_set_eq, get_kill_ne, nx_push, nx_set, nx_kill]
      rfl
    · intro H3 hA5 f3 n3'
      rw [nx_push] at n3'
      have hA6 : AtA H3 g gw gh 9 [⟨1, [17]⟩, ⟨1, [2]⟩] := hA5
      clear hA5 hA4 hA3 hA2
      rw [show wordAt (usedOf [⟨1, [17]⟩]) = 17 from rfl]
      simp (disch := first | omega | (show allOne _ = true; simp [allOne, Value.oneCell']) | (simp only [List.length_cons, List.length_nil, List.length_set, List.length_map, List.length_replicate, List.length_append, List.length_take, List.length_drop, Int.toNat_natCast, Int.toNat_of_nonneg, nx_push, nx_set, nx_kill]; done) | (simp only [List.length_cons, List.length_nil, List.length_set, List.length_map, List.length_replicate, List.length_append, List.length_take, List.length_drop, Int.toNat_natCast, Int.toNat_of_nonneg, nx_push, nx_set, nx_kill]; omega)) only [go_sem, reduceCtorEq, Nat.reduceAdd, Nat.reduceSub, Nat.reduceMul, Nat.reduceLT, Nat.reduceLeDiff, Nat.reduceEqDiff, Nat.reduceBEq, Nat.reduceBNe, Int.reduceBEq, Int.reduceEq, Int.reduceLT, Int.reduceLE, Int.reduceAdd, Int.reduceSub, ↓reduceIte, Int.reduceToNat, Nat.reduceShiftRight, Nat.reduceAnd]
      have hA7 : AtA (H3.push (.cells [U 17] true)) g gw gh 9 [⟨1, [17]⟩, ⟨1, [2]⟩] := hA6.frame (by rintro b (rfl | rfl | rfl) <;> simp (disch := first | omega | (simp only [nx_push, nx_set, nx_kill]; done) | (simp only [nx_push, nx_set, nx_kill]; omega)) only [get_push_ne, get_push_eq, get_set_ne, get_set_eq, get_kill_ne, nx_push, nx_set, nx_kill])
      refine move_Live _ _ _ _ _ _ hA7 ⟨by simp (disch := first | omega | (simp only [nx_push, nx_set, nx_kill]; done) | (simp only [nx_push, nx_set, nx_kill]; omega)) only [get_push_ne, get_push_eq, get_set_ne, get_set_eq, get_kill_ne, nx_push, nx_set, nx_kill]; omega, by simp (disch := first | omega | (simp only [nx_push, nx_set, nx_kill]; done) | (simp only [nx_push, nx_set, nx_kill]; omega)) only [get_push_ne, get_push_eq, get_set_ne, get_set_eq, get_kill_ne, nx_push, nx_set, nx_kill]; omega, by simp (disch := first | omega | (simp only [nx_push, nx_set, nx_kill]; done) | (simp only [nx_push, nx_set, nx_kill]; omega)) only [get_push_ne, get_push_eq, get_set_ne, get_set_eq, get_kill_ne, nx_push, nx_set, nx_kill]; omega⟩ _ [17] (RowAt.one (by simp (disch := first | omega | (simp only [nx_push, nx_set, nx_kill]; done) | (simp only [nx_push, nx_set, nx_kill]; omega)) only [get_push_ne, get_push_eq, get_set_ne, get_set_eq, get_kill_ne, nx_push, nx_set, nx_kill]; omega) (by simp (disch := first | omega | (simp only [nx_push, nx_set, nx_kill]; done) | (simp only [nx_push, nx_set, nx_kill]; omega)) only [get_push_ne, get_push_eq, get_set_ne, get_set_eq, get_kill_ne, nx_push, nx_set, nx_kill])) (by simp) (by simp) _ ?_
      intro H4 g' gw' gh' v hB hV hk hn hnew hlt hvb
      rw [show bfs [⟨1, [17]⟩, ⟨1, [2]⟩] [17] = [1] by decide] at hB hV
      have hB' : AtA H4 g' gw' gh' 9 [⟨1, [2]⟩] := hB
      have hV' : MadeAt H4 v [1] := hV
      clear hB hV
      rw [nx_push] at hk hn hnew
      rcases hV' with ⟨hh, _⟩ | ⟨ob, _, hv, hob, hog⟩
      · simp at hh
      · subst hv
        simp (disch := first | omega | (show allOne _ = true; simp [allOne, Value.oneCell']) | (simp only [List.length_cons, List.length_nil, List.length_set, List.length_map, List.length_replicate, List.length_append, List.length_take, List.length_drop, Int.toNat_natCast, Int.toNat_of_nonneg, nx_push, nx_set, nx_kill]; done) | (simp only [List.length_cons, List.length_nil, List.length_set, List.length_map, List.length_replicate, List.length_append, List.length_take, List.length_drop, Int.toNat_natCast, Int.toNat_of_nonneg, nx_push, nx_set, nx_kill]; omega)) only [go_sem, reduceCtorEq, Nat.reduceAdd, Nat.reduceSub, Nat.reduceMul, Nat.reduceLT, Nat.reduceLeDiff, Nat.reduceEqDiff, Nat.reduceBEq, Nat.reduceBNe, Int.reduceBEq, Int.reduceEq, Int.reduceLT, Int.reduceLE, Int.reduceAdd, Int.reduceSub, ↓reduceIte, Int.reduceToNat, Nat.reduceShiftRight, Nat.reduceAnd, List.length_cons, List.length_nil, ixa_ok, ldc_cells, hog, List.map_cons, List.map_nil]
        refine arena_Get _ _ _ _ _ _ hB' 1 (by omega) 0 _ ?_
        rw [show getV [⟨1, [2]⟩] 1 0 = .tuple #[U 2, I 0] from rfl]
        simp (disch := first | omega | (show allOne _ = true; simp [allOne, Value.oneCell']) | (simp only [List.length_cons, List.length_nil, List.length_set, List.length_map, List.length_replicate, List.length_append, List.length_take, List.length_drop, Int.toNat_natCast, Int.toNat_of_nonneg, nx_push, nx_set, nx_kill]; done) | (simp only [List.length_cons, List.length_nil, List.length_set, List.length_map, List.length_replicate, List.length_append, List.length_take, List.length_drop, Int.toNat_natCast, Int.toNat_of_nonneg, nx_push, nx_set, nx_kill]; omega)) only [go_sem, reduceCtorEq, Nat.reduceAdd, Nat.reduceSub, Nat.reduceMul, Nat.reduceLT, Nat.reduceLeDiff, Nat.reduceEqDiff, Nat.reduceBEq, Nat.reduceBNe, Int.reduceBEq, Int.reduceEq, Int.reduceLT, Int.reduceLE, Int.reduceAdd, Int.reduceSub, ↓reduceIte, Int.reduceToNat, Nat.reduceShiftRight, Nat.reduceAnd, ixa_ok, ldc_cells, hog, List.map_cons, List.map_nil]
        refine arena_Used _ _ _ _ _ _ hB' _ ?_
        rw [show usedOf [⟨1, [2]⟩] = 2 from rfl]
        simp (disch := first | omega | (show allOne _ = true; simp [allOne, Value.oneCell']) | (simp only [List.length_cons, List.length_nil, List.length_set, List.length_map, List.length_replicate, List.length_append, List.length_take, List.length_drop, Int.toNat_natCast, Int.toNat_of_nonneg, nx_push, nx_set, nx_kill]; done) | (simp only [List.length_cons, List.length_nil, List.length_set, List.length_map, List.length_replicate, List.length_append, List.length_take, List.length_drop, Int.toNat_natCast, Int.toNat_of_nonneg, nx_push, nx_set, nx_kill]; omega)) only [go_sem, reduceCtorEq, Nat.reduceAdd, Nat.reduceSub, Nat.reduceMul, Nat.reduceLT, Nat.reduceLeDiff, Nat.reduceEqDiff, Nat.reduceBEq, Nat.reduceBNe, Int.reduceBEq, Int.reduceEq, Int.reduceLT, Int.reduceLE, Int.reduceAdd, Int.reduceSub, ↓reduceIte, Int.reduceToNat, Nat.reduceShiftRight, Nat.reduceAnd]
        have hA8 : AtA H4 g gw gh 9 [⟨1, [17]⟩, ⟨1, [2]⟩] := hA7.frame (by rintro b (rfl | rfl | rfl) <;> exact hk _ (by omega))
        refine arena_Used _ _ _ _ _ _ hA8 _ ?_
        rw [show usedOf [⟨1, [17]⟩, ⟨1, [2]⟩] = 4 from rfl]
        simp (disch := first | omega | (show allOne _ = true; simp [allOne, Value.oneCell']) | (simp only [List.length_cons, List.length_nil, List.length_set, List.length_map, List.length_replicate, List.length_append, List.length_take, List.length_drop, Int.toNat_natCast, Int.toNat_of_nonneg, nx_push, nx_set, nx_kill]; done) | (simp only [List.length_cons, List.length_nil, List.length_set, List.length_map, List.length_replicate, List.length_append, List.length_take, List.length_drop, Int.toNat_natCast, Int.toNat_of_nonneg, nx_push, nx_set, nx_kill]; omega)) only [go_sem, reduceCtorEq, Nat.reduceAdd, Nat.reduceSub, Nat.reduceMul, Nat.reduceLT, Nat.reduceLeDiff, Nat.reduceEqDiff, Nat.reduceBEq, Nat.reduceBNe, Int.reduceBEq, Int.reduceEq, Int.reduceLT, Int.reduceLE, Int.reduceAdd, Int.reduceSub, ↓reduceIte, Int.reduceToNat, Nat.reduceShiftRight, Nat.reduceAnd]
        have hA9 : AtA (H4.push (.cells [U 17] true)) g gw gh 9 [⟨1, [17]⟩, ⟨1, [2]⟩] := hA8.frame (by rintro b (rfl | rfl | rfl) <;> simp (disch := first | omega | (simp only [nx_push, nx_set, nx_kill]; done) | (simp only [nx_push, nx_set, nx_kill]; omega)) only [get_push_ne, get_push_eq, get_set_ne, get_set_eq, get_kill_ne, nx_push, nx_set, nx_kill])
        refine move_Reach _ _ _ _ _ _ hA9 ⟨by simp (disch := first | omega | (simp only [nx_push, nx_set, nx_kill]; done) | (simp only [nx_push, nx_set, nx_kill]; omega)) only [get_push_ne, get_push_eq, get_set_ne, get_set_eq, get_kill_ne, nx_push, nx_set, nx_kill]; omega, by simp (disch := first | omega | (simp only [nx_push, nx_set, nx_kill]; done) | (simp only [nx_push, nx_set, nx_kill]; omega)) only [get_push_ne, get_push_eq, get_set_ne, get_set_eq, get_kill_ne, nx_push, nx_set, nx_kill]; omega, by simp (disch := first | omega | (simp only [nx_push, nx_set, nx_kill]; done) | (simp only [nx_push, nx_set, nx_kill]; omega)) only [get_push_ne, get_push_eq, get_set_ne, get_set_eq, get_kill_ne, nx_push, nx_set, nx_kill]; omega⟩ _ [17] (RowAt.one (by simp (disch := first | omega | (simp only [nx_push, nx_set, nx_kill]; done) | (simp only [nx_push, nx_set, nx_kill]; omega)) only [get_push_ne, get_push_eq, get_set_ne, get_set_eq, get_kill_ne, nx_push, nx_set, nx_kill]; omega) (by simp (disch := first | omega | (simp only [nx_push, nx_set, nx_kill]; done) | (simp only [nx_push, nx_set, nx_kill]; omega)) only [get_push_ne, get_push_eq, get_set_ne, get_set_eq, get_kill_ne, nx_push, nx_set, nx_kill])) (by simp) (by simp) _ ?_
        intro H5 hk5 hn5
        rw [nx_push] at hk5 hn5
        rw [show sumR [⟨1, [17]⟩, ⟨1, [2]⟩] (bfs [⟨1, [17]⟩, ⟨1, [2]⟩] [17]) = 2 by decide]
        simp (disch := first | omega | (show allOne _ = true; simp [allOne, Value.oneCell']) | (simp only [List.length_cons, List.length_nil, List.length_set, List.length_map, List.length_replicate, List.length_append, List.length_take, List.length_drop, Int.toNat_natCast, Int.toNat_of_nonneg, nx_push, nx_set, nx_kill]; done) | (simp only [List.length_cons, List.length_nil, List.length_set, List.length_map, List.length_replicate, List.length_append, List.length_take, List.length_drop, Int.toNat_natCast, Int.toNat_of_nonneg, nx_push, nx_set, nx_kill]; omega)) only [go_sem, reduceCtorEq, Nat.reduceAdd, Nat.reduceSub, Nat.reduceMul, Nat.reduceLT, Nat.reduceLeDiff, Nat.reduceEqDiff, Nat.reduceBEq, Nat.reduceBNe, Int.reduceBEq, Int.reduceEq, Int.reduceLT, Int.reduceLE, Int.reduceAdd, Int.reduceSub, ↓reduceIte, Int.reduceToNat, Nat.reduceShiftRight, Nat.reduceAnd]
        refine hR H5 (fun b hb => ?_) (by omega)
        rw [hk5 b (by omega), get_push_ne _ _ (by omega), hk b (by omega), get_push_ne _ _ (by omega), f3 b (by omega) (by omega) (by omega), get_push_ne _ _ (by omega), f2 b (by omega) (by omega) (by omega), get_push_ne _ _ (by omega)]
        exact b7 b hb
end Go.HL
/-
  More numbers: masks, and shifts.
-/
namespace Go.HL
open Go.RowKit
set_option linter.unusedSimpArgs false

theorem ofInt_any (x : Int) : (BitVec.ofInt 64 x).toNat = (x % 18446744073709551616).toNat := by rw [BitVec.toNat_ofInt]; rfl
theorem hint_and_i (x : Int) (c : Nat) (hc : c < 18446744073709551616) : hint .and .i64 x (c : Int) = some (.int .i64 (IntKind.i64.wrap (((x % 18446744073709551616).toNat &&& c : Nat) : Int))) := by
  show some (Value.int .i64 (IntKind.i64.wrap ((BitVec.ofInt 64 x &&& BitVec.ofInt 64 (c : Int)).toNat : Int))) = _
  rw [BitVec.toNat_and, ofInt_any, ofInt_nat c hc]
theorem hint_and1023 (x : Int) : hint .and .i64 x 1023 = some (.int .i64 (x % 1024)) := by
  rw [show (1023 : Int) = ((1023 : Nat) : Int) from rfl, hint_and_i x 1023 (by omega), show (1023 : Nat) = 2 ^ 10 - 1 from rfl, Nat.and_two_pow_sub_one_eq_mod, wrap_i _ (by omega) (by omega)]
  congr 2; omega
theorem hint_and63 (x : Int) : hint .and .i64 x 63 = some (.int .i64 (x % 64)) := by
  rw [show (63 : Int) = ((63 : Nat) : Int) from rfl, hint_and_i x 63 (by omega), show (63 : Nat) = 2 ^ 6 - 1 from rfl, Nat.and_two_pow_sub_one_eq_mod, wrap_i _ (by omega) (by omega)]
  congr 2; omega
theorem hint_and15 (x : Int) : hint .and .i64 x 15 = some (.int .i64 (x % 16)) := by
  rw [show (15 : Int) = ((15 : Nat) : Int) from rfl, hint_and_i x 15 (by omega), show (15 : Nat) = 2 ^ 4 - 1 from rfl, Nat.and_two_pow_sub_one_eq_mod, wrap_i _ (by omega) (by omega)]
  congr 2; omega
theorem hint_and3 (x : Int) : hint .and .i64 x 3 = some (.int .i64 (x % 4)) := by
  rw [show (3 : Int) = ((3 : Nat) : Int) from rfl, hint_and_i x 3 (by omega), show (3 : Nat) = 2 ^ 2 - 1 from rfl, Nat.and_two_pow_sub_one_eq_mod, wrap_i _ (by omega) (by omega)]
  congr 2; omega
theorem hint_and1 (x : Int) : hint .and .i64 x 1 = some (.int .i64 (x % 2)) := by
  rw [show (1 : Int) = ((1 : Nat) : Int) from rfl, hint_and_i x 1 (by omega), show (1 : Nat) = 2 ^ 1 - 1 from rfl, Nat.and_two_pow_sub_one_eq_mod, wrap_i _ (by omega) (by omega)]
  congr 2; omega
theorem and_bit (m j : Nat) : m &&& 2 ^ j = m / 2 ^ j % 2 * 2 ^ j := by
  apply Nat.eq_of_testBit_eq
  intro i
  rw [Nat.testBit_and, Nat.testBit_two_pow, Nat.mul_comm, Nat.testBit_two_pow_mul]
  by_cases h : j = i
  · subst h
    simp [Nat.testBit_eq_decide_div_mod_eq]
  · simp only [h, decide_false, Bool.and_false]
    by_cases h2 : j ≤ i
    · have : 1 ≤ i - j := by omega
      rw [Nat.testBit_eq_decide_div_mod_eq]
      have h3 : m / 2 ^ j % 2 / 2 ^ (i - j) = 0 := Nat.div_eq_of_lt (Nat.lt_of_lt_of_le (Nat.mod_lt _ (by omega)) (by
        calc 2 = 2 ^ 1 := rfl
          _ ≤ 2 ^ (i - j) := Nat.pow_le_pow_right (by omega) this))
      simp [h3]
    · simp [h2]
theorem hint_and20 (x : Int) : hint .and .i64 x 1048576 = some (.int .i64 (x / 1048576 % 2 * 1048576)) := by
  rw [show (1048576 : Int) = ((1048576 : Nat) : Int) from rfl, hint_and_i x 1048576 (by omega), show (1048576 : Nat) = 2 ^ 20 from rfl, and_bit]
  have h2 : (2 : Nat) ^ 20 = 1048576 := rfl
  simp only [h2]
  rw [wrap_i _ (by omega) (by omega)]
  congr 2; omega
theorem hshr20i (x : Int) : hshift .shr .i64 x 20 = some (.int .i64 (x / 1048576)) := by
  unfold hshift; rw [if_neg (by omega)]; simp only [IntKind.bits, Option.some.injEq, Value.int.injEq, true_and]
  rw [show (2 : Int) ^ min (20 : Int).toNat 64 = 1048576 from rfl, Int.fdiv_eq_ediv_of_nonneg _ (by omega)]
theorem hmin2_fst (k k' : IntKind) (x y : Int) (h : x ≤ y) : hmin2 (.int k x) (.int k' y) = some (.int k x) := by unfold hmin2; simp only; rw [if_neg (by omega)]
theorem hmin2_snd (k k' : IntKind) (x y : Int) (h : y ≤ x) : hmin2 (.int k x) (.int k' y) = some (.int k y) := by
  unfold hmin2; simp only
  by_cases e : y < x
  · rw [if_pos e]
  · rw [if_neg e]; congr 2; omega
theorem hmax2_fst (k k' : IntKind) (x y : Int) (h : y ≤ x) : hmax2 (.int k x) (.int k' y) = some (.int k x) := by unfold hmax2; simp only; rw [if_neg (by omega)]
theorem hmax2_snd (k k' : IntKind) (x y : Int) (h : x ≤ y) : hmax2 (.int k x) (.int k' y) = some (.int k y) := by
  unfold hmax2; simp only
  by_cases e : y > x
  · rw [if_pos e]
  · rw [if_neg e]; congr 2; omega
attribute [go_sem] hmin2_fst hmin2_snd hmax2_fst hmax2_snd hint_and1023 hint_and63 hint_and15 hint_and3 hint_and1 hint_and20 hshr20i
end Go.HL
/-
  Rows that are sliced.
-/
namespace Go.HL
set_option linter.unusedSimpArgs false
set_option linter.unusedVariables false

/-- A row of one-cell values, that may be sliced. -/
def RowS (H : HHeap) (s : Value) (vs : List Value) : Prop :=
  ∃ a c, s = .slice a vs.length c ∧ vs.length ≤ c ∧ ((a = none ∧ c = 0) ∨ ∃ b o k, a = some ⟨b, o, k⟩ ∧ (k = none ∨ ∃ q, k = some q ∧ q / 2 = 1) ∧
    (vs = [] ∨ ∃ cs rw, H.get b = some (.cells cs rw) ∧ ∀ (i : Nat) v, vs[i]? = some v → cs[o + i]? = some v))

theorem RowS.row {H : HHeap} {s : Value} {vs : List Value} (h : RowS H s vs) (ok : H.Ok) : RowAt H s vs := by
  obtain ⟨a, c, h1, h2, h3⟩ := h
  refine ⟨a, c, h1, ?_⟩
  rcases h3 with ⟨h3, h4⟩ | ⟨b, o, k, h3, h4, h5⟩
  · left
    refine ⟨?_, fun _ => h4⟩
    cases vs with
    | nil => rfl
    | cons x l => simp at h2; omega
  · rcases h5 with h5 | ⟨cs, rw, h5, h6⟩
    · left; exact ⟨h5, fun e => by rw [h3] at e; cases e⟩
    · right; exact ⟨b, o, k, cs, rw, h3, ok _ _ h5, h5, h6⟩
theorem RowS.frame {H H' : HHeap} {s : Value} {vs : List Value} (h : RowS H s vs) (f : ∀ b, b ∈ sblk s → H'.get b = H.get b) : RowS H' s vs := by
  obtain ⟨a, c, rfl, h2, h3⟩ := h
  refine ⟨a, c, rfl, h2, ?_⟩
  rcases h3 with h3 | ⟨b, o, k, rfl, h4, h5⟩
  · exact .inl h3
  · rcases h5 with h5 | ⟨cs, rw, h5, h6⟩
    · exact .inr ⟨b, o, k, rfl, h4, .inl h5⟩
    · exact .inr ⟨b, o, k, rfl, h4, .inr ⟨cs, rw, by rw [f b (by simp [sblk])]; exact h5, h6⟩⟩
theorem RowS.old {H H' : HHeap} {s : Value} {vs : List Value} (h : RowS H s vs) (ok : H.Ok) (f : ∀ b, b < H.next → H'.get b = H.get b) : RowS H' s vs := by
  obtain ⟨a, c, rfl, h2, h3⟩ := h
  refine ⟨a, c, rfl, h2, ?_⟩
  rcases h3 with h3 | ⟨b, o, k, rfl, h4, h5⟩
  · exact .inl h3
  · rcases h5 with h5 | ⟨cs, rw, h5, h6⟩
    · exact .inr ⟨b, o, k, rfl, h4, .inl h5⟩
    · exact .inr ⟨b, o, k, rfl, h4, .inr ⟨cs, rw, by rw [f b (ok _ _ h5)]; exact h5, h6⟩⟩
theorem RowS.of_gr {H : HHeap} {v : Value} {n : Nat} {cs : List Value} (h : GrAt H v 1 n cs) : RowS H v cs := by
  obtain ⟨h0, ⟨rfl, rfl⟩ | ⟨b, h1, rfl, h3⟩⟩ := h
  · have : cs = [] := by simpa using h0
    subst this
    exact ⟨none, 0, rfl, Nat.le_refl _, .inl ⟨rfl, rfl⟩⟩
  · have : n = cs.length := by omega
    subst this
    exact ⟨_, cs.length, rfl, Nat.le_refl _, .inr ⟨b, 0, some 2, rfl, .inr ⟨2, rfl, rfl⟩, .inr ⟨cs, true, h3, fun i v h => by rwa [Nat.zero_add]⟩⟩⟩
theorem RowS.hi {P : Program} {H : HHeap} {s : Value} {vs : List Value} {t e : TypeId} (ht : P.underlying t = some (.slice e)) (hz : hsize P e = some 1) (h : RowS H s vs) {k : IntKind} {m : Nat} (hm : m ≤ vs.length) :
    ∃ s', hslice P t s none (some (.int k (m : Int))) none = some s' ∧ RowS H s' (vs.take m) ∧ ∀ x ∈ sblk s', x ∈ sblk s := by
  obtain ⟨a, c, rfl, h2, h3⟩ := h
  have hl : (vs.take m).length = m := by simp; omega
  rcases h3 with ⟨rfl, rfl⟩ | ⟨b, o, q, rfl, hq, h5⟩
  · have : vs = [] := by cases vs with | nil => rfl | cons x l => simp at h2
    subst this
    have : m = 0 := by simpa using hm
    subst this
    refine ⟨.slice none 0 0, ?_, ⟨none, 0, rfl, by simp, .inl ⟨rfl, rfl⟩⟩, fun x hx => hx⟩
    simp only [List.length_nil]
    rw [x_sliceN ht hz]; unfold sln; simp [hbound]
  · have h5' : vs.take m = [] ∨ ∃ cs rw, H.get b = some (.cells cs rw) ∧ ∀ (i : Nat) v, (vs.take m)[i]? = some v → cs[o + i]? = some v := by
      rcases h5 with h5 | ⟨cs, rw, h5, h6⟩
      · left; rw [h5]; simp
      · right; refine ⟨cs, rw, h5, fun i v h => ?_⟩
        rw [List.getElem?_take] at h; split at h
        · exact h6 i v h
        · cases h
    rcases hq with rfl | ⟨q, rfl, hq⟩
    · refine ⟨.slice (some ⟨b, o, none⟩) m c, ?_, ⟨_, c, by rw [hl], by rw [hl]; omega, .inr ⟨b, o, none, rfl, .inl rfl, h5'⟩⟩, fun x hx => hx⟩
      rw [x_slice ht hz, slx_hi _ _ _ _ _ _ _ (by omega) (by omega)]; simp
    · rw [x_sliceG ht hz]
      unfold slg
      rw [if_neg (by simp), hbound_none, Option.bind_some, hbound_int _ _ _ _ (by omega) (by omega), Option.bind_some, hbound_none, Option.bind_some, if_neg (by omega), if_neg (by simp)]
      by_cases hc : c = 0
      · have hm0 : m = 0 := by omega
        subst hm0
        rw [if_pos hc]
        exact ⟨_, rfl, ⟨_, 0, rfl, by simp, .inr ⟨b, o, _, rfl, .inr ⟨_, rfl, by omega⟩, .inl (by simp)⟩⟩, fun x hx => by simpa [sblk] using hx⟩
      · rw [if_neg hc]
        refine ⟨_, rfl, ⟨_, c, by rw [hl]; rfl, by rw [hl]; omega, .inr ⟨b, _, _, rfl, .inr ⟨q, rfl, hq⟩, ?_⟩⟩, fun x hx => by simpa [sblk] using hx⟩
        simpa using h5'
theorem RowS.lo {P : Program} {H : HHeap} {s : Value} {vs : List Value} {t e : TypeId} (ht : P.underlying t = some (.slice e)) (hz : hsize P e = some 1) (h : RowS H s vs) {k : IntKind} {m : Nat} (hm : m ≤ vs.length) :
    ∃ s', hslice P t s (some (.int k (m : Int))) none none = some s' ∧ RowS H s' (vs.drop m) ∧ ∀ x ∈ sblk s', x ∈ sblk s := by
  obtain ⟨a, c, rfl, h2, h3⟩ := h
  have hl : (vs.drop m).length = vs.length - m := by simp
  rcases h3 with ⟨rfl, rfl⟩ | ⟨b, o, q, rfl, hq, h5⟩
  · have : vs = [] := by cases vs with | nil => rfl | cons x l => simp at h2
    subst this
    have : m = 0 := by simpa using hm
    subst this
    refine ⟨.slice none 0 0, ?_, ⟨none, 0, rfl, by simp, .inl ⟨rfl, rfl⟩⟩, fun x hx => hx⟩
    simp only [List.length_nil]
    rw [x_sliceN ht hz]; unfold sln; simp [hbound]
  · have h5' : vs.drop m = [] ∨ ∃ cs rw, H.get b = some (.cells cs rw) ∧ ∀ (i : Nat) v, (vs.drop m)[i]? = some v → cs[o + m + i]? = some v := by
      rcases h5 with h5 | ⟨cs, rw, h5, h6⟩
      · left; rw [h5]; simp
      · right; refine ⟨cs, rw, h5, fun i v h => ?_⟩
        rw [List.getElem?_drop] at h
        rw [Nat.add_assoc]; exact h6 _ v h
    rcases hq with rfl | ⟨q, rfl, hq⟩
    · rw [x_slice ht hz, slx_lo _ _ _ _ _ _ _ (by omega) (by omega)]
      simp only [Int.toNat_natCast, Nat.mul_one]
      refine ⟨_, rfl, ⟨_, c - m, by rw [hl], by rw [hl]; omega, ?_⟩, fun x hx => by simpa [sblk] using hx⟩
      by_cases hc : c = m
      · rw [if_pos hc]
        exact .inr ⟨b, o, none, rfl, .inl rfl, .inl (by apply List.eq_nil_of_length_eq_zero; omega)⟩
      · rw [if_neg hc]
        exact .inr ⟨b, o + m, none, rfl, .inl rfl, h5'⟩
    · rw [x_sliceG ht hz]
      unfold slg
      rw [if_neg (by simp), hbound_none, Option.bind_some, hbound_none, Option.bind_some, hbound_int _ _ _ _ (by omega) (by omega), Option.bind_some, if_neg (by omega), if_neg (by simp)]
      simp only [Int.toNat_natCast, Nat.mul_one]
      by_cases hc : c = m
      · rw [if_pos hc]
        have h0 : (vs.drop m) = [] := by apply List.eq_nil_of_length_eq_zero; omega
        exact ⟨_, rfl, ⟨_, 0, by rw [h0]; rfl, by rw [h0]; simp, .inr ⟨b, o, _, rfl, .inr ⟨_, rfl, by omega⟩, .inl h0⟩⟩, fun x hx => by simpa [sblk] using hx⟩
      · rw [if_neg hc]
        exact ⟨_, rfl, ⟨_, c - m, by rw [hl], by rw [hl]; omega, .inr ⟨b, _, _, rfl, .inr ⟨q, rfl, hq⟩, h5'⟩⟩, fun x hx => by simpa [sblk] using hx⟩
/-- One of a row. -/
theorem RowAt.get {H : HHeap} {s : Value} {vs : List Value} (h : RowAt H s vs) {i : Nat} {v : Value} (hv : vs[i]? = some v) :
    ∃ b o k c cs rw, s = .slice (some ⟨b, o, k⟩) vs.length c ∧ H.get b = some (.cells cs rw) ∧ cs[o + i]? = some v := by
  obtain ⟨a, c, h1, h2 | ⟨b, o, k, cs, rw, h2, h3, h4, h5⟩⟩ := h
  · rw [h2.1] at hv; simp at hv
  · exact ⟨b, o, k, c, cs, rw, by rw [h1, h2], h4, h5 i v hv⟩
end Go.HL
