/-
  Joined: OB1, OB2, OB3, OB4.
-/
import Derived.Test.YtaghhialaplgoaaGreatDoorPFE5
import Derived.Test.YtaghhialaplgoaaGreatDoorRows
import Derived.ChangeReads
import Derived.ReadAgain
import Derived.ChangeBears
import Derived.ProofKit
import Derived.Below
import Derived.ChangeSame
import Derived.Deep.DeepHandedRow
import Derived.Lay
import Derived.Test.YtaghhialaplgoaaGreatDoorPFE2
import Derived.OpenShut
import Derived.Test.YtaghhialaplgoaaGreatDoorPFK15
set_option linter.unusedVariables false
set_option linter.unusedSimpArgs false
/-
  Opening: an argument that reads as data, as values over a heap of blocks that are only read.
-/
namespace Go.HL
open Go.RowKit Go.Proofs.YtaghhialaplgoaaGreatDoor
set_option linter.unusedVariables false
set_option linter.unusedSimpArgs false

/-- How much a datum holds. -/
abbrev bulk {H : Type} (d : DataW H) : Nat := Go.Proofs.YtaghhialaplgoaaGreatDoor.Rows.uptoBulk d
open Go.Proofs.YtaghhialaplgoaaGreatDoor in
theorem bulk_le {H : Type} {d : DataW H} {l : List (DataW H)} (h : d ∈ l) : bulk d ≤ Rows.uptoBulkAll l := by
  induction l with
  | nil => cases h
  | cons x r ih =>
    simp only [Rows.uptoBulkAll]
    cases List.mem_cons.1 h with
    | inl e => subst e; simp only [bulk]; omega
    | inr e => have := ih e; simp only [bulk] at this ⊢; omega
open Go.Proofs.YtaghhialaplgoaaGreatDoor in
theorem bulk_elem {H : Type} {d : DataW H} {l sp : List (DataW H)} (h : d ∈ l) : bulk d ≤ bulk (.slice l sp) := by
  have := bulk_le h
  simp only [bulk, Rows.uptoBulk] at this ⊢; omega
open Go.Proofs.YtaghhialaplgoaaGreatDoor in
theorem bulk_part {H : Type} {d : DataW H} {l : List (DataW H)} (h : d ∈ l) : bulk d ≤ bulk (.agg l) := by
  have := bulk_le h
  simp only [bulk, Rows.uptoBulk] at this ⊢; omega

/-- A type of numbers, bools, texts, slices and structs of these. -/
def plainT (P : Program) : Nat → TypeId → Bool
  | 0, _ => false
  | n + 1, t =>
    match P.underlying t with
    | some .bool | some (.int _) | some .string => true
    | some (.slice e) => plainT P n e && decide (0 < P.cellsOf e)
    | some (.struct fs) => fs.toList.all fun f => plainT P n f.type
    | _ => false

/-- What the cells of an argument are. -/
def HArg (P : Program) (L : Nat) (H : HHeap) : Nat → TypeId → List Value → Prop
  | 0, _, _ => False
  | n + 1, t, hs =>
    match P.underlying t with
    | some .bool => ∃ b, hs = [.bool b]
    | some (.int k) => ∃ z, hs = [.int k z] ∧ (Lit.int k z).wf = true
    | some .string => ∃ s, hs = [.string s] ∧ s.size ≤ L
    | some (.slice e) => ∃ a len cap cells, hs = [.slice a len cap] ∧ len ≤ cap ∧ cap ≤ maxLen ∧ cells.length = len * P.cellsOf e ∧
        ((a = none ∧ cap = 0) ∨ ∃ b, a = some ⟨b, 0, none⟩ ∧ (len ≠ 0 → H.get b = some (.cells cells false))) ∧
        ∀ i, i < len → HArg P L H n e ((cells.drop (i * P.cellsOf e)).take (P.cellsOf e))
    | some (.struct fs) => hs.length = P.cellsOf t ∧ ∀ f ∈ fs.toList, HArg P L H n f.type ((hs.drop f.offset).take (P.cellsOf f.type))
    | _ => False

theorem HArg.mono {P : Program} {L : Nat} {H H' : HHeap} (h : ∀ b o, H.get b = some o → H'.get b = some o) : ∀ (n : Nat) (t : TypeId) (hs : List Value), HArg P L H n t hs → HArg P L H' n t hs := by
  intro n
  induction n with
  | zero => intro t hs k; exact k
  | succ n ih =>
    intro t hs k
    unfold HArg at k ⊢
    split
    · rename_i e; rw [e] at k; exact k
    · rename_i e; rw [e] at k; exact k
    · rename_i e; rw [e] at k; exact k
    · rename_i e; rw [e] at k
      obtain ⟨a, len, cap, cells, h1, h2, h3, h4, h5, h6⟩ := k
      refine ⟨a, len, cap, cells, h1, h2, h3, h4, ?_, fun i hi => ih _ _ (h6 i hi)⟩
      rcases h5 with h5 | ⟨b, h5, h7⟩
      · exact .inl h5
      · exact .inr ⟨b, h5, fun hn => h _ _ (h7 hn)⟩
    · rename_i e; rw [e] at k
      exact ⟨k.1, fun f hf => ih _ _ (k.2 f hf)⟩
    · rename_i h1 h2 h3 h4 h5
      split at k
      · exact absurd ‹_› h1
      · exact absurd ‹_› (h2 _)
      · exact absurd ‹_› h3
      · exact absurd ‹_› (h4 _)
      · exact absurd ‹_› (h5 _)
      · exact k

/-- A heap of which more is known. -/
structure Grow (w : World) (μ : Mu) (H : HHeap) (μ' : Mu) (H' : HHeap) : Prop where
  sub : Sub μ μ'
  rel : Rel w.heap.size μ' H' w
  keep : ∀ b o, H.get b = some o → H'.get b = some o

theorem Grow.trans {w : World} {μ μ1 μ2 : Mu} {H H1 H2 : HHeap} (a : Grow w μ H μ1 H1) (b : Grow w μ1 H1 μ2 H2) : Grow w μ H μ2 H2 :=
  ⟨a.sub.trans b.sub, b.rel, fun x o h => b.keep x o (a.keep x o h)⟩

/-- A block that is only read. -/
theorem Rel.view {B : Nat} {μ : Mu} {H : HHeap} {w : World} (h : Rel B μ H w) (p : Place) (hs : List Value) (hp : p.g < B) (hl : hs.length ≤ p.ext)
    (hc : ∀ (i : Nat) (v : Value), hs[i]? = some v → v.oneCell' = true ∧ ∃ v', w.cell? ⟨p.g, p.d + i, none⟩ = some v' ∧ VRel μ v v') : Rel B (μ.add H.next p) (H.push (.cells hs false)) w := by
  have hsub : Sub μ (μ.add H.next p) := Mu.sub_add h.fresh
  have mu_old : ∀ x q, x ≠ H.next → (μ.add H.next p) x = some q → μ x = some q := fun x q hn hq => by simpa [Mu.add, hn] using hq
  have get_old : ∀ x y, x ≠ H.next → (H.push (.cells hs false)).get x = some y → H.get x = some y := fun x y hn e => by simpa [HHeap.get_push, hn] using e
  refine ⟨h.hB, ?_, ?_, ?_, ?_, ?_, h.tabs, ?_, ?_⟩
  · intro x q hx
    by_cases hxn : x = H.next
    · subst hxn; simp
    · have := h.bound x q (mu_old x q hxn hx); simp; omega
  · intro x q hx
    by_cases hxn : x = H.next
    · subst hxn; simp [Mu.add] at hx; subst hx; have := h.hB; omega
    · exact h.real x q (mu_old x q hxn hx)
  · intro x cs' rw' hg
    by_cases hxn : x = H.next
    · subst hxn
      simp [HHeap.get_push] at hg
      obtain ⟨rfl, rfl⟩ := hg
      refine ⟨p, by simp [Mu.add], hl, fun i v hi => ?_, by simp, fun _ => hp⟩
      obtain ⟨a1, v', a2, a3⟩ := hc i v hi
      exact ⟨a1, v', a2, a3.mono hsub⟩
    · have hg' := get_old _ _ hxn hg
      obtain ⟨q, hq, hl', hc', hw', hr'⟩ := h.cells x cs' rw' hg'
      exact ⟨q, hsub _ _ hq, hl', fun i v hi => let ⟨a1, v', a2, a3⟩ := hc' i v hi; ⟨a1, v', a2, a3.mono hsub⟩, hw', hr'⟩
  · intro x es hg
    have hxn : x ≠ H.next := by rintro rfl; simp [HHeap.get_push] at hg
    have hg' := get_old _ _ hxn hg
    obtain ⟨q, clock, es', hq, hB, hh, he⟩ := h.maps x es hg'
    exact ⟨q, clock, es', hsub _ _ hq, hB, hh, he.mono hsub⟩
  · intro x x' y y' q q' hne hg hg' hy hy' hq hq'
    have hxn : x ≠ H.next := by rintro rfl; simp [HHeap.get_push] at hg; subst hg; simp [HObj.wr] at hy
    have hxn' : x' ≠ H.next := by rintro rfl; simp [HHeap.get_push] at hg'; subst hg'; simp [HObj.wr] at hy'
    exact h.apart x x' _ _ q q' hne (get_old _ _ hxn hg) (get_old _ _ hxn' hg') hy hy' (mu_old _ _ hxn hq) (mu_old _ _ hxn' hq')
  · intro x s pos hg
    have hxn : x ≠ H.next := by rintro rfl; simp [HHeap.get_push] at hg
    obtain ⟨q, h1, h2⟩ := h.iters x s pos (get_old _ _ hxn hg)
    exact ⟨q, hsub _ _ h1, h2⟩
  · intro x e n b hg
    have hxn : x ≠ H.next := by rintro rfl; simp [HHeap.get_push] at hg
    obtain ⟨q, arr, fz, h1, h2, h3⟩ := h.tags x e n b (get_old _ _ hxn hg)
    exact ⟨q, arr, fz, hsub _ _ h1, hsub _ _ h2, h3⟩

/-- Pieces that lie one behind the other. -/
theorem chop {α β : Type} (sz off : β → Nat) (cs : List α) : ∀ (fs : List β) (k : Nat), (∀ j f, fs[j]? = some f → off f = k + ((fs.take j).map sz).sum) →
    (fs.map fun f => (cs.drop (off f)).take (sz f)).flatten = (cs.drop k).take ((fs.map sz).sum)
  | [], k, _ => by simp
  | f :: fs, k, h => by
    have h0 := h 0 f rfl
    simp at h0
    have ih := chop sz off cs fs (k + sz f) (fun j g hg => by
      have := h (j + 1) g (by simpa using hg)
      rw [List.take_succ_cons, List.map_cons, List.sum_cons] at this; omega)
    simp only [List.map_cons, List.flatten_cons, List.sum_cons, ih, h0]
    rw [List.take_add, List.drop_drop]

theorem unchop {α : Type} : ∀ (l : List (List α)) (j : Nat) (x : List α), l[j]? = some x → (l.flatten.drop ((l.take j).map List.length).sum).take x.length = x
  | [], j, x, h => by simp at h
  | y :: l, 0, x, h => by simp at h; subst h; simp
  | y :: l, j + 1, x, h => by
    have ih := unchop l j x (by simpa using h)
    simp only [List.flatten_cons, List.take_succ_cons, List.map_cons, List.sum_cons]
    rw [← List.drop_drop, List.drop_left]
    exact ih

theorem VRels.flatten {μ : Mu} : ∀ {a b : List (List Value)}, a.length = b.length → (∀ (i : Nat) (x y : List Value), a[i]? = some x → b[i]? = some y → VRels μ x y) → VRels μ a.flatten b.flatten
  | [], [], _, _ => .nil
  | [], _ :: _, h, _ => by simp at h
  | _ :: _, [], h, _ => by simp at h
  | x :: a, y :: b, h, k => by
    simp only [List.flatten_cons]
    exact (k 0 x y rfl rfl).append (VRels.flatten (by simpa using h) (fun i x y e e' => k (i + 1) x y (by simpa using e) (by simpa using e')))

/-- Opened: the cells of a value. -/
def Opens (P : Program) (L : Nat) (w : World) (n : Nat) (t : TypeId) (cs : List Value) : Prop :=
  ∀ μ H, Rel w.heap.size μ H w → ∃ μ' H' hs, Grow w μ H μ' H' ∧ VRels μ' hs cs ∧ HArg P L H' n t hs ∧ ∀ v ∈ hs, v.oneCell' = true

theorem opens_list {P : Program} {L : Nat} {w : World} {n : Nat} : ∀ (parts : List (TypeId × List Value)), (∀ p ∈ parts, Opens P L w n p.1 p.2) → ∀ μ H, Rel w.heap.size μ H w →
    ∃ (μ' : Mu) (H' : HHeap) (hp : List (List Value)), Grow w μ H μ' H' ∧ hp.length = parts.length ∧ ∀ (i : Nat) (p : TypeId × List Value) (x : List Value), parts[i]? = some p → hp[i]? = some x → VRels μ' x p.2 ∧ HArg P L H' n p.1 x ∧ ∀ v ∈ x, v.oneCell' = true
  | [], _, μ, H, h => ⟨μ, H, [], ⟨Sub.refl μ, h, fun _ _ e => e⟩, rfl, fun i p x e => by simp at e⟩
  | p :: parts, ho, μ, H, h => by
    obtain ⟨μ1, H1, hs, g1, v1, a1, o1⟩ := ho p (by simp) μ H h
    obtain ⟨μ2, H2, hp, g2, l2, k2⟩ := opens_list parts (fun q hq => ho q (by simp [hq])) μ1 H1 g1.rel
    refine ⟨μ2, H2, hs :: hp, g1.trans g2, by simp [l2], fun i q x e e' => ?_⟩
    cases i with
    | zero =>
      simp at e e'; subst e; subst e'
      exact ⟨VRels.mono g2.sub v1, HArg.mono g2.keep _ _ _ a1, o1⟩
    | succ i => exact k2 i q x (by simpa using e) (by simpa using e')

section
variable {Hd : Type} {enc : TypeId × Value → Hd} {P : Program} {w : World} {T : TypeId → Prop} {L : Nat}

theorem opens_trod (K : Kids P T) : ∀ (n m : Nat) (t : TypeId) (cs : List Value) (x : DataW Hd × List MemPlace), T t → plainT P m t = true →
    DataW.trod enc P w 0 (fun _ => true) true n t cs = some x → (L = maxLen ∨ bulk x.1 ≤ L) → Opens P L w n t cs := by
  intro n
  induction n with
  | zero => intro m t cs x _ _ h _; simp [DataW.trod] at h
  | succ n ih =>
    intro m t cs x hT hm h hbk μ H hR
    cases m with
    | zero => simp [plainT] at hm
    | succ m =>
    unfold plainT at hm
    split at hm
    · rename_i e
      obtain ⟨b, rfl, rfl⟩ := DataW.trod_bool e h
      exact ⟨μ, H, [.bool b], ⟨Sub.refl μ, hR, fun _ _ e => e⟩, .cons _ _ _ _ (.bool b) .nil, by unfold HArg; rw [e]; exact ⟨b, rfl⟩, by simp [Value.oneCell']⟩
    · rename_i k e
      obtain ⟨z, rfl, rfl, hw⟩ := DataW.trod_int e h
      exact ⟨μ, H, [.int k z], ⟨Sub.refl μ, hR, fun _ _ e => e⟩, .cons _ _ _ _ (.int k z) .nil, by unfold HArg; rw [e]; exact ⟨z, rfl, hw⟩, by simp [Value.oneCell']⟩
    · rename_i e
      obtain ⟨s, rfl, rfl, hw⟩ := DataW.trod_string e h
      exact ⟨μ, H, [.string s], ⟨Sub.refl μ, hR, fun _ _ e => e⟩, .cons _ _ _ _ (.string s) .nil, by unfold HArg; rw [e]; exact ⟨s, rfl, hbk.elim (fun h => h ▸ hw) fun h => by simpa [bulk, Rows.uptoBulk] using Nat.le_trans (Nat.le_succ _) h⟩, by simp [Value.oneCell']⟩
    · rename_i e ht
      simp only [Bool.and_eq_true, decide_eq_true_eq] at hm
      obtain ⟨hpe, hce⟩ := hm
      rcases DataW.trod_slice ht h with ⟨rfl, rfl⟩ | ⟨a, len, cap, elems, rest, n', hn', rfl, rfl, hb, hl, hmx, hlen, hel, hsp, _⟩
      · refine ⟨μ, H, [.slice none 0 0], ⟨Sub.refl μ, hR, fun _ _ e => e⟩, .cons _ _ _ _ .nilSlice .nil, ?_, by simp [Value.oneCell']⟩
        unfold HArg; rw [ht]
        exact ⟨none, 0, 0, [], rfl, Nat.le_refl _, Nat.zero_le _, by simp, .inl ⟨rfl, rfl⟩, fun i hi => by omega⟩
      · have hnn : n' = n := by omega
        subst hnn
        rcases Nat.eq_zero_or_pos cap with hc0 | hcp
        · subst hc0
          have hl0 : len = 0 := by omega
          subst hl0
          refine ⟨μ, H, [.slice (some ⟨0, 0, none⟩) 0 0], ⟨Sub.refl μ, hR, fun _ _ e => e⟩, .cons _ _ _ _ (.void _ _ _) .nil, ?_, by simp [Value.oneCell']⟩
          unfold HArg; rw [ht]
          exact ⟨_, 0, 0, [], rfl, Nat.le_refl _, Nat.zero_le _, by simp, .inr ⟨0, rfl, fun h => absurd rfl h⟩, fun i hi => by omega⟩
        · -- some cell is there
          have hfirst : ∃ cs0, w.cells? 0 a (P.cellsOf e) = some cs0 := by
            by_cases hl0 : 0 < len
            · have h1 := hel 0 hl0
              simp only [Nat.zero_mul] at h1
              have h2 : elems[0]? = some elems[0] := List.getElem?_eq_getElem (by omega)
              rw [h2, Option.bind_eq_some_iff] at h1
              obtain ⟨cs0, h3, _⟩ := h1
              exact ⟨cs0, by simpa [Addr.add] using h3⟩
            · obtain ⟨k1, k2⟩ := hsp rfl
              have h1 := k2 0 (by omega)
              rw [show (len + 0) * P.cellsOf e = 0 by rw [show len + 0 = 0 by omega, Nat.zero_mul]] at h1
              have h2 : rest[0]? = some rest[0] := List.getElem?_eq_getElem (by omega)
              rw [h2, Option.bind_eq_some_iff] at h1
              obtain ⟨cs0, h3, _⟩ := h1
              exact ⟨cs0, by simpa [Addr.add] using h3⟩
          obtain ⟨cs0, hcs0⟩ := hfirst
          obtain ⟨_, q2, q3⟩ := World.cells?_some hcs0
          have hcell0 : ∃ v, w.cell? a = some v := by
            have := q3 0 hce
            rw [List.getElem?_eq_getElem (by omega)] at this
            exact ⟨_, by simpa [Addr.add] using this⟩
          obtain ⟨v0, hv0⟩ := hcell0
          obtain ⟨hspot, hblk⟩ : a.spot = none ∧ a.block < w.heap.size := by
            unfold World.cell? at hv0
            split at hv0
            · rename_i c _ _ hh
              refine ⟨?_, ?_⟩
              · cases hs : a.spot with
                | none => rfl
                | some s => rw [hs] at hv0; simp at hv0
              · exact (Array.getElem?_eq_some_iff.1 hh).1
            · cases hv0
          obtain ⟨ab, ao, asp⟩ := a
          simp only at hspot hblk
          subst hspot
          have each : ∀ i, i < len → ∃ cs1 y, w.cells? 0 ((⟨ab, ao, none⟩ : Addr).add (i * P.cellsOf e)) (P.cellsOf e) = some cs1 ∧ DataW.trod enc P w 0 (fun _ => true) true n' e cs1 = some y ∧ (L = maxLen ∨ bulk y.1 ≤ L) := by
            intro i hi
            have h1 := hel i hi
            have h2 : elems[i]? = some elems[i] := List.getElem?_eq_getElem (by omega)
            rw [h2, Option.bind_eq_some_iff] at h1
            obtain ⟨cs1, h3, h4⟩ := h1
            exact ⟨cs1, _, h3, h4, hbk.imp id fun h => Nat.le_trans (bulk_elem (List.mem_map.2 ⟨_, List.mem_of_getElem? h2, rfl⟩)) h⟩
          let cellsAt : Nat → List Value := fun i => (w.cells? 0 ((⟨ab, ao, none⟩ : Addr).add (i * P.cellsOf e)) (P.cellsOf e)).getD []
          have hca : ∀ i, i < len → (cellsAt i).length = P.cellsOf e ∧ (∀ j, j < P.cellsOf e → w.cell? ⟨ab, ao + i * P.cellsOf e + j, none⟩ = (cellsAt i)[j]?) ∧ Opens P L w n' e (cellsAt i) := by
            intro i hi
            obtain ⟨cs1, y, h1, h2, hbi⟩ := each i hi
            have hc : cellsAt i = cs1 := by simp only [cellsAt, h1, Option.getD_some]
            obtain ⟨_, k2, k3⟩ := World.cells?_some h1
            rw [hc]
            refine ⟨k2, fun j hj => ?_, ih m e cs1 y (K.slice hT ht) hpe h2 hbi⟩
            rw [← k3 j hj]
            congr 1
            simp only [Addr.add]
            split <;> split <;> simp_all <;> omega
          obtain ⟨μ1, H1, hp, g1, l1, k1⟩ := opens_list ((List.range len).map fun i => (e, cellsAt i)) (by
            intro p hp
            obtain ⟨i, hi, rfl⟩ := List.mem_map.1 hp
            exact (hca i (by simpa using hi)).2.2) μ H hR
          simp only [List.length_map, List.length_range] at l1
          have piece : ∀ i x, hp[i]? = some x → i < len ∧ VRels μ1 x (cellsAt i) ∧ HArg P L H1 n' e x ∧ (∀ v ∈ x, v.oneCell' = true) ∧ x.length = P.cellsOf e := by
            intro i x hx
            have hi : i < len := by have := (List.getElem?_eq_some_iff.1 hx).1; omega
            obtain ⟨p1, p2, p3⟩ := k1 i (e, cellsAt i) x (by simp [hi]) hx
            exact ⟨hi, p1, p2, p3, by have := p1.length; rw [(hca i hi).1] at this; omega⟩
          have hsum : ∀ j, j ≤ hp.length → ((hp.take j).map List.length).sum = j * P.cellsOf e := by
            intro j
            induction j with
            | zero => intro _; simp
            | succ j ihj =>
              intro hj
              rw [List.take_add_one, List.getElem?_eq_getElem (by omega)]
              simp only [Option.toList_some, List.map_append, List.map_cons, List.map_nil, List.sum_append, List.sum_cons, List.sum_nil]
              rw [ihj (by omega), (piece j hp[j] (List.getElem?_eq_getElem (by omega))).2.2.2.2, Nat.add_mul]; omega
          have hflen : hp.flatten.length = len * P.cellsOf e := by
            rw [List.length_flatten]
            have := hsum hp.length (Nat.le_refl _)
            rw [List.take_of_length_le (Nat.le_refl _), l1] at this
            exact this
          have hget : ∀ i (hi : i < len), (hp.flatten.drop (i * P.cellsOf e)).take (P.cellsOf e) = hp[i]'(by omega) := by
            intro i hi
            have h1 : hp[i]? = some (hp[i]'(by omega)) := List.getElem?_eq_getElem (by omega)
            have := unchop hp i _ h1
            rw [hsum i (by omega), (piece i _ h1).2.2.2.2] at this
            exact this
          have hview := g1.rel.view ⟨ab, ao, len * P.cellsOf e⟩ hp.flatten hblk (by simp only [hflen]; exact Nat.le_refl _) (by
            intro q v hq
            have hql : q < len * P.cellsOf e := by have := (List.getElem?_eq_some_iff.1 hq).1; omega
            have hdm := Nat.div_add_mod q (P.cellsOf e)
            have hmod := Nat.mod_lt q hce
            have hdiv : q / P.cellsOf e < len := (Nat.div_lt_iff_lt_mul hce).2 hql
            have h1 : hp[q / P.cellsOf e]? = some (hp[q / P.cellsOf e]'(by omega)) := List.getElem?_eq_getElem (by omega)
            obtain ⟨_, p1, p2, p3, p4⟩ := piece _ _ h1
            have h2 : (hp[q / P.cellsOf e]'(by omega))[q % P.cellsOf e]? = some v := by
              rw [← hget _ hdiv, List.getElem?_take, if_pos hmod, List.getElem?_drop, Nat.mul_comm, hdm]
              exact hq
            obtain ⟨v', hv', hrel⟩ := p1.get _ v h2
            refine ⟨p3 v (List.mem_of_getElem? h2), v', ?_, hrel⟩
            have := (hca _ hdiv).2.1 _ hmod
            rw [hv'] at this
            rw [← this]
            congr 2
            rw [Nat.add_assoc, Nat.mul_comm (q / P.cellsOf e), hdm])
          have hsub2 : Sub μ1 (μ1.add H1.next ⟨ab, ao, len * P.cellsOf e⟩) := Mu.sub_add g1.rel.fresh
          have hkeep2 : ∀ b o, H1.get b = some o → (H1.push (.cells hp.flatten false)).get b = some o := by
            intro b o hbo
            have := g1.rel.ok b o hbo
            rw [HHeap.get_push, if_neg (by omega)]; exact hbo
          refine ⟨μ1.add H1.next ⟨ab, ao, len * P.cellsOf e⟩, H1.push (.cells hp.flatten false), [.slice (some ⟨H1.next, 0, none⟩) len cap], g1.trans ⟨hsub2, hview, hkeep2⟩, ?_, ?_, by simp [Value.oneCell']⟩
          · exact .cons _ _ _ _ (VRel.slice H1.next 0 len cap ⟨ab, ao, len * P.cellsOf e⟩ (by simp [Mu.add]) hl) .nil
          · unfold HArg; rw [ht]
            refine ⟨_, len, cap, hp.flatten, rfl, hl, hmx, hflen, .inr ⟨H1.next, rfl, fun _ => by simp [HHeap.get_push]⟩, fun i hi => ?_⟩
            rw [hget i hi]
            exact HArg.mono hkeep2 _ _ _ (piece i _ (List.getElem?_eq_getElem (by omega))).2.2.1
    · rename_i fs ht
      obtain ⟨xs, n', hn', rfl, hcl, hxl, hfs⟩ := DataW.trod_struct ht h
      have hnn : n' = n := by omega
      subst hnn
      obtain ⟨kT, ksum, koff⟩ := K.struct hT ht
      rw [List.all_eq_true] at hm
      obtain ⟨μ1, H1, hp, g1, l1, k1⟩ := opens_list (fs.toList.map fun (f : Field) => (f.type, (cs.drop f.offset).take (P.cellsOf f.type))) (by
        intro p hp
        obtain ⟨f, hf, rfl⟩ := List.mem_map.1 hp
        obtain ⟨i, hi⟩ := List.getElem?_of_mem hf
        have h1 := hfs i f (by simpa using hi)
        have hil : i < xs.length := by have := (List.getElem?_eq_some_iff.1 hi).1; rw [hxl]; simpa using this
        rw [List.getElem?_eq_getElem hil] at h1
        exact ih m f.type _ _ (kT f hf) (hm f hf) h1 (hbk.imp id fun h => Nat.le_trans (bulk_part (List.mem_map.2 ⟨_, List.getElem_mem hil, rfl⟩)) h)) μ H hR
      simp only [List.length_map] at l1
      have hch := chop (fun f : Field => P.cellsOf f.type) (fun f => f.offset) cs fs.toList 0 (by simpa using koff)
      rw [List.drop_zero, ← ksum, ← hcl, List.take_length] at hch
      have hrel : VRels μ1 hp.flatten cs := by
        rw [← hch]
        refine VRels.flatten (by simp [l1]) (fun i x y hx hy => ?_)
        rw [List.getElem?_map, Option.map_eq_some_iff] at hy
        obtain ⟨f, hf, rfl⟩ := hy
        exact (k1 i _ x (by rw [List.getElem?_map, hf]; rfl) hx).1
      have hsz : ∀ (j : Nat) (f : Field), fs.toList[j]? = some f → ((cs.drop f.offset).take (P.cellsOf f.type)).length = P.cellsOf f.type := by
        intro j f hj
        have h1 := koff j f hj
        have h2 : ((fs.toList.take j).map fun f => P.cellsOf f.type).sum + P.cellsOf f.type ≤ cs.length := by
          rw [hcl, ksum]
          conv => rhs; rw [← List.take_append_drop j fs.toList]
          rw [List.map_append, List.sum_append]
          have : fs.toList.drop j = f :: fs.toList.drop (j + 1) := by
            have := (List.getElem?_eq_some_iff.1 hj)
            rw [List.drop_eq_getElem_cons this.1, this.2]
          rw [this, List.map_cons, List.sum_cons]; omega
        rw [List.length_take, List.length_drop]; omega
      have hlens : ∀ (j : Nat) (f : Field) (x : List Value), fs.toList[j]? = some f → hp[j]? = some x → x.length = P.cellsOf f.type := by
        intro j f x hj hx
        have := (k1 j _ x (by rw [List.getElem?_map, hj]; rfl) hx).1.length
        rw [hsz j f hj] at this; omega
      have hsums : ∀ j, j ≤ hp.length → ((hp.take j).map List.length).sum = ((fs.toList.take j).map fun f => P.cellsOf f.type).sum := by
        intro j
        induction j with
        | zero => intro _; simp
        | succ j ihj =>
          intro hj
          have e1 : hp[j]? = some (hp[j]'(by omega)) := List.getElem?_eq_getElem (by omega)
          have e2 : fs.toList[j]? = some (fs.toList[j]'(by omega)) := List.getElem?_eq_getElem (by omega)
          rw [List.take_add_one, List.take_add_one, e1, e2]
          simp only [Option.toList_some, List.map_append, List.map_cons, List.map_nil, List.sum_append, List.sum_cons, List.sum_nil]
          rw [ihj (by omega), hlens j _ _ e2 e1]
      refine ⟨μ1, H1, hp.flatten, g1, hrel, ?_, ?_⟩
      · unfold HArg; rw [ht]
        refine ⟨by have := hrel.length; omega, fun f hf => ?_⟩
        obtain ⟨j, hj⟩ := List.getElem?_of_mem hf
        have hjl : j < hp.length := by have := (List.getElem?_eq_some_iff.1 hj).1; omega
        have e1 : hp[j]? = some (hp[j]'hjl) := List.getElem?_eq_getElem hjl
        have := unchop hp j _ e1
        rw [hsums j (by omega), hlens j f _ hj e1] at this
        have ho := koff j f hj
        rw [← ho] at this
        rw [this]
        exact (k1 j _ _ (by rw [List.getElem?_map, hj]; rfl) e1).2.1
      · intro v hv
        obtain ⟨x, hx, hvx⟩ := List.mem_flatten.1 hv
        obtain ⟨j, hj⟩ := List.getElem?_of_mem hx
        have hjl : j < fs.toList.length := by have := (List.getElem?_eq_some_iff.1 hj).1; omega
        exact (k1 j _ x (by rw [List.getElem?_map, List.getElem?_eq_getElem hjl]; rfl) hj).2.2 v hvx
    · cases hm
end
end Go.HL
/-
  The final row of a law: from what its body comes to over all heaps to the given statement's form.
-/
namespace Go.HL
open Go.RowKit Go.Proofs.YtaghhialaplgoaaGreatDoor Go.ChangeShapes Go.WideShapes Go.ChangeAt
set_option linter.unusedVariables false
set_option maxRecDepth 10000
set_option linter.unusedSimpArgs false

theorem rel_empty (w : World) (ht : TabsOk w.heap.size w) : Rel w.heap.size (fun _ => none) ⟨0, fun _ => none⟩ w := ⟨Nat.le_refl _, by simp, by simp, by simp, by simp, by simp, ht, by simp, by simp⟩

/-- An argument. -/
def harg1 (P : Program) (L : Nat) (H : HHeap) (t : TypeId) (v : Value) : Prop :=
  ∃ n hs, HArg P L H n t hs ∧ (match P.underlying t with | some (.struct _) => v = .agg hs.toArray | _ => hs = [v])
def HArgs (P : Program) (L : Nat) (H : HHeap) : List TypeId → List Value → Prop
  | [], [] => True
  | t :: ts, v :: vs => harg1 P L H t v ∧ HArgs P L H ts vs
  | _, _ => False

theorem harg1.mono {P : Program} {L : Nat} {H H' : HHeap} (h : ∀ b o, H.get b = some o → H'.get b = some o) {t : TypeId} {v : Value} (k : harg1 P L H t v) : harg1 P L H' t v := by
  obtain ⟨n, hs, k1, k2⟩ := k
  exact ⟨n, hs, HArg.mono h _ _ _ k1, k2⟩
theorem HArgs.mono {P : Program} {L : Nat} {H H' : HHeap} (h : ∀ b o, H.get b = some o → H'.get b = some o) : ∀ {ts : List TypeId} {vs : List Value}, HArgs P L H ts vs → HArgs P L H' ts vs
  | [], [], _ => trivial
  | _ :: _, _ :: _, k => ⟨k.1.mono h, HArgs.mono h k.2⟩
  | [], _ :: _, k => k.elim
  | _ :: _, [], k => k.elim

section
variable {Hd : Type} {enc : TypeId × Value → Hd} {P : Program} {w : World} {L : Nat}

theorem open_one {T : TypeId → Prop} (K : Kids P T) {t : TypeId} {v : Value} {d : DataW Hd} {p : List MemPlace} {m base : Nat} (hT : T t) (hm : plainT P m t = true) (hok : Value.okWide P w .any base t v)
    (h : DataW.Trod enc P w 0 (fun _ => true) true t v d p) (hbk : L = maxLen ∨ bulk d ≤ L) (μ : Mu) (H : HHeap) (hR : Rel w.heap.size μ H w) : ∃ μ' H' hv, Grow w μ H μ' H' ∧ VRel μ' hv v ∧ harg1 P L H' t hv := by
  obtain ⟨n, hn⟩ := h
  obtain ⟨μ', H', hs, g, hr, ha, _⟩ := opens_trod K n m t _ _ hT hm hn hbk μ H hR
  cases m with
  | zero => simp [plainT] at hm
  | succ m =>
  have hcell : (∀ fs, P.underlying t ≠ some (.struct fs)) → v.cells = #[v] → ∃ μ' H' hv, Grow w μ H μ' H' ∧ VRel μ' hv v ∧ harg1 P L H' t hv := by
    intro hns hc
    rw [hc] at hr
    cases hr with
    | cons hv _ _ _ h1 h2 =>
      cases h2
      refine ⟨μ', H', hv, g, h1, n, [hv], ha, ?_⟩
      split
      · exact absurd ‹_› (hns _)
      · rfl
  unfold plainT at hm
  split at hm
  · rename_i e
    refine hcell (fun fs => by rw [e]; simp) ?_
    unfold Value.okWide Cell.okWide Cell.ok at hok
    rw [e] at hok
    cases v with
    | agg cs => exact absurd hok (by simp)
    | _ => rfl
  · rename_i k e
    refine hcell (fun fs => by rw [e]; simp) ?_
    unfold Value.okWide Cell.okWide Cell.ok at hok
    rw [e] at hok
    cases v with
    | agg cs => exact absurd hok (by simp)
    | _ => rfl
  · rename_i e
    refine hcell (fun fs => by rw [e]; simp) ?_
    unfold Value.okWide Cell.okWide Cell.ok at hok
    rw [e] at hok
    cases v with
    | agg cs => exact absurd hok (by simp)
    | _ => rfl
  · rename_i e' e
    refine hcell (fun fs => by rw [e]; simp) ?_
    unfold Value.okWide Cell.okWide Cell.ok at hok
    rw [e] at hok
    cases v with
    | agg cs => exact absurd hok (by simp)
    | _ => rfl
  · rename_i fs e
    unfold Value.okWide at hok
    rw [e] at hok
    obtain ⟨cs, rfl, _⟩ := hok
    refine ⟨μ', H', .agg hs.toArray, g, ?_, n, hs, ha, by rw [e]⟩
    have := VRel.agg hs cs.toList hr
    simpa using this
  · cases hm

theorem open_all {T : TypeId → Prop} (K : Kids P T) {m base : Nat} : ∀ (ts : List TypeId) (vs : List Value) (ds : List (DataW Hd)) (p : List MemPlace), (∀ t ∈ ts, T t ∧ plainT P m t = true) →
    (∀ (j : Nat) t v, ts[j]? = some t → vs[j]? = some v → Value.okWide P w .any base t v) → DataW.TrodAll enc P w 0 (fun _ => true) true ts vs ds p → (L = maxLen ∨ Rows.uptoBulkAll ds ≤ L) →
    ∀ μ H, Rel w.heap.size μ H w → ∃ μ' H' hvs, Grow w μ H μ' H' ∧ VRels μ' hvs vs ∧ HArgs P L H' ts hvs
  | [], [], _, _, _, _, _, _, μ, H, hR => ⟨μ, H, [], ⟨Sub.refl μ, hR, fun _ _ e => e⟩, .nil, trivial⟩
  | t :: ts, v :: vs, d :: ds, p, hT, hok, h, hbk, μ, H, hR => by
    obtain ⟨p1, p2, h1, h2, _⟩ := h
    obtain ⟨μ1, H1, hv, g1, r1, a1⟩ := open_one K (hT t (by simp)).1 (hT t (by simp)).2 (hok 0 t v rfl rfl) h1 (hbk.imp id fun h => Nat.le_trans (bulk_le (List.mem_cons_self ..)) h) μ H hR
    obtain ⟨μ2, H2, hvs, g2, r2, a2⟩ := open_all K ts vs ds p2 (fun u hu => hT u (by simp [hu])) (fun j u x e e' => hok (j + 1) u x (by simpa using e) (by simpa using e')) h2 (hbk.imp id fun h => by simp only [Rows.uptoBulkAll] at h; omega) μ1 H1 g1.rel
    exact ⟨μ2, H2, hv :: hvs, g1.trans g2, .cons _ _ _ _ (r1.mono g2.sub) r2, a1.mono g2.keep, a2⟩
  | [], _ :: _, _, _, _, _, h, _, _, _, _ => by cases h
  | _ :: _, [], _, _, _, _, h, _, _, _, _ => by cases h
  | _ :: _, _ :: _, [], _, _, _, h, _, _, _, _ => by cases h

theorem carry_all {w' : World} {spare : Nat → Bool} {held : Bool} : ∀ {ts : List TypeId} {vs : List Value} {ds : List (DataW Hd)} {ps : List MemPlace},
    DataW.TrodAll enc P w 0 spare held ts vs ds ps → (∀ p ∈ ps, w.sameAt w' p) → DataW.TrodAll enc P w' 0 spare held ts vs ds ps
  | [], [], [], _, h, _ => h
  | _ :: _, _ :: _, _ :: _, _, ⟨p, q, ⟨n, h1⟩, h2, e⟩, hs =>
    ⟨p, q, ⟨n, DataW.trod_carry n _ _ _ h1 (fun x hx => hs x (by rw [e]; exact List.mem_append_left _ hx))⟩, carry_all h2 (fun x hx => hs x (by rw [e]; exact List.mem_append_right _ hx)), e⟩
end


/-- THE WITNESS: a world in which the listed variables are laid, and arguments of bulk at most the bound. -/
theorem witness_upto {Hd : Type} {enc : TypeId × Value → Hd} {C : Checked} {os : Os} {f : FuncId} {fn : Func} {s : OpenSpec} {conds : List PathCond} {laid : List (String × DataW Unit)} (args : Array Value)
    (hsh : ((World.laidAll C.prog os laid).forCall (fun _ _ => 0) ⟨#[], args, []⟩).Shaped C.prog)
    (hok : Input.okWideB C.prog ((World.laidAll C.prog os laid).forCall (fun _ _ => 0) ⟨#[], args, []⟩) f ⟨#[], args, []⟩ = true)
    (hrow : s.preRow enc C.prog fn conds false laid ((World.laidAll C.prog os laid).forCall (fun _ _ => 0) ⟨#[], args, []⟩).memory args) :
    ∃ (w : World) (tape : Tape) (i : Input), w.os = os ∧ (w.forCall tape i).Shaped C.prog ∧ i.vars = [] ∧ Input.okWide C.prog (w.forCall tape i) .any w.heap.size f i ∧
      s.preRow enc C.prog fn conds false laid (w.forCall tape i).memory i.args ∧ ({} : Assume).holds C.prog (lone (Frame.enter C.prog f i.args .normal) [] (w.forCall tape i)) :=
  ⟨World.laidAll C.prog os laid, fun _ _ => 0, ⟨#[], args, []⟩, World.laidAll_os _ _ _, hsh, (Input.okWide_of_okWideB (base := 0) hok).1, (Input.okWide_of_okWideB hok).2, hrow, by
    simp only [Assume.holds]
    exact ⟨by simp, by simp, fun _ => Modest.zero, by simp, by simp⟩⟩

end Go.HL
/-
  Arguments, opened: rows of numbers, of bools, of structs.
-/
namespace Go.HL
open Go.RowKit
set_option linter.unusedVariables false
set_option linter.unusedSimpArgs false

/-- A row that came as an argument. -/
def SlArg (H : HHeap) (v : Value) (e n : Nat) (cells : List Value) : Prop :=
  cells.length = n * e ∧ n ≤ maxLen ∧ ∃ a cap, v = .slice a n cap ∧ n ≤ cap ∧ ((a = none ∧ cap = 0) ∨ ∃ b, a = some ⟨b, 0, none⟩ ∧ (n ≠ 0 → H.get b = some (.cells cells false)))

theorem SlArg.frame {H H' : HHeap} {v : Value} {e n : Nat} {cells : List Value} (h : SlArg H v e n cells) (ok : H.Ok) (f : ∀ b, b < H.next → H'.get b = H.get b) : SlArg H' v e n cells := by
  obtain ⟨h1, h2, a, cap, h3, h4, h5⟩ := h
  refine ⟨h1, h2, a, cap, h3, h4, ?_⟩
  rcases h5 with h5 | ⟨b, h5, h6⟩
  · exact .inl h5
  · exact .inr ⟨b, h5, fun hn => by rw [f b (ok _ _ (h6 hn))]; exact h6 hn⟩

section
variable {P : Program} {L : Nat} {H : HHeap} {n : Nat} {t : TypeId} {hs : List Value}

theorem harg_slice {e : TypeId} (ht : P.underlying t = some (.slice e)) (h : HArg P L H n t hs) :
    ∃ v len cells m, hs = [v] ∧ SlArg H v (P.cellsOf e) len cells ∧ ∀ i, i < len → HArg P L H m e ((cells.drop (i * P.cellsOf e)).take (P.cellsOf e)) := by
  cases n with
  | zero => exact h.elim
  | succ n =>
    unfold HArg at h; rw [ht] at h
    obtain ⟨a, len, cap, cells, rfl, h2, h3, h4, h5, h6⟩ := h
    exact ⟨_, len, cells, n, rfl, ⟨h4, by omega, a, cap, rfl, h2, h5⟩, h6⟩
theorem harg_int {k : IntKind} (ht : P.underlying t = some (.int k)) (h : HArg P L H n t hs) : ∃ z, hs = [.int k z] ∧ (Lit.int k z).wf = true := by
  cases n with
  | zero => exact h.elim
  | succ n => unfold HArg at h; rw [ht] at h; exact h
theorem harg_bool (ht : P.underlying t = some .bool) (h : HArg P L H n t hs) : ∃ b, hs = [.bool b] := by
  cases n with
  | zero => exact h.elim
  | succ n => unfold HArg at h; rw [ht] at h; exact h
end

end Go.HL
/-
  The final row of a law without a bound: from what its body comes to over all heaps to the given statement's form; arguments that are two rows of things of one cell, renamed.
-/
namespace Go.HL
open Go.RowKit Go.Proofs.YtaghhialaplgoaaGreatDoor Go.ChangeShapes Go.WideShapes Go.ChangeAt
set_option linter.unusedVariables false
set_option maxRecDepth 10000
set_option linter.unusedSimpArgs false
/-- THE FINAL ROW: a law that answers true over every heap in which its arguments lie; the listed variables are laid. -/
theorem returns_said {Hd : Type} {enc : TypeId × Value → Hd} {C : Checked} {os : Os} {f : FuncId} {fn : Func} {s : ChangeSpec} {conds : List PathCond} {laid : List (String × DataW Unit)} {tb : TypeId} (F : Stop.Interp)
    (own : ownKnob C.prog.godebug = none) (started : os.Started) (noInit : C.prog.inits.idxOf? f = none) (hfn : C.prog.funcs[f]? = some fn)
    (witness : ∃ (w : World) (tape : Tape) (i : Input), w.os = os ∧ (w.forCall tape i).Shaped C.prog ∧ i.vars = [] ∧ Input.okWide C.prog (w.forCall tape i) .any w.heap.size f i ∧
      (OpenSpec.ofChange s).preRow enc C.prog fn conds false laid (w.forCall tape i).memory i.args ∧ ({} : Assume).holds C.prog (lone (Frame.enter C.prog f i.args .normal) [] (w.forCall tape i)))
    (hl : laidOutB C.prog = true) (hm : mapsRowed C.prog = true)
    (hz : ((List.range C.prog.types.size).all fun t => match C.prog.underlying t with | some (.slice e) => decide (0 < C.prog.cellsOf e) | _ => true) = true)
    (hp : (fn.params.toList.all fun t => decide (t < C.prog.types.size) && plainT C.prog 9 t) = true)
    (hr : fn.resultTypes = #[tb]) (hb : C.prog.underlying tb = some .bool) (hv : s.vars = [])
    (hs : ∀ ds : List (DataW Hd), ds.length = fn.params.toList.length → s.fn Hd ds = { results := [.lit (.bool true)], args := ds })
    (tabs : ∀ W : World, laidMetH C.prog laid W → W.ShapedOpen C.prog → TabsOk W.heap.size W)
    (law : ∀ H hargs, HArgs C.prog maxLen H fn.params.toList hargs → HCalls C.prog f hargs H fun v _ => v = .bool true) :
    ReturnsInHanded {} C os f .any ((OpenSpec.ofChange s).preRow enc C.prog fn conds false laid) (((OpenSpec.ofChange s).at F).post enc C.prog fn false true false false) := by
  refine returnsInHanded_of_row (C := C) (s := OpenSpec.ofChange s) own started noInit hfn witness ?_
  intro W base args ds gs before hval hW0 hcnd hk _ hL hsh _
  have hW : DataW.Whole enc C.prog fn.params.toList s.vars false W args.toList ds gs before := hW0
  have hW' := hW
  obtain ⟨p, q, hA, hV, rfl, hfz, hnd⟩ := hW
  rw [hv] at hV
  obtain ⟨rfl, rfl⟩ := trodVars_none hV
  have hT : ∀ t ∈ fn.params.toList, t < C.prog.types.size ∧ plainT C.prog 9 t = true := by
    intro t ht
    have := List.all_eq_true.1 hp t ht
    simpa using this
  have K := kids_rows hl hm
  obtain ⟨μ, H, hargs, g, hrel, hha⟩ := open_all (enc := enc) K fn.params.toList args.toList ds p hT (fun j t v e e' => hval j t v (by simpa using e) (by simpa using e')) hA (.inl rfl) _ _ (rel_empty W (tabs W hL hsh))
  have hlen : ds.length = fn.params.toList.length := by
    have : ∀ (ts : List TypeId) (vs : List Value) (ds : List (DataW Hd)) (p : List MemPlace), DataW.TrodAll enc C.prog W 0 (fun _ => true) true ts vs ds p → ds.length = ts.length := by
      intro ts
      induction ts with
      | nil => intro vs ds p h; cases vs <;> cases ds <;> first | rfl | cases h
      | cons t ts ih =>
        intro vs ds p h
        cases vs with
        | nil => cases h
        | cons v vs => cases ds with
          | nil => cases h
          | cons d ds =>
            obtain ⟨_, _, _, h2, _⟩ := h
            simp [ih _ _ _ h2]
    exact this _ _ _ _ hA
  have := law H hargs hha W.heap.size μ W args.toList g.rel hrel
  rw [Array.toArray_toList] at this
  refine this.mono fun e W' ⟨μ', v, H', v', he, hvt, hvr, hst⟩ => ?_
  subst he; subst hvt
  cases hvr
  have hbel := hst.below g.rel
  have hlt := hA.lt
  have hargs' : DataW.TrodAll enc C.prog W' 0 (fun b => decide (b < W.heap.size)) true fn.params.toList args.toList ds p :=
    carry_all (hA.respare K (slices_full_of C.prog hz) (fun t ht => (hT t ht).1) (fun x hx => by simpa using hlt x hx)) (fun x hx => by
      have hx' := hlt x hx
      cases x with
      | cell b off => show W'.cell? _ = W.cell? _; unfold World.cell?; rw [hbel.block b hx']
      | map b => exact hbel.block b hx')
  have hspec : ((OpenSpec.ofChange s).at F).fn Hd ds = { results := [.lit (.bool true)], args := ds } := hs ds hlen
  have hvs : ((OpenSpec.ofChange s).at F).vars = [] := hv
  refine ⟨_, rfl, ds, [], p ++ [], [], p, [], hW', ?_, ?_, ?_, hbel.frame _, fun h => by cases h⟩
  · rw [List.append_nil, hspec, hr]
    exact trodAll_mk1 (shut_bool hb true)
  · rw [List.append_nil, hspec]; exact hargs'
  · rw [hvs, List.append_nil, hspec]; rfl

/-- What is known of an argument's block. -/
def argO (n : Nat) (cells : List Value) : Option HObj := if n = 0 then none else some (.cells cells false)
/-- The heap of two arguments. -/
def argH (o0 o1 : Option HObj) : HHeap := ⟨2, fun b => if b = 0 then o0 else if b = 1 then o1 else none⟩
def argV (a : Option Addr) (k n cap : Nat) : Value := .slice (a.map fun _ => ⟨k, 0, none⟩) n cap
theorem arg_one {B : Nat} {μ : Mu} {H : HHeap} {w : World} (hR : Rel B μ H w) {a : Option Addr} {n cap : Nat} {c : List Value} {x : Value} (hcap : n ≤ cap) (hr : (a = none ∧ cap = 0) ∨ ∃ b, a = some ⟨b, 0, none⟩ ∧ (n ≠ 0 → H.get b = some (.cells c false))) (hf : c.all flat1 = true) (hx : VRel μ (.slice a n cap) x) :
    ∃ q : Option Place, (∀ (μ' : Mu) k, μ' k = q → VRel μ' (argV a k n cap) x) ∧ (∀ p, q = some p → p.g < w.heap.size) ∧
      (n ≠ 0 → ∃ p, q = some p ∧ c.length ≤ p.ext ∧ (∀ (i : Nat) (v : Value), c[i]? = some v → v.oneCell' = true ∧ ∃ v', w.cell? ⟨p.g, p.d + i, none⟩ = some v' ∧ v' = v) ∧ p.g < B) := by
  rcases hr with ⟨rfl, rfl⟩ | ⟨b, rfl, hg⟩
  · obtain rfl : n = 0 := by omega
    cases hx
    exact ⟨none, fun _ _ _ => .nilSlice, (fun p h => by cases h), fun h => absurd rfl h⟩
  · cases hx with
    | slice _ _ _ _ p hp hl =>
      refine ⟨some p, fun μ' k hk => .slice k 0 n cap p hk hl, fun p' e => by cases e; exact hR.real b p hp, fun hn => ?_⟩
      obtain ⟨q, h1, h2, h3, _, h5⟩ := hR.cells b c false (hg hn)
      rw [hp] at h1
      cases h1
      refine ⟨p, rfl, h2, fun i v hv => ?_, h5 rfl⟩
      obtain ⟨k1, v', k2, k3⟩ := h3 i v hv
      exact ⟨k1, v', k2, k3.flat1_eq (List.all_eq_true.1 hf v (List.mem_of_getElem? hv))⟩
    | void _ _ ad =>
      exact ⟨none, fun _ k _ => .void k 0 ad, (fun p h => by cases h), fun h => absurd rfl h⟩
theorem argO_some {n : Nat} {c cs : List Value} {rw : Bool} (h : argO n c = some (.cells cs rw)) : n ≠ 0 ∧ cs = c ∧ rw = false := by
  unfold argO at h
  split at h
  · cases h
  · rename_i hn; cases h; exact ⟨hn, rfl, rfl⟩
theorem argO_cells {n : Nat} {c : List Value} {o : HObj} (h : argO n c = some o) : o = .cells c false := by
  unfold argO at h
  split at h
  · cases h
  · cases h; rfl
theorem two_args {P : Program} {f : FuncId} {H : HHeap} {v0 v1 : Value} {n0 n1 : Nat} {c0 c1 : List Value} (h0 : SlArg H v0 1 n0 c0) (h1 : SlArg H v1 1 n1 c1) (f0 : c0.all flat1 = true) (f1 : c1.all flat1 = true)
    (law : ∀ (a0 a1 : Option Addr) (k0 k1 : Nat), n0 ≤ k0 → n1 ≤ k1 → (a0 = none → n0 = 0 ∧ k0 = 0) → (a1 = none → n1 = 0 ∧ k1 = 0) → HCalls P f [argV a0 0 n0 k0, argV a1 1 n1 k1] (argH (argO n0 c0) (argO n1 c1)) fun v _ => v = .bool true) :
    HCalls P f [v0, v1] H fun v _ => v = .bool true := by
  obtain ⟨l0, m0, a0, k0, rfl, g0, r0⟩ := h0
  obtain ⟨l1, m1, a1, k1, rfl, g1, r1⟩ := h1
  intro B μ w args' hR hx
  cases hx with
  | cons _ x0 _ _ hx0 hx =>
  cases hx with
  | cons _ x1 _ _ hx1 hx =>
  cases hx
  have hlaw := law a0 a1 k0 k1 g0 g1 (fun h => by rcases r0 with ⟨_, e⟩ | ⟨b, e, _⟩; omega; rw [h] at e; cases e) (fun h => by rcases r1 with ⟨_, e⟩ | ⟨b, e, _⟩; omega; rw [h] at e; cases e)
  obtain ⟨q0, p1, p2, p3⟩ := arg_one hR g0 r0 f0 hx0
  obtain ⟨q1, s1, s2, s3⟩ := arg_one hR g1 r1 f1 hx1
  obtain ⟨μ0, hμ⟩ : ∃ μ0 : Mu, μ0 = fun b => if b = 0 then q0 else if b = 1 then q1 else none := ⟨_, rfl⟩
  have m0 : μ0 0 = q0 := by rw [hμ]; rfl
  have m1 : μ0 1 = q1 := by rw [hμ]; rfl
  have ob : ∀ b o, (argH (argO n0 c0) (argO n1 c1)).get b = some o → (b = 0 ∧ argO n0 c0 = some o) ∨ (b = 1 ∧ argO n1 c1 = some o) := by
    intro b o h
    have h : (if b = 0 then argO n0 c0 else if b = 1 then argO n1 c1 else none) = some o := h
    by_cases h0 : b = 0
    · rw [if_pos h0] at h; exact .inl ⟨h0, h⟩
    · rw [if_neg h0] at h
      by_cases h1 : b = 1
      · rw [if_pos h1] at h; exact .inr ⟨h1, h⟩
      · rw [if_neg h1] at h; cases h
  have hR2 : Rel B μ0 (argH (argO n0 c0) (argO n1 c1)) w := by
    have no : ∀ b o, (argH (argO n0 c0) (argO n1 c1)).get b = some o → ∃ cs, o = .cells cs false := by
      intro b o h
      rcases ob b o h with ⟨_, h⟩ | ⟨_, h⟩
      · exact ⟨_, argO_cells h⟩
      · exact ⟨_, argO_cells h⟩
    refine ⟨hR.hB, ?_, ?_, ?_, ?_, ?_, hR.tabs, ?_, ?_⟩
    · intro b p h
      show b < 2
      rw [hμ] at h
      simp only at h
      by_cases h0 : b = 0
      · omega
      · rw [if_neg h0] at h
        by_cases h1 : b = 1
        · omega
        · rw [if_neg h1] at h; cases h
    · intro b p h
      rw [hμ] at h
      simp only at h
      by_cases h0 : b = 0
      · rw [if_pos h0] at h; exact p2 p h
      · rw [if_neg h0] at h
        by_cases h1 : b = 1
        · rw [if_pos h1] at h; exact s2 p h
        · rw [if_neg h1] at h; cases h
    · intro b cs rw' h
      rcases ob b _ h with ⟨rfl, h⟩ | ⟨rfl, h⟩
      · obtain ⟨hn, rfl, rfl⟩ := argO_some h
        obtain ⟨p, t1, t2, t3, t4⟩ := p3 hn
        refine ⟨p, by rw [m0, t1], t2, fun i v hv => ?_, by simp, fun _ => t4⟩
        obtain ⟨u1, v', u2, u3⟩ := t3 i v hv
        exact ⟨u1, v', u2, by rw [u3]; exact .of_flat1 (List.all_eq_true.1 f0 v (List.mem_of_getElem? hv))⟩
      · obtain ⟨hn, rfl, rfl⟩ := argO_some h
        obtain ⟨p, t1, t2, t3, t4⟩ := s3 hn
        refine ⟨p, by rw [m1, t1], t2, fun i v hv => ?_, by simp, fun _ => t4⟩
        obtain ⟨u1, v', u2, u3⟩ := t3 i v hv
        exact ⟨u1, v', u2, by rw [u3]; exact .of_flat1 (List.all_eq_true.1 f1 v (List.mem_of_getElem? hv))⟩
    · intro b es h; obtain ⟨cs, e⟩ := no b _ h; cases e
    · intro b b' o o' p p' _ h _ hw
      obtain ⟨cs, rfl⟩ := no b _ h
      cases hw
    · intro b t pos h; obtain ⟨cs, e⟩ := no b _ h; cases e
    · intro x e n b h; obtain ⟨cs, e⟩ := no x _ h; cases e
  refine (hlaw B μ0 w [x0, x1] hR2 (.cons _ _ _ _ (p1 μ0 0 m0) (.cons _ _ _ _ (s1 μ0 1 m1) .nil))).mono ?_
  rintro e w' ⟨μ', u, H', u', rfl, rfl, hu, s⟩
  have hfr : ∀ g, ¬ Owned μ0 (argH (argO n0 c0) (argO n1 c1)) g := by
    rintro g ⟨b, o, p, h, hw, _⟩
    rcases ob b o h with ⟨_, h⟩ | ⟨_, h⟩
    · rw [argO_cells h] at hw; cases hw
    · rw [argO_cells h] at hw; cases hw
  cases hu
  exact ⟨μ, _, H, _, rfl, rfl, .bool true, Step.of_below hR ⟨s.os, s.tape, s.output, s.size, fun k hk => s.frame k hk (hfr k)⟩⟩
end Go.HL
