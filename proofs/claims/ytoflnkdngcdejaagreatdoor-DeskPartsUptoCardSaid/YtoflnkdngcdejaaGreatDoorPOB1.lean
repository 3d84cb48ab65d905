/-
  Opening: an argument that reads as data, as values over a heap of blocks that are only read.
-/
import Derived.Test.YtoflnkdngcdejaaGreatDoorPE5
import Derived.Test.YtoflnkdngcdejaaGreatDoorRows
import Derived.ChangeReads
import Derived.ReadAgain
import Derived.ChangeBears
set_option linter.unusedVariables false
set_option linter.unusedSimpArgs false
namespace Go.HL
open Go.RowKit Go.Proofs.YtoflnkdngcdejaaGreatDoor
set_option linter.unusedVariables false
set_option linter.unusedSimpArgs false

/-- How much a datum holds. -/
abbrev bulk {H : Type} (d : DataW H) : Nat := Go.Proofs.YtoflnkdngcdejaaGreatDoor.Rows.uptoBulk d
open Go.Proofs.YtoflnkdngcdejaaGreatDoor in
theorem bulk_le {H : Type} {d : DataW H} {l : List (DataW H)} (h : d ∈ l) : bulk d ≤ Rows.uptoBulkAll l := by
  induction l with
  | nil => cases h
  | cons x r ih =>
    simp only [Rows.uptoBulkAll]
    cases List.mem_cons.1 h with
    | inl e => subst e; simp only [bulk]; omega
    | inr e => have := ih e; simp only [bulk] at this ⊢; omega
open Go.Proofs.YtoflnkdngcdejaaGreatDoor in
theorem bulk_elem {H : Type} {d : DataW H} {l sp : List (DataW H)} (h : d ∈ l) : bulk d ≤ bulk (.slice l sp) := by
  have := bulk_le h
  simp only [bulk, Rows.uptoBulk] at this ⊢; omega
open Go.Proofs.YtoflnkdngcdejaaGreatDoor in
theorem bulk_part {H : Type} {d : DataW H} {l : List (DataW H)} (h : d ∈ l) : bulk d ≤ bulk (.agg l) := by
  have := bulk_le h
  simp only [bulk, Rows.uptoBulk] at this ⊢; omega

/-- A type of numbers, bools, texts, slices and structs of these. -/
def plainT (P : Program) : Nat → TypeId → Bool
  | 0, _ => false
  | n + 1, t =>
    match P.underlying t with
    | some .bool | some (.int _) | some .string => true
    | some (.slice e) => plainT P n e && decide (0 < P.cellsOf e)
    | some (.struct fs) => fs.toList.all fun f => plainT P n f.type
    | _ => false

/-- What the cells of an argument are. -/
def HArg (P : Program) (L : Nat) (H : HHeap) : Nat → TypeId → List Value → Prop
  | 0, _, _ => False
  | n + 1, t, hs =>
    match P.underlying t with
    | some .bool => ∃ b, hs = [.bool b]
    | some (.int k) => ∃ z, hs = [.int k z] ∧ (Lit.int k z).wf = true
    | some .string => ∃ s, hs = [.string s] ∧ s.size ≤ L
    | some (.slice e) => ∃ a len cap cells, hs = [.slice a len cap] ∧ len ≤ cap ∧ cap ≤ maxLen ∧ cells.length = len * P.cellsOf e ∧
        ((a = none ∧ cap = 0) ∨ ∃ b, a = some ⟨b, 0, none⟩ ∧ (len ≠ 0 → H.get b = some (.cells cells false))) ∧
        ∀ i, i < len → HArg P L H n e ((cells.drop (i * P.cellsOf e)).take (P.cellsOf e))
    | some (.struct fs) => hs.length = P.cellsOf t ∧ ∀ f ∈ fs.toList, HArg P L H n f.type ((hs.drop f.offset).take (P.cellsOf f.type))
    | _ => False

theorem HArg.mono {P : Program} {L : Nat} {H H' : HHeap} (h : ∀ b o, H.get b = some o → H'.get b = some o) : ∀ (n : Nat) (t : TypeId) (hs : List Value), HArg P L H n t hs → HArg P L H' n t hs := by
  intro n
  induction n with
  | zero => intro t hs k; exact k
  | succ n ih =>
    intro t hs k
    unfold HArg at k ⊢
    split
    · rename_i e; rw [e] at k; exact k
    · rename_i e; rw [e] at k; exact k
    · rename_i e; rw [e] at k; exact k
    · rename_i e; rw [e] at k
      obtain ⟨a, len, cap, cells, h1, h2, h3, h4, h5, h6⟩ := k
      refine ⟨a, len, cap, cells, h1, h2, h3, h4, ?_, fun i hi => ih _ _ (h6 i hi)⟩
      rcases h5 with h5 | ⟨b, h5, h7⟩
      · exact .inl h5
      · exact .inr ⟨b, h5, fun hn => h _ _ (h7 hn)⟩
    · rename_i e; rw [e] at k
      exact ⟨k.1, fun f hf => ih _ _ (k.2 f hf)⟩
    · rename_i h1 h2 h3 h4 h5
      split at k
      · exact absurd ‹_› h1
      · exact absurd ‹_› (h2 _)
      · exact absurd ‹_› h3
      · exact absurd ‹_› (h4 _)
      · exact absurd ‹_› (h5 _)
      · exact k

/-- A heap of which more is known. -/
structure Grow (w : World) (μ : Mu) (H : HHeap) (μ' : Mu) (H' : HHeap) : Prop where
  sub : Sub μ μ'
  rel : Rel w.heap.size μ' H' w
  keep : ∀ b o, H.get b = some o → H'.get b = some o

theorem Grow.trans {w : World} {μ μ1 μ2 : Mu} {H H1 H2 : HHeap} (a : Grow w μ H μ1 H1) (b : Grow w μ1 H1 μ2 H2) : Grow w μ H μ2 H2 :=
  ⟨a.sub.trans b.sub, b.rel, fun x o h => b.keep x o (a.keep x o h)⟩

/-- A block that is only read. -/
theorem Rel.view {B : Nat} {μ : Mu} {H : HHeap} {w : World} (h : Rel B μ H w) (p : Place) (hs : List Value) (hp : p.g < B) (hl : hs.length ≤ p.ext)
    (hc : ∀ (i : Nat) (v : Value), hs[i]? = some v → v.oneCell' = true ∧ ∃ v', w.cell? ⟨p.g, p.d + i, none⟩ = some v' ∧ VRel μ v v') : Rel B (μ.add H.next p) (H.push (.cells hs false)) w := by
  have hsub : Sub μ (μ.add H.next p) := Mu.sub_add h.fresh
  have mu_old : ∀ x q, x ≠ H.next → (μ.add H.next p) x = some q → μ x = some q := fun x q hn hq => by simpa [Mu.add, hn] using hq
  have get_old : ∀ x y, x ≠ H.next → (H.push (.cells hs false)).get x = some y → H.get x = some y := fun x y hn e => by simpa [HHeap.get_push, hn] using e
  refine ⟨h.hB, ?_, ?_, ?_, ?_, ?_, h.tabs, ?_, ?_⟩
  · intro x q hx
    by_cases hxn : x = H.next
    · subst hxn; simp
    · have := h.bound x q (mu_old x q hxn hx); simp; omega
  · intro x q hx
    by_cases hxn : x = H.next
    · subst hxn; simp [Mu.add] at hx; subst hx; have := h.hB; omega
    · exact h.real x q (mu_old x q hxn hx)
  · intro x cs' rw' hg
    by_cases hxn : x = H.next
    · subst hxn
      simp [HHeap.get_push] at hg
      obtain ⟨rfl, rfl⟩ := hg
      refine ⟨p, by simp [Mu.add], hl, fun i v hi => ?_, by simp, fun _ => hp⟩
      obtain ⟨a1, v', a2, a3⟩ := hc i v hi
      exact ⟨a1, v', a2, a3.mono hsub⟩
    · have hg' := get_old _ _ hxn hg
      obtain ⟨q, hq, hl', hc', hw', hr'⟩ := h.cells x cs' rw' hg'
      exact ⟨q, hsub _ _ hq, hl', fun i v hi => let ⟨a1, v', a2, a3⟩ := hc' i v hi; ⟨a1, v', a2, a3.mono hsub⟩, hw', hr'⟩
  · intro x es hg
    have hxn : x ≠ H.next := by rintro rfl; simp [HHeap.get_push] at hg
    have hg' := get_old _ _ hxn hg
    obtain ⟨q, clock, es', hq, hB, hh, he⟩ := h.maps x es hg'
    exact ⟨q, clock, es', hsub _ _ hq, hB, hh, he.mono hsub⟩
  · intro x x' y y' q q' hne hg hg' hy hy' hq hq'
    have hxn : x ≠ H.next := by rintro rfl; simp [HHeap.get_push] at hg; subst hg; simp [HObj.wr] at hy
    have hxn' : x' ≠ H.next := by rintro rfl; simp [HHeap.get_push] at hg'; subst hg'; simp [HObj.wr] at hy'
    exact h.apart x x' _ _ q q' hne (get_old _ _ hxn hg) (get_old _ _ hxn' hg') hy hy' (mu_old _ _ hxn hq) (mu_old _ _ hxn' hq')
  · intro x s pos hg
    have hxn : x ≠ H.next := by rintro rfl; simp [HHeap.get_push] at hg
    obtain ⟨q, h1, h2⟩ := h.iters x s pos (get_old _ _ hxn hg)
    exact ⟨q, hsub _ _ h1, h2⟩
  · intro x e n b hg
    have hxn : x ≠ H.next := by rintro rfl; simp [HHeap.get_push] at hg
    obtain ⟨q, arr, fz, h1, h2, h3⟩ := h.tags x e n b (get_old _ _ hxn hg)
    exact ⟨q, arr, fz, hsub _ _ h1, hsub _ _ h2, h3⟩

/-- Pieces that lie one behind the other. -/
theorem chop {α β : Type} (sz off : β → Nat) (cs : List α) : ∀ (fs : List β) (k : Nat), (∀ j f, fs[j]? = some f → off f = k + ((fs.take j).map sz).sum) →
    (fs.map fun f => (cs.drop (off f)).take (sz f)).flatten = (cs.drop k).take ((fs.map sz).sum)
  | [], k, _ => by simp
  | f :: fs, k, h => by
    have h0 := h 0 f rfl
    simp at h0
    have ih := chop sz off cs fs (k + sz f) (fun j g hg => by
      have := h (j + 1) g (by simpa using hg)
      rw [List.take_succ_cons, List.map_cons, List.sum_cons] at this; omega)
    simp only [List.map_cons, List.flatten_cons, List.sum_cons, ih, h0]
    rw [List.take_add, List.drop_drop]

theorem unchop {α : Type} : ∀ (l : List (List α)) (j : Nat) (x : List α), l[j]? = some x → (l.flatten.drop ((l.take j).map List.length).sum).take x.length = x
  | [], j, x, h => by simp at h
  | y :: l, 0, x, h => by simp at h; subst h; simp
  | y :: l, j + 1, x, h => by
    have ih := unchop l j x (by simpa using h)
    simp only [List.flatten_cons, List.take_succ_cons, List.map_cons, List.sum_cons]
    rw [← List.drop_drop, List.drop_left]
    exact ih

theorem VRels.flatten {μ : Mu} : ∀ {a b : List (List Value)}, a.length = b.length → (∀ (i : Nat) (x y : List Value), a[i]? = some x → b[i]? = some y → VRels μ x y) → VRels μ a.flatten b.flatten
  | [], [], _, _ => .nil
  | [], _ :: _, h, _ => by simp at h
  | _ :: _, [], h, _ => by simp at h
  | x :: a, y :: b, h, k => by
    simp only [List.flatten_cons]
    exact (k 0 x y rfl rfl).append (VRels.flatten (by simpa using h) (fun i x y e e' => k (i + 1) x y (by simpa using e) (by simpa using e')))

/-- Opened: the cells of a value. -/
def Opens (P : Program) (L : Nat) (w : World) (n : Nat) (t : TypeId) (cs : List Value) : Prop :=
  ∀ μ H, Rel w.heap.size μ H w → ∃ μ' H' hs, Grow w μ H μ' H' ∧ VRels μ' hs cs ∧ HArg P L H' n t hs ∧ ∀ v ∈ hs, v.oneCell' = true

theorem opens_list {P : Program} {L : Nat} {w : World} {n : Nat} : ∀ (parts : List (TypeId × List Value)), (∀ p ∈ parts, Opens P L w n p.1 p.2) → ∀ μ H, Rel w.heap.size μ H w →
    ∃ (μ' : Mu) (H' : HHeap) (hp : List (List Value)), Grow w μ H μ' H' ∧ hp.length = parts.length ∧ ∀ (i : Nat) (p : TypeId × List Value) (x : List Value), parts[i]? = some p → hp[i]? = some x → VRels μ' x p.2 ∧ HArg P L H' n p.1 x ∧ ∀ v ∈ x, v.oneCell' = true
  | [], _, μ, H, h => ⟨μ, H, [], ⟨Sub.refl μ, h, fun _ _ e => e⟩, rfl, fun i p x e => by simp at e⟩
  | p :: parts, ho, μ, H, h => by
    obtain ⟨μ1, H1, hs, g1, v1, a1, o1⟩ := ho p (by simp) μ H h
    obtain ⟨μ2, H2, hp, g2, l2, k2⟩ := opens_list parts (fun q hq => ho q (by simp [hq])) μ1 H1 g1.rel
    refine ⟨μ2, H2, hs :: hp, g1.trans g2, by simp [l2], fun i q x e e' => ?_⟩
    cases i with
    | zero =>
      simp at e e'; subst e; subst e'
      exact ⟨VRels.mono g2.sub v1, HArg.mono g2.keep _ _ _ a1, o1⟩
    | succ i => exact k2 i q x (by simpa using e) (by simpa using e')

section
variable {Hd : Type} {enc : TypeId × Value → Hd} {P : Program} {w : World} {T : TypeId → Prop} {L : Nat}

theorem opens_trod (K : Kids P T) : ∀ (n m : Nat) (t : TypeId) (cs : List Value) (x : DataW Hd × List MemPlace), T t → plainT P m t = true →
    DataW.trod enc P w 0 (fun _ => true) true n t cs = some x → (L = maxLen ∨ bulk x.1 ≤ L) → Opens P L w n t cs := by
  intro n
  induction n with
  | zero => intro m t cs x _ _ h _; simp [DataW.trod] at h
  | succ n ih =>
    intro m t cs x hT hm h hbk μ H hR
    cases m with
    | zero => simp [plainT] at hm
    | succ m =>
    unfold plainT at hm
    split at hm
    · rename_i e
      obtain ⟨b, rfl, rfl⟩ := DataW.trod_bool e h
      exact ⟨μ, H, [.bool b], ⟨Sub.refl μ, hR, fun _ _ e => e⟩, .cons _ _ _ _ (.bool b) .nil, by unfold HArg; rw [e]; exact ⟨b, rfl⟩, by simp [Value.oneCell']⟩
    · rename_i k e
      obtain ⟨z, rfl, rfl, hw⟩ := DataW.trod_int e h
      exact ⟨μ, H, [.int k z], ⟨Sub.refl μ, hR, fun _ _ e => e⟩, .cons _ _ _ _ (.int k z) .nil, by unfold HArg; rw [e]; exact ⟨z, rfl, hw⟩, by simp [Value.oneCell']⟩
    · rename_i e
      obtain ⟨s, rfl, rfl, hw⟩ := DataW.trod_string e h
      exact ⟨μ, H, [.string s], ⟨Sub.refl μ, hR, fun _ _ e => e⟩, .cons _ _ _ _ (.string s) .nil, by unfold HArg; rw [e]; exact ⟨s, rfl, hbk.elim (fun h => h ▸ hw) fun h => by simpa [bulk, Rows.uptoBulk] using Nat.le_trans (Nat.le_succ _) h⟩, by simp [Value.oneCell']⟩
    · rename_i e ht
      simp only [Bool.and_eq_true, decide_eq_true_eq] at hm
      obtain ⟨hpe, hce⟩ := hm
      rcases DataW.trod_slice ht h with ⟨rfl, rfl⟩ | ⟨a, len, cap, elems, rest, n', hn', rfl, rfl, hb, hl, hmx, hlen, hel, hsp, _⟩
      · refine ⟨μ, H, [.slice none 0 0], ⟨Sub.refl μ, hR, fun _ _ e => e⟩, .cons _ _ _ _ .nilSlice .nil, ?_, by simp [Value.oneCell']⟩
        unfold HArg; rw [ht]
        exact ⟨none, 0, 0, [], rfl, Nat.le_refl _, Nat.zero_le _, by simp, .inl ⟨rfl, rfl⟩, fun i hi => by omega⟩
      · have hnn : n' = n := by omega
        subst hnn
        rcases Nat.eq_zero_or_pos cap with hc0 | hcp
        · subst hc0
          have hl0 : len = 0 := by omega
          subst hl0
          refine ⟨μ, H, [.slice (some ⟨0, 0, none⟩) 0 0], ⟨Sub.refl μ, hR, fun _ _ e => e⟩, .cons _ _ _ _ (.void _ _ _) .nil, ?_, by simp [Value.oneCell']⟩
          unfold HArg; rw [ht]
          exact ⟨_, 0, 0, [], rfl, Nat.le_refl _, Nat.zero_le _, by simp, .inr ⟨0, rfl, fun h => absurd rfl h⟩, fun i hi => by omega⟩
        · -- some cell is there
          have hfirst : ∃ cs0, w.cells? 0 a (P.cellsOf e) = some cs0 := by
            by_cases hl0 : 0 < len
            · have h1 := hel 0 hl0
              simp only [Nat.zero_mul] at h1
              have h2 : elems[0]? = some elems[0] := List.getElem?_eq_getElem (by omega)
              rw [h2, Option.bind_eq_some_iff] at h1
              obtain ⟨cs0, h3, _⟩ := h1
              exact ⟨cs0, by simpa [Addr.add] using h3⟩
            · obtain ⟨k1, k2⟩ := hsp rfl
              have h1 := k2 0 (by omega)
              rw [show (len + 0) * P.cellsOf e = 0 by rw [show len + 0 = 0 by omega, Nat.zero_mul]] at h1
              have h2 : rest[0]? = some rest[0] := List.getElem?_eq_getElem (by omega)
              rw [h2, Option.bind_eq_some_iff] at h1
              obtain ⟨cs0, h3, _⟩ := h1
              exact ⟨cs0, by simpa [Addr.add] using h3⟩
          obtain ⟨cs0, hcs0⟩ := hfirst
          obtain ⟨_, q2, q3⟩ := World.cells?_some hcs0
          have hcell0 : ∃ v, w.cell? a = some v := by
            have := q3 0 hce
            rw [List.getElem?_eq_getElem (by omega)] at this
            exact ⟨_, by simpa [Addr.add] using this⟩
          obtain ⟨v0, hv0⟩ := hcell0
          obtain ⟨hspot, hblk⟩ : a.spot = none ∧ a.block < w.heap.size := by
            unfold World.cell? at hv0
            split at hv0
            · rename_i c _ _ hh
              refine ⟨?_, ?_⟩
              · cases hs : a.spot with
                | none => rfl
                | some s => rw [hs] at hv0; simp at hv0
              · exact (Array.getElem?_eq_some_iff.1 hh).1
            · cases hv0
          obtain ⟨ab, ao, asp⟩ := a
          simp only at hspot hblk
          subst hspot
          have each : ∀ i, i < len → ∃ cs1 y, w.cells? 0 ((⟨ab, ao, none⟩ : Addr).add (i * P.cellsOf e)) (P.cellsOf e) = some cs1 ∧ DataW.trod enc P w 0 (fun _ => true) true n' e cs1 = some y ∧ (L = maxLen ∨ bulk y.1 ≤ L) := by
            intro i hi
            have h1 := hel i hi
            have h2 : elems[i]? = some elems[i] := List.getElem?_eq_getElem (by omega)
            rw [h2, Option.bind_eq_some_iff] at h1
            obtain ⟨cs1, h3, h4⟩ := h1
            exact ⟨cs1, _, h3, h4, hbk.imp id fun h => Nat.le_trans (bulk_elem (List.mem_map.2 ⟨_, List.mem_of_getElem? h2, rfl⟩)) h⟩
          let cellsAt : Nat → List Value := fun i => (w.cells? 0 ((⟨ab, ao, none⟩ : Addr).add (i * P.cellsOf e)) (P.cellsOf e)).getD []
          have hca : ∀ i, i < len → (cellsAt i).length = P.cellsOf e ∧ (∀ j, j < P.cellsOf e → w.cell? ⟨ab, ao + i * P.cellsOf e + j, none⟩ = (cellsAt i)[j]?) ∧ Opens P L w n' e (cellsAt i) := by
            intro i hi
            obtain ⟨cs1, y, h1, h2, hbi⟩ := each i hi
            have hc : cellsAt i = cs1 := by simp only [cellsAt, h1, Option.getD_some]
            obtain ⟨_, k2, k3⟩ := World.cells?_some h1
            rw [hc]
            refine ⟨k2, fun j hj => ?_, ih m e cs1 y (K.slice hT ht) hpe h2 hbi⟩
            rw [← k3 j hj]
            congr 1
            simp only [Addr.add]
            split <;> split <;> simp_all <;> omega
          obtain ⟨μ1, H1, hp, g1, l1, k1⟩ := opens_list ((List.range len).map fun i => (e, cellsAt i)) (by
            intro p hp
            obtain ⟨i, hi, rfl⟩ := List.mem_map.1 hp
            exact (hca i (by simpa using hi)).2.2) μ H hR
          simp only [List.length_map, List.length_range] at l1
          have piece : ∀ i x, hp[i]? = some x → i < len ∧ VRels μ1 x (cellsAt i) ∧ HArg P L H1 n' e x ∧ (∀ v ∈ x, v.oneCell' = true) ∧ x.length = P.cellsOf e := by
            intro i x hx
            have hi : i < len := by have := (List.getElem?_eq_some_iff.1 hx).1; omega
            obtain ⟨p1, p2, p3⟩ := k1 i (e, cellsAt i) x (by simp [hi]) hx
            exact ⟨hi, p1, p2, p3, by have := p1.length; rw [(hca i hi).1] at this; omega⟩
          have hsum : ∀ j, j ≤ hp.length → ((hp.take j).map List.length).sum = j * P.cellsOf e := by
            intro j
            induction j with
            | zero => intro _; simp
            | succ j ihj =>
              intro hj
              rw [List.take_add_one, List.getElem?_eq_getElem (by omega)]
              simp only [Option.toList_some, List.map_append, List.map_cons, List.map_nil, List.sum_append, List.sum_cons, List.sum_nil]
              rw [ihj (by omega), (piece j hp[j] (List.getElem?_eq_getElem (by omega))).2.2.2.2, Nat.add_mul]; omega
          have hflen : hp.flatten.length = len * P.cellsOf e := by
            rw [List.length_flatten]
            have := hsum hp.length (Nat.le_refl _)
            rw [List.take_of_length_le (Nat.le_refl _), l1] at this
            exact this
          have hget : ∀ i (hi : i < len), (hp.flatten.drop (i * P.cellsOf e)).take (P.cellsOf e) = hp[i]'(by omega) := by
            intro i hi
            have h1 : hp[i]? = some (hp[i]'(by omega)) := List.getElem?_eq_getElem (by omega)
            have := unchop hp i _ h1
            rw [hsum i (by omega), (piece i _ h1).2.2.2.2] at this
            exact this
          have hview := g1.rel.view ⟨ab, ao, len * P.cellsOf e⟩ hp.flatten hblk (by simp only [hflen]; exact Nat.le_refl _) (by
            intro q v hq
            have hql : q < len * P.cellsOf e := by have := (List.getElem?_eq_some_iff.1 hq).1; omega
            have hdm := Nat.div_add_mod q (P.cellsOf e)
            have hmod := Nat.mod_lt q hce
            have hdiv : q / P.cellsOf e < len := (Nat.div_lt_iff_lt_mul hce).2 hql
            have h1 : hp[q / P.cellsOf e]? = some (hp[q / P.cellsOf e]'(by omega)) := List.getElem?_eq_getElem (by omega)
            obtain ⟨_, p1, p2, p3, p4⟩ := piece _ _ h1
            have h2 : (hp[q / P.cellsOf e]'(by omega))[q % P.cellsOf e]? = some v := by
              rw [← hget _ hdiv, List.getElem?_take, if_pos hmod, List.getElem?_drop, Nat.mul_comm, hdm]
              exact hq
            obtain ⟨v', hv', hrel⟩ := p1.get _ v h2
            refine ⟨p3 v (List.mem_of_getElem? h2), v', ?_, hrel⟩
            have := (hca _ hdiv).2.1 _ hmod
            rw [hv'] at this
            rw [← this]
            congr 2
            rw [Nat.add_assoc, Nat.mul_comm (q / P.cellsOf e), hdm])
          have hsub2 : Sub μ1 (μ1.add H1.next ⟨ab, ao, len * P.cellsOf e⟩) := Mu.sub_add g1.rel.fresh
          have hkeep2 : ∀ b o, H1.get b = some o → (H1.push (.cells hp.flatten false)).get b = some o := by
            intro b o hbo
            have := g1.rel.ok b o hbo
            rw [HHeap.get_push, if_neg (by omega)]; exact hbo
          refine ⟨μ1.add H1.next ⟨ab, ao, len * P.cellsOf e⟩, H1.push (.cells hp.flatten false), [.slice (some ⟨H1.next, 0, none⟩) len cap], g1.trans ⟨hsub2, hview, hkeep2⟩, ?_, ?_, by simp [Value.oneCell']⟩
          · exact .cons _ _ _ _ (VRel.slice H1.next 0 len cap ⟨ab, ao, len * P.cellsOf e⟩ (by simp [Mu.add]) hl) .nil
          · unfold HArg; rw [ht]
            refine ⟨_, len, cap, hp.flatten, rfl, hl, hmx, hflen, .inr ⟨H1.next, rfl, fun _ => by simp [HHeap.get_push]⟩, fun i hi => ?_⟩
            rw [hget i hi]
            exact HArg.mono hkeep2 _ _ _ (piece i _ (List.getElem?_eq_getElem (by omega))).2.2.1
    · rename_i fs ht
      obtain ⟨xs, n', hn', rfl, hcl, hxl, hfs⟩ := DataW.trod_struct ht h
      have hnn : n' = n := by omega
      subst hnn
      obtain ⟨kT, ksum, koff⟩ := K.struct hT ht
      rw [List.all_eq_true] at hm
      obtain ⟨μ1, H1, hp, g1, l1, k1⟩ := opens_list (fs.toList.map fun (f : Field) => (f.type, (cs.drop f.offset).take (P.cellsOf f.type))) (by
        intro p hp
        obtain ⟨f, hf, rfl⟩ := List.mem_map.1 hp
        obtain ⟨i, hi⟩ := List.getElem?_of_mem hf
        have h1 := hfs i f (by simpa using hi)
        have hil : i < xs.length := by have := (List.getElem?_eq_some_iff.1 hi).1; rw [hxl]; simpa using this
        rw [List.getElem?_eq_getElem hil] at h1
        exact ih m f.type _ _ (kT f hf) (hm f hf) h1 (hbk.imp id fun h => Nat.le_trans (bulk_part (List.mem_map.2 ⟨_, List.getElem_mem hil, rfl⟩)) h)) μ H hR
      simp only [List.length_map] at l1
      have hch := chop (fun f : Field => P.cellsOf f.type) (fun f => f.offset) cs fs.toList 0 (by simpa using koff)
      rw [List.drop_zero, ← ksum, ← hcl, List.take_length] at hch
      have hrel : VRels μ1 hp.flatten cs := by
        rw [← hch]
        refine VRels.flatten (by simp [l1]) (fun i x y hx hy => ?_)
        rw [List.getElem?_map, Option.map_eq_some_iff] at hy
        obtain ⟨f, hf, rfl⟩ := hy
        exact (k1 i _ x (by rw [List.getElem?_map, hf]; rfl) hx).1
      have hsz : ∀ (j : Nat) (f : Field), fs.toList[j]? = some f → ((cs.drop f.offset).take (P.cellsOf f.type)).length = P.cellsOf f.type := by
        intro j f hj
        have h1 := koff j f hj
        have h2 : ((fs.toList.take j).map fun f => P.cellsOf f.type).sum + P.cellsOf f.type ≤ cs.length := by
          rw [hcl, ksum]
          conv => rhs; rw [← List.take_append_drop j fs.toList]
          rw [List.map_append, List.sum_append]
          have : fs.toList.drop j = f :: fs.toList.drop (j + 1) := by
            have := (List.getElem?_eq_some_iff.1 hj)
            rw [List.drop_eq_getElem_cons this.1, this.2]
          rw [this, List.map_cons, List.sum_cons]; omega
        rw [List.length_take, List.length_drop]; omega
      have hlens : ∀ (j : Nat) (f : Field) (x : List Value), fs.toList[j]? = some f → hp[j]? = some x → x.length = P.cellsOf f.type := by
        intro j f x hj hx
        have := (k1 j _ x (by rw [List.getElem?_map, hj]; rfl) hx).1.length
        rw [hsz j f hj] at this; omega
      have hsums : ∀ j, j ≤ hp.length → ((hp.take j).map List.length).sum = ((fs.toList.take j).map fun f => P.cellsOf f.type).sum := by
        intro j
        induction j with
        | zero => intro _; simp
        | succ j ihj =>
          intro hj
          have e1 : hp[j]? = some (hp[j]'(by omega)) := List.getElem?_eq_getElem (by omega)
          have e2 : fs.toList[j]? = some (fs.toList[j]'(by omega)) := List.getElem?_eq_getElem (by omega)
          rw [List.take_add_one, List.take_add_one, e1, e2]
          simp only [Option.toList_some, List.map_append, List.map_cons, List.map_nil, List.sum_append, List.sum_cons, List.sum_nil]
          rw [ihj (by omega), hlens j _ _ e2 e1]
      refine ⟨μ1, H1, hp.flatten, g1, hrel, ?_, ?_⟩
      · unfold HArg; rw [ht]
        refine ⟨by have := hrel.length; omega, fun f hf => ?_⟩
        obtain ⟨j, hj⟩ := List.getElem?_of_mem hf
        have hjl : j < hp.length := by have := (List.getElem?_eq_some_iff.1 hj).1; omega
        have e1 : hp[j]? = some (hp[j]'hjl) := List.getElem?_eq_getElem hjl
        have := unchop hp j _ e1
        rw [hsums j (by omega), hlens j f _ hj e1] at this
        have ho := koff j f hj
        rw [← ho] at this
        rw [this]
        exact (k1 j _ _ (by rw [List.getElem?_map, hj]; rfl) e1).2.1
      · intro v hv
        obtain ⟨x, hx, hvx⟩ := List.mem_flatten.1 hv
        obtain ⟨j, hj⟩ := List.getElem?_of_mem hx
        have hjl : j < fs.toList.length := by have := (List.getElem?_eq_some_iff.1 hj).1; omega
        exact (k1 j _ x (by rw [List.getElem?_map, List.getElem?_eq_getElem hjl]; rfl) hj).2.2 v hvx
    · cases hm
end
end Go.HL
