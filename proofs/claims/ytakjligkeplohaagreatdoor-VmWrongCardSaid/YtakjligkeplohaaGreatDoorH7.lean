/-
  A high level over the model, part 7: appends, copies, maps, lengths and the rest.
-/
import Derived.Test.YtakjligkeplohaaGreatDoorH6
namespace Go.HL
set_option linter.unusedSimpArgs false
set_option linter.unusedVariables false
open Go.RowKit

variable {P : Program} {B : Nat} {μ : Mu} {H : HHeap} {w : World}

/-- The cells that are appended or copied, and how many elements they are. -/
def hsource (H : HHeap) (size : Nat) (x : Value) : Option (List Value × Nat) :=
  match x with
  | .slice none 0 0 => some ([], 0)
  | .slice (some ⟨b, o, s⟩) n _ =>
    if n = 0 then some ([], 0) else
    match H.get b with
    | some (.cells cs _) => if o + n * size ≤ cs.length then some ((cs.drop o).take (n * size), n) else none
    | _ => none
  | .string s => if size = 1 then some (s.data.toList.map (fun b => .int .u8 b.toNat), s.size) else none
  | _ => none

theorem sim_source (h : Rel B μ H w) {size : Nat} {x x' : Value} {vs : List Value} {n : Nat} (hl : hsource H size x = some (vs, n)) (hx : VRel μ x x') :
    (Builtin.lenOf x').run P w = .ok n w ∧ vs.length = n * size ∧ (∀ v ∈ vs, v.oneCell' = true) ∧
    ∃ vs', VRels μ vs vs' ∧ ∀ w' : World, (∀ a u, w.cell? a = some u → w'.cell? a = some u) → ∀ m, m = n → (Builtin.firstCells size m x').run P w' = .ok vs'.toArray w' := by
  unfold hsource at hl
  split at hl
  · cases hl; cases hx
    exact ⟨by simp [Builtin.lenOf], by simp, by simp, [], .nil, fun w' _ m hm => by subst hm; simp [Builtin.firstCells]⟩
  · rename_i b o s n' c
    split at hl
    · rename_i hn; cases hl; subst hn
      have : ∃ a c', x' = .slice (some a) 0 c' := by cases hx <;> exact ⟨_, _, rfl⟩
      obtain ⟨a, c', rfl⟩ := this
      exact ⟨by simp [Builtin.lenOf], by simp, by simp, [], .nil, fun w' _ m hm => by subst hm; simp [Builtin.firstCells, loadCells, loadCellsFrom]⟩
    · rename_i hn
      split at hl
      · rename_i cs rw' hb
        split at hl <;> cases hl
        rename_i hlen
        have key : ∀ (p : Place) (c' : Nat), μ b = some p → x' = .slice (some ⟨p.g, p.d + o, none⟩) n c' →
            (Builtin.lenOf x').run P w = .ok n w ∧ ((cs.drop o).take (n * size)).length = n * size ∧ (∀ v ∈ (cs.drop o).take (n * size), v.oneCell' = true) ∧
              ∃ vs', VRels μ ((cs.drop o).take (n * size)) vs' ∧ ∀ w' : World, (∀ a u, w.cell? a = some u → w'.cell? a = some u) → ∀ m, m = n → (Builtin.firstCells size m x').run P w' = .ok vs'.toArray w' := by
          intro p c' hp e
          subst e
          obtain ⟨vs', h1, h2, h3⟩ := h.cellsAt hb hp o (n * size) hlen
          obtain ⟨q, hq, _, hc, _⟩ := h.cells b cs rw' hb
          refine ⟨by simp [Builtin.lenOf], by simp; omega, fun v hv => ?_, vs', h1, fun w' hw m hm => ?_⟩
          · obtain ⟨i, hi⟩ := List.getElem?_of_mem hv
            rw [List.getElem?_take] at hi
            split at hi
            · rw [List.getElem?_drop] at hi; exact (hc _ v hi).1
            · cases hi
          · subst hm
            exact run_firstCells_some (P := P) w' size _ _ _ _ vs' h2 (fun j v e => hw _ _ (h3 j v e))
        cases hx with
        | slice _ _ _ _ p hp _ => exact key p _ hp rfl
        | grown _ _ _ _ _ _ p hp _ _ _ => exact key p _ hp rfl
        | hole => exact absurd rfl hn
        | void => exact absurd rfl hn
      · cases hl
  · rename_i s
    split at hl <;> cases hl
    rename_i hs
    subst hs
    cases hx
    refine ⟨by simp [Builtin.lenOf], by simp, ?_, _, .of_flat1 (vs := s.data.toList.map (fun b => .int .u8 b.toNat)) ?_, fun w' _ m hm => ?_⟩
    · intro v hv; obtain ⟨b, _, rfl⟩ := List.mem_map.1 hv; rfl
    · rw [List.all_eq_true]; intro v hv; obtain ⟨b, _, rfl⟩ := List.mem_map.1 hv; rfl
    · subst hm
      have hx : (Array.map (fun b : UInt8 => Value.int IntKind.u8 (b.toNat : Int)) s.data).extract 0 s.size = Array.map (fun b : UInt8 => Value.int IntKind.u8 (b.toNat : Int)) s.data := by
        have hs : s.size = (Array.map (fun b : UInt8 => Value.int IntKind.u8 (b.toNat : Int)) s.data).size := by rw [Array.size_map]; rfl
        rw [hs, Array.extract_size]
      simp [Builtin.firstCells]
      try rw [hx]
      apply Array.ext'; simp
  · cases hl

def isStr (P : Program) (t : TypeId) : Bool :=
  match P.underlying t with
  | some .string => true
  | some (.slice _) => true
  | _ => false

theorem isStr_spec {t : TypeId} (h : isStr P t = true) : P.underlying t = some .string ∨ ∃ e, P.underlying t = some (.slice e) := by
  unfold isStr at h
  split at h
  · exact .inl ‹_›
  · exact .inr ⟨_, ‹_›⟩
  · cases h

/-- append. -/
def happend (P : Program) (H : HHeap) (st xt : TypeId) (s x : Value) : Option (Value × HHeap) :=
  match P.underlying st with
  | some (.slice u) =>
    if isStr P xt then
    (helem P u).bind fun e => (hsource H e.size x).bind fun (vs, n) =>
    if 0 < e.size then
    match s with
    | .slice a len cap =>
      if n = 0 then some (s, H) else
      if (len + n) * e.bytes ≤ 1099511627776 ∧ len + n ≤ 1099511627776 then
      match a with
      | none => some (.slice (some ⟨H.next, 0, some (2 * e.size)⟩) n n, H.push (.cells vs true))
      | some ⟨b, o, k⟩ =>
        match H.get b with
        | some (.cells cs rw) =>
          if len + n ≤ cap then
            if rw ∧ o + (len + n) * e.size ≤ cs.length ∧ (k = none ∨ k = some (2 * e.size)) then
              some (.slice (some ⟨b, o, k⟩) (len + n) cap, H.set b (.cells (splice cs (o + len * e.size) vs) true)) else none
          else if o + len * e.size ≤ cs.length ∨ len = 0 then
            match k with
            | none => some (.slice (some ⟨H.next, 0, some (2 * e.size)⟩) (len + n) (len + n), H.push (.cells ((cs.drop o).take (len * e.size) ++ vs) true))
            | some k => if k / 2 = e.size ∧ rw then some (.slice (some ⟨H.next, 0, some (2 * e.size)⟩) (len + n) (len + n), (H.kill b).push (.cells ((cs.drop o).take (len * e.size) ++ vs) true)) else none
          else none
        | _ => none
      else none
    | _ => none
    else none
    else none
  | _ => none

set_option maxHeartbeats 1000000 in
theorem append_pre (h : Rel B μ H w) {st xt ty u : TypeId} {e : Elem} {x x' : Value} {vs : List Value} {n : Nat} (hu : P.underlying st = some (.slice u)) (hxs : isStr P xt = true) (he : helem P u = some e)
    (hsrc : hsource H e.size x = some (vs, n)) (hx : VRel μ x x') :
    ∃ vs', VRels μ vs vs' ∧ ∀ (a : Option Addr) (len cap : Nat),
      (len + n ≤ cap → (Builtin.append_ #[st, xt] ty #[.slice a len cap, x']).run P w =
        (match a with | some a => (storeCells (a.add (len * e.size)) vs').run P w | none => .ok () w).andThen fun _ w' => .ok (.slice a (len + n) cap) w') ∧
      (¬ len + n ≤ cap → (len + n) * e.bytes ≤ 1099511627776 → len + n ≤ 1099511627776 → ∀ olds' : List Value, (Builtin.firstCells e.size len (.slice a len cap)).run P w.drew = .ok olds'.toArray w.drew →
        (Builtin.append_ #[st, xt] ty #[.slice a len cap, x']).run P w =
          .ok (.slice (some ⟨w.heap.size, 0, none⟩) (len + n) (grownCap w (len + n) cap u))
            (w.drew.alloc (.cells (olds'.toArray ++ vs'.toArray ++ Builtin.zeroCells e.zero.toArray (grownCap w (len + n) cap u - (len + n))) u))) := by
  obtain ⟨i, z, hi, hz, hze, hsz, hby, hf, hzl⟩ := helem_spec he
  obtain ⟨hlen, _, _, vs', hv, hfc⟩ := sim_source (P := P) h hsrc hx
  have hza : z.cells = e.zero.toArray := by rw [← hze]
  refine ⟨vs', hv, fun a len cap => ⟨fun hroom => ?_, fun hno hb hm olds' holds => ?_⟩⟩
  · have hf := hfc w (fun _ _ e => e) n rfl
    rcases isStr_spec hxs with hd | ⟨_, hd⟩ <;> cases a <;>
      simp [Builtin.append_, run_underlying hu, run_underlying hd, sizeOf, typeInfo, hi, hlen, hroom, hsz, hf]
  · have hf := hfc w.drew (fun _ _ e => e) n rfl
    have h63 : ¬ (9223372036854775807 < ((len : Int) + (n : Int))) := by omega
    have h48 : ¬ (281474976710656 < Builtin.nextslicecap (len + n) cap * e.bytes) := by
      have := growslice_fits (need := len + n) (old := cap) (bytes := e.bytes) (by omega) (by omega); omega
    rcases isStr_spec hxs with hd | ⟨_, hd⟩ <;>
      simp [Builtin.append_, run_underlying hu, run_underlying hd, sizeOf, typeInfo, hi, hlen, hno, hsz, hf, zeroValue, hz, h63, h48, hby, Question.forced, holds, newRow, grownCap, hza]
    all_goals (congr 2; apply Array.ext'; simp [List.append_assoc])

set_option maxHeartbeats 1000000 in
theorem sim_append (h : Rel B μ H w) {st xt ty : TypeId} {s s' x x' v : Value} {H' : HHeap} (hl : happend P H st xt s x = some (v, H')) (hs : VRel μ s s') (hx : VRel μ x x') :
    ∃ μ' w' v', (Builtin.append_ #[st, xt] ty #[s', x']).run P w = .ok v' w' ∧ Step B μ H w μ' H' w' ∧ VRel μ' v v' := by
  unfold happend at hl
  split at hl
  case h_2 => cases hl
  rename_i u hu
  split at hl
  case isFalse => cases hl
  rename_i hxs
  simp only [Option.bind_eq_some_iff] at hl
  obtain ⟨e, he, ⟨vs, n⟩, hsrc, hl⟩ := hl
  obtain ⟨_, hvl, hv1, _⟩ := sim_source (P := P) h hsrc hx
  obtain ⟨vs', hv, hap⟩ := append_pre (ty := ty) h hu hxs he hsrc hx
  obtain ⟨i, z, hi, hz, hze, hsz, hby, hf, hzl⟩ := helem_spec he
  split at hl
  case isFalse => cases hl
  rename_i hpos
  split at hl
  case h_2 => cases hl
  rename_i a len cap
  -- what a new array comes to
  have fresh : ∀ (H1 : HHeap) (olds olds' : List Value) (cap' len' : Nat), H1.next = H.next → Rel B μ H1 w → VRels μ olds olds' → (∀ v ∈ olds, v.oneCell' = true) → olds.length = len' * e.size →
      ∃ μ', Step B μ H1 w μ' (H1.push (.cells (olds ++ vs) true)) (w.drew.alloc (.cells (olds'.toArray ++ vs'.toArray ++ Builtin.zeroCells e.zero.toArray (grownCap w (len' + n) cap' u - (len' + n))) u)) ∧
        VRel μ' (.slice (some ⟨H.next, 0, some (2 * e.size)⟩) (len' + n) (len' + n)) (.slice (some ⟨w.heap.size, 0, none⟩) (len' + n) (grownCap w (len' + n) cap' u)) := by
    intro H1 olds olds' cap' len' hn hR ho ho1 hol
    have r2 := hR.drew.allocCells (olds ++ vs) (olds'.toArray ++ vs'.toArray ++ Builtin.zeroCells e.zero.toArray (grownCap w (len' + n) cap' u - (len' + n))) u
      (by
        have hle := (ho.append hv).length
        simp only [Array.toList_append]
        rw [← hle, List.take_left]
        exact ho.append hv)
      (fun v hv => (List.mem_append.1 hv).elim (ho1 v) (hv1 v))
    refine ⟨_, (Step.drew hR).trans r2, ?_⟩
    rw [← hn]
    have hge := grownCap_ge w (len' + n) cap' u
    refine .grown _ _ _ _ _ _ ⟨w.drew.heap.size, 0, (olds'.toArray ++ vs'.toArray ++ Builtin.zeroCells e.zero.toArray (grownCap w (len' + n) cap' u - (len' + n))).size⟩ (by simp [Mu.add]) (Nat.le_refl _) hge ?_
    have h1 := ho.length
    have h2 := hv.length
    simp only [Array.size_append, List.size_toArray, size_zeroCells]
    rw [h1, h2, hol, hvl, hzl, ← Nat.add_mul, ← Nat.add_mul]
    rw [show len' + n + (grownCap w (len' + n) cap' u - (len' + n)) = grownCap w (len' + n) cap' u by omega]
    omega
  split at hl
  · -- nothing is appended
    rename_i hn
    cases hl
    subst hn
    have hnil : vs' = [] := by
      have := hv.length; rw [hvl] at this; simp at this; exact List.eq_nil_of_length_eq_zero (by simpa using this)
    subst hnil
    have key : ∀ (a' : Option Addr) (cap' : Nat), len ≤ cap' → s' = .slice a' len cap' → (Builtin.append_ #[st, xt] ty #[s', x']).run P w = .ok s' w := by
      intro a' cap' hle e'
      subst e'
      rw [(hap a' len cap').1 (by omega)]
      cases a' <;> simp [storeCells]
    refine ⟨μ, w, s', ?_, Step.refl h, hs⟩
    cases hs with
    | nilSlice => exact key _ _ (Nat.le_refl _) rfl
    | slice _ _ _ _ p hp hlc => exact key _ _ hlc rfl
    | grown _ _ _ _ _ _ p hp hlc hcc _ => exact key _ _ (by omega) rfl
    | hole _ _ _ _ _ p hp _ => exact key _ _ (by omega) rfl
    | void _ _ _ => exact key _ _ (by omega) rfl
  rename_i hn
  split at hl
  case isFalse => cases hl
  rename_i hbd
  obtain ⟨hb1, hb2⟩ := hbd
  split at hl
  · -- a nil slice
    cases hl
    cases hs with
    | nilSlice =>
    obtain ⟨μ', r2, r5⟩ := fresh H [] [] 0 0 rfl h .nil (by simp) (by simp)
    have hrun := (hap none 0 0).2 (by omega) hb1 hb2 [] (by simp [Builtin.firstCells])
    simp only [Nat.zero_add] at hrun r2 r5
    exact ⟨μ', _, _, hrun, by simpa using r2, r5⟩
  · rename_i b o k
    split at hl
    case h_2 => cases hl
    rename_i cs rw' hb
    obtain ⟨pb, hpb, hextb, hcb, hwb, hrb⟩ := h.cells b cs rw' hb
    split at hl
    · -- in place
      rename_i hroom
      split at hl <;> cases hl
      rename_i hc
      obtain ⟨hrw, hfit, hk⟩ := hc
      subst hrw
      have hfit' : o + len * e.size + vs.length ≤ cs.length := by have h1 := Nat.add_mul len n e.size; rw [h1] at hfit; rw [hvl]; omega
      have hrunS := h.run_store P hb hpb (o + len * e.size) vs vs' hv hv1 (by omega)
      have q1 := h.store hb hpb (o + len * e.size) vs vs' hv hv1 hfit'
      have key : ∀ cap', cap ≤ cap' → s' = .slice (some ⟨pb.g, pb.d + o, none⟩) len cap' → (Builtin.append_ #[st, xt] ty #[s', x']).run P w = .ok (.slice (some ⟨pb.g, pb.d + o, none⟩) (len + n) cap') (putCells w pb.g (pb.d + (o + len * e.size)) vs') := by
        intro cap' hcc e'
        subst e'
        rw [(hap _ len cap').1 (by omega)]
        simp only [add_cell]
        rw [Nat.add_assoc pb.d o, hrunS]; rfl
      cases hs with
      | slice _ _ _ _ p hp hlc =>
        rw [hpb] at hp; cases hp
        exact ⟨μ, _, _, key _ (Nat.le_refl _) rfl, q1, .slice _ _ _ _ _ hpb hroom⟩
      | grown _ _ _ _ cap' e' p hp hlc hcc hx' =>
        rw [hpb] at hp; cases hp
        exact ⟨μ, _, _, key _ hcc rfl, q1, .grown _ _ _ _ _ _ _ hpb hroom hcc hx'⟩
      | hole => omega
      | void => omega
    · rename_i hroom
      split at hl
      case isFalse => cases hl
      rename_i hold
      have oldcells : ∀ (p : Place), μ b = some p → ∃ olds', VRels μ ((cs.drop o).take (len * e.size)) olds' ∧ ((cs.drop o).take (len * e.size)).length = len * e.size ∧
          ∀ o2 cap', (len = 0 ∨ o2 = o) → (Builtin.firstCells e.size len (.slice (some ⟨p.g, p.d + o2, none⟩) len cap')).run P w.drew = .ok olds'.toArray w.drew := by
        intro p hp
        rcases Nat.eq_zero_or_pos len with hl0 | hlp
        · subst hl0
          exact ⟨[], by simpa using VRels.nil, by simp, fun o2 cap' _ => by simp [Builtin.firstCells, loadCells, loadCellsFrom]⟩
        · have hfit : o + len * e.size ≤ cs.length := by rcases hold with hh | hh <;> omega
          obtain ⟨olds', h1, h2, h3⟩ := h.cellsAt hb hp o (len * e.size) hfit
          refine ⟨olds', h1, by simp; omega, fun o2 cap' ho => ?_⟩
          have : o2 = o := by omega
          subst this
          exact run_firstCells_some (P := P) w.drew e.size len _ len cap' olds' h2 (by simpa using h3)
      have olds1 : ∀ v ∈ (cs.drop o).take (len * e.size), v.oneCell' = true := fun v hv => by
        obtain ⟨i, hi⟩ := List.getElem?_of_mem hv
        rw [List.getElem?_take] at hi
        split at hi
        · rw [List.getElem?_drop] at hi; exact (hcb _ v hi).1
        · cases hi
      obtain ⟨olds', ho1, ho2, ho3⟩ := oldcells pb hpb
      split at hl
      · -- of a known capacity
        cases hl
        cases hs with
        | slice _ _ _ _ p hp hlc =>
          rw [hpb] at hp; cases hp
          obtain ⟨μ', r2, r5⟩ := fresh H _ olds' cap len rfl h ho1 olds1 ho2
          have hrun := (hap (some ⟨pb.g, pb.d + o, none⟩) len cap).2 hroom hb1 hb2 olds' (ho3 o cap (.inr rfl))
          exact ⟨μ', _, _, hrun, r2, r5⟩
        | void _ _ ad =>
          obtain ⟨μ', r2, r5⟩ := fresh H _ olds' 0 0 rfl h ho1 olds1 ho2
          have hrun := (hap (some ad) 0 0).2 hroom hb1 hb2 olds' (by
            have hl := ho1.length; simp at hl; subst hl
            simp [Builtin.firstCells, loadCells, loadCellsFrom])
          exact ⟨μ', _, _, hrun, r2, r5⟩
      · rename_i k
        split at hl <;> cases hl
        rename_i hkk
        obtain ⟨hk2, hrw⟩ := hkk
        subst hrw
        have grown_case : ∀ (o2 cap' : Nat), (len = 0 ∨ o2 = o) → o2 + cap' * e.size ≤ pb.ext → s' = .slice (some ⟨pb.g, pb.d + o2, none⟩) len cap' →
            ∃ μ' w' v', (Builtin.append_ #[st, xt] ty #[s', x']).run P w = .ok v' w' ∧ Step B μ H w μ' ((H.kill b).push (.cells ((cs.drop o).take (len * e.size) ++ vs) true)) w' ∧
              VRel μ' (.slice (some ⟨H.next, 0, some (2 * e.size)⟩) (len + n) (len + n)) v' := by
          intro o2 cap' ho hext e'
          subst e'
          by_cases hr : len + n ≤ cap'
          · have hmul : (len + n) * e.size ≤ cap' * e.size := Nat.mul_le_mul_right _ hr
            rw [Nat.add_mul] at hmul
            have hcs : (cs.drop o).take (len * e.size) = (cs.drop o2).take (len * e.size) := by
              rcases ho with hh | hh
              · subst hh; simp
              · subst hh; rfl
            have g1 := h.growIn hb hpb o2 (len * e.size) vs vs' hv hv1 (by
                rcases Nat.eq_zero_or_pos len with hl0 | hlp
                · left; subst hl0; simp
                · right
                  have : o2 = o := by omega
                  subst this
                  rcases hold with hh | hh <;> omega) (by rw [hvl]; omega)
            rw [hcs]
            refine ⟨_, _, _, ?_, g1, .grown H.next 0 (len + n) (len + n) cap' e.size ⟨pb.g, pb.d + o2, pb.ext - o2⟩ (by simp [Mu.add]) (Nat.le_refl _) hr (by simp; omega)⟩
            rw [(hap _ len cap').1 hr]
            have hrunS := h.run_store P hb hpb (o2 + len * e.size) vs vs' hv hv1 (by rw [hvl]; omega)
            simp only [add_cell]
            rw [Nat.add_assoc pb.d o2, hrunS]; rfl
          · obtain ⟨μ', r2, r5⟩ := fresh (H.kill b) _ olds' cap' len rfl (h.kill b) ho1 olds1 ho2
            have hrun := (hap (some ⟨pb.g, pb.d + o2, none⟩) len cap').2 hr hb1 hb2 olds' (ho3 o2 cap' ho)
            exact ⟨μ', _, _, hrun, (Step.kill h b).trans r2, r5⟩
        cases hs with
        | grown _ _ _ _ cap' e' p hp hlc hcc hx' =>
          rw [hpb] at hp; cases hp
          have : e' = e.size := by omega
          subst this
          exact grown_case o cap' (.inr rfl) hx' rfl
        | hole _ _ o2 cap' e' p hp hx' =>
          rw [hpb] at hp; cases hp
          have : e' = e.size := by omega
          subst this
          exact grown_case o2 cap' (.inl rfl) hx' rfl

end Go.HL
