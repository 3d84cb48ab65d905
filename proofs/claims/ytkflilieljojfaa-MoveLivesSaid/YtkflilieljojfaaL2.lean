/-
  Joined: H8, H9, H10, H11, H12, H13, H14.
-/
import Derived.Test.YtkflilieljojfaaL1
import Derived.Orders
/-
  A high level over the model, part 8: copies, maps, lengths; and all operations under one name.
-/
namespace Go.HL
set_option linter.unusedSimpArgs false
set_option linter.unusedVariables false
open Go.RowKit

variable {P : Program} {B : Nat} {μ : Mu} {H : HHeap} {w : World}

/-- copy. -/
def hcopy (P : Program) (H : HHeap) (dt : TypeId) (d x : Value) : Option (Value × HHeap) :=
  match P.underlying dt with
  | some (.slice u) => (helem P u).bind fun e =>
    match d with
    | .slice none 0 0 => (hsource H e.size x).map fun _ => (.int .i64 0, H)
    | .slice (some ⟨b, o, _⟩) len _ =>
      (hsource H e.size x).bind fun (vs, n) =>
      if min n len = 0 then some (.int .i64 0, H) else
      match H.get b with
      | some (.cells cs true) =>
        if o + min n len * e.size ≤ cs.length ∧ min n len * e.size ≤ vs.length then some (.int .i64 (min n len : Nat), H.set b (.cells (splice cs o (vs.take (min n len * e.size))) true)) else none
      | _ => none
    | _ => none
  | _ => none

theorem hsource_min {size : Nat} {x x' : Value} {vs : List Value} {n : Nat} (h : Rel B μ H w) (hl : hsource H size x = some (vs, n)) (hx : VRel μ x x') (m : Nat) (hm : m ≤ n) :
    ∃ vs', VRels μ (vs.take (m * size)) vs' ∧ (Builtin.firstCells size m x').run P w = .ok vs'.toArray w := by
  unfold hsource at hl
  split at hl
  · cases hl; cases hx
    have : m = 0 := by omega
    subst this
    exact ⟨[], by simpa using VRels.nil, by simp [Builtin.firstCells]⟩
  · rename_i b o s n' c
    split at hl
    · rename_i hn; cases hl; subst hn
      have : m = 0 := by omega
      subst this
      have : ∃ a c', x' = .slice (some a) 0 c' := by cases hx <;> exact ⟨_, _, rfl⟩
      obtain ⟨a, c', rfl⟩ := this
      exact ⟨[], by simpa using VRels.nil, by simp [Builtin.firstCells, loadCells, loadCellsFrom]⟩
    · rename_i hn
      split at hl
      · rename_i cs rw' hb
        split at hl <;> cases hl
        rename_i hlen
        have hmn : m * size ≤ n * size := Nat.mul_le_mul_right _ hm
        have key : ∀ (p : Place) (c' : Nat), μ b = some p → ∃ vs', VRels μ (((cs.drop o).take (n * size)).take (m * size)) vs' ∧ (Builtin.firstCells size m (.slice (some ⟨p.g, p.d + o, none⟩) n c')).run P w = .ok vs'.toArray w := by
          intro p c' hp
          obtain ⟨vs', h1, h2, h3⟩ := h.cellsAt hb hp o (m * size) (by omega)
          refine ⟨vs', ?_, run_firstCells_some (P := P) w size _ _ _ _ vs' h2 h3⟩
          rw [List.take_take, Nat.min_eq_left hmn]; exact h1
        cases hx with
        | slice _ _ _ _ p hp _ => exact key p _ hp
        | grown _ _ _ _ _ _ p hp _ _ _ => exact key p _ hp
        | hole => exact absurd rfl hn
        | void => exact absurd rfl hn
      · cases hl
  · rename_i s
    split at hl <;> cases hl
    rename_i hs
    subst hs
    cases hx
    refine ⟨_, .of_flat1 (vs := (s.data.toList.map (fun b => Value.int .u8 b.toNat)).take (m * 1)) ?_, ?_⟩
    · rw [List.all_eq_true]; intro v hv
      obtain ⟨b, _, rfl⟩ := List.mem_map.1 (List.mem_of_mem_take hv); rfl
    · simp [Builtin.firstCells]
      apply Array.ext'; simp
  · cases hl

theorem sim_copy (h : Rel B μ H w) {dt ty : TypeId} {ts : Array TypeId} {d d' x x' v : Value} {H' : HHeap} (hts : ts[0]? = some dt) (hl : hcopy P H dt d x = some (v, H')) (hd : VRel μ d d') (hx : VRel μ x x') :
    ∃ μ' w' v', (Builtin.copy_ ts ty #[d', x']).run P w = .ok v' w' ∧ Step B μ H w μ' H' w' ∧ VRel μ' v v' := by
  unfold hcopy at hl
  split at hl
  case h_2 => cases hl
  rename_i u hu
  simp only [Option.bind_eq_some_iff] at hl
  obtain ⟨e, he, hl⟩ := hl
  obtain ⟨i, z, hi, hz, hze, hsz, hby, hf, hzl⟩ := helem_spec he
  split at hl
  · simp only [Option.map_eq_some_iff] at hl
    obtain ⟨⟨vs, n⟩, hsrc, hl⟩ := hl
    cases hl; cases hd
    obtain ⟨h1, _, _, _⟩ := sim_source (P := P) h hsrc hx
    obtain ⟨vs', h2, h3⟩ := hsource_min (P := P) h hsrc hx 0 (Nat.zero_le _)
    refine ⟨μ, w, .int .i64 0, ?_, Step.refl h, .int _ _⟩
    simp [Builtin.copy_, hts, run_underlying hu, h1, sizeOf, typeInfo, hi, hsz, h3, goInt]
  · rename_i b o s len cap
    simp only [Option.bind_eq_some_iff] at hl
    obtain ⟨⟨vs, n⟩, hsrc, hl⟩ := hl
    dsimp only at hl
    obtain ⟨h1, hvl, hv1, _⟩ := sim_source (P := P) h hsrc hx
    obtain ⟨vs', h2, h3⟩ := hsource_min (P := P) h hsrc hx (min n len) (Nat.min_le_left _ _)
    have hds : (∃ p o2 cap', μ b = some p ∧ d' = .slice (some ⟨p.g, p.d + o2, none⟩) len cap' ∧ (len ≠ 0 → o2 = o)) ∨ (len = 0 ∧ ∃ ad, d' = .slice (some ad) 0 0) := by
      cases hd with
      | slice _ _ _ _ p hp _ => exact .inl ⟨p, o, _, hp, rfl, fun _ => rfl⟩
      | grown _ _ _ _ _ _ p hp _ _ _ => exact .inl ⟨p, o, _, hp, rfl, fun _ => rfl⟩
      | hole _ _ o2 _ _ p hp _ => exact .inl ⟨p, o2, _, hp, rfl, fun hh => absurd rfl hh⟩
      | void _ _ ad => exact .inr ⟨rfl, ad, rfl⟩
    rcases hds with hds | ⟨hl0, ad, rfl⟩
    case inr =>
      subst hl0
      have hz0 : min n 0 = 0 := Nat.min_zero n
      rw [hz0] at h2 h3 hl
      simp only [if_true] at hl
      cases hl
      have : vs' = [] := by have := h2.length; simp at this; exact this
      subst this
      refine ⟨μ, w, .int .i64 0, ?_, Step.refl h, .int _ _⟩
      have hm : Nat.min n 0 = 0 := hz0
      simp [Builtin.copy_, hts, run_underlying hu, h1, sizeOf, typeInfo, hi, hsz, h3, goInt, storeCells]
    obtain ⟨p, o2, cap', hp, rfl, ho⟩ := hds
    split at hl
    · rename_i hz0
      cases hl
      rw [hz0] at h2 h3
      have : vs' = [] := by have := h2.length; simp at this; exact this
      subst this
      refine ⟨μ, w, .int .i64 0, ?_, Step.refl h, .int _ _⟩
      have hm : Nat.min n len = 0 := hz0
      simp [Builtin.copy_, hts, run_underlying hu, h1, sizeOf, typeInfo, hi, hsz, h3, goInt, hm, storeCells]
    · rename_i hz0
      split at hl
      · rename_i cs hb
        split at hl <;> cases hl
        rename_i hc
        have hlen0 : len ≠ 0 := by intro e; subst e; simp at hz0
        have := ho hlen0
        subst this
        have hlt : (vs.take (min n len * e.size)).length = min n len * e.size := by simp; omega
        have hq := h.cells b cs true hb
        obtain ⟨q, hq, hl', _⟩ := hq
        rw [hp] at hq; cases hq
        have hv1' : ∀ v ∈ vs.take (min n len * e.size), v.oneCell' = true := fun v hv => hv1 v (List.mem_of_mem_take hv)
        have hrun := h.run_store P hb hp o2 _ _ h2 hv1' (by omega)
        refine ⟨μ, _, _, ?_, h.store hb hp o2 _ _ h2 hv1' (by omega), .int _ _⟩
        have hm : Nat.min n len = min n len := rfl
        simp [Builtin.copy_, hts, run_underlying hu, h1, sizeOf, typeInfo, hi, hsz, hm, h3, hrun, goInt]
      · cases hl
  · cases hl

/-- Are two keys the same? -/
def keyEq : Value → Value → Bool
  | .int _ a, .int _ b => a == b
  | .string a, .string b => a == b
  | .bool a, .bool b => a == b
  | _, _ => false

/-- A key that can be looked for at once: a whole number, a string, a bool. -/
def plainKey (P : Program) (t : TypeId) (k : Value) : Bool :=
  match P.underlying t, k with
  | some (.int k'), .int k'' _ => k' == k''
  | some .string, .string _ => true
  | some .bool, .bool _ => true
  | _, _ => false

/-- The place of a key among a map's entries, and what it holds. -/
def hfind (k : Value) : List (Value × Value) → Option (Nat × Value)
  | [] => none
  | (k', v) :: es => if keyEq k k' then some (0, v) else (hfind k es).map fun r => (r.1 + 1, r.2)

theorem sameNow_of {t : TypeId} {d : TypeDesc} (hd : P.underlying t = some d) {k k' : Value} (h : plainKey P t k = true) (h' : plainKey P t k' = true) : Instr.sameNow d k k' = some (keyEq k k') := by
  unfold plainKey at h h'
  rw [hd] at h h'
  cases d <;> cases k <;> simp at h <;> cases k' <;> simp at h' <;> simp [Instr.sameNow, keyEq]
  subst h; simpa using h'

theorem findNow_of {t : TypeId} {d : TypeDesc} (hd : P.underlying t = some d) {k : Value} (h : plainKey P t k = true) : ∀ {es : List (Value × Value)} {es' : List MapEntry} (i : Nat), ERels μ es es' → es.all (fun e => plainKey P t e.1) = true →
    ∃ r, Instr.findNow d k es' i = some r ∧ (hfind k es = none → r = none) ∧ (∀ j v, hfind k es = some (j, v) → ∃ v', r = some (i + j, v') ∧ VRel μ v v' ∧ ∃ e, es'[j]? = some e ∧ keyEq k e.key = true)
  | _, _, i, .nil, _ => ⟨none, rfl, fun _ => rfl, fun j v e => by simp [hfind] at e⟩
  | _, _, i, .cons k' v e es es' hk hf hv hs, ha => by
    simp only [List.all_cons, Bool.and_eq_true] at ha
    subst hk
    have hsame := sameNow_of hd h ha.1
    simp only [Instr.findNow, hsame, hfind]
    by_cases hkk : keyEq k e.key = true
    · simp only [hkk, if_true]
      refine ⟨_, rfl, fun hh => by simp at hh, fun j u hh => ?_⟩
      simp at hh; obtain ⟨rfl, rfl⟩ := hh
      exact ⟨_, rfl, hv, e, by simp, hkk⟩
    · have hkf : keyEq k e.key = false := by simpa using hkk
      obtain ⟨r, h1, h2, h3⟩ := findNow_of hd h (i + 1) hs ha.2
      simp only [hkf]
      refine ⟨r, h1, fun hh => h2 (by simpa using hh), fun j u hh => ?_⟩
      simp only [Bool.false_eq_true, if_false, Option.map_eq_some_iff] at hh
      obtain ⟨⟨j', u'⟩, hh, he⟩ := hh
      simp at he; obtain ⟨rfl, rfl⟩ := he
      obtain ⟨v', e1, e2, e3⟩ := h3 j' u' hh
      exact ⟨v', by rw [e1]; simp; omega, e2, by simpa using e3⟩

theorem run_checkKey {b : Bool} {t : TypeId} {k : Value} (h : plainKey P t k = true) (n : Nat) (w : World) : (Instr.checkKey b (n + 1) t k).run P w = .ok () w := by
  unfold plainKey at h
  split at h
  · simp [Instr.checkKey, run_underlying ‹P.underlying t = _›]
  · simp [Instr.checkKey, run_underlying ‹P.underlying t = _›]
  · simp [Instr.checkKey, run_underlying ‹P.underlying t = _›]
  · cases h

theorem plainKey_desc {t : TypeId} {k : Value} (h : plainKey P t k = true) : ∃ d, P.underlying t = some d := by
  unfold plainKey at h
  split at h <;> first | exact ⟨_, ‹_›⟩ | cases h

theorem plainKey_flat {t : TypeId} {k : Value} (h : plainKey P t k = true) : flat1 k = true := by
  unfold plainKey at h
  split at h <;> first | rfl | cases h

def hzero (P : Program) (t : TypeId) : Option Value :=
  match P.info? t with
  | some i => match i.zero with
    | some z => if flat z then some z else none
    | none => none
  | none => none

theorem run_hzero {t : TypeId} {z : Value} (h : hzero P t = some z) (w : World) : (zeroValue t).run P w = .ok z w ∧ VRel μ z z := by
  unfold hzero at h
  split at h
  · rename_i i hi
    split at h
    · rename_i z hz
      split at h <;> cases h
      exact ⟨by simp [zeroValue, typeInfo, hi, hz], .of_flat ‹_›⟩
    · cases h
  · cases h

def hentries (H : HHeap) (m : Value) : Option (List (Value × Value)) :=
  match m with
  | .map none => some []
  | .map (some b) => match H.get b with
    | some (.map es) => some es
    | _ => none
  | _ => none

def hlookup (P : Program) (H : HHeap) (t : TypeId) (m k : Value) (ok : Bool) : Option Value :=
  match P.underlying t with
  | some (.map kt et) =>
    (hentries H m).bind fun es =>
    if plainKey P kt k ∧ es.all (fun e => plainKey P kt e.1) then
      match hfind k es with
      | some (_, v) => some (if ok then .tuple #[v, .bool true] else v)
      | none => (hzero P et).map fun z => if ok then .tuple #[z, .bool false] else z
    else none
  | _ => none

theorem sim_lookup (h : Rel B μ H w) {t : TypeId} {m m' k v : Value} {ok : Bool} (hl : hlookup P H t m k ok = some v) (hm : VRel μ m m') :
    ∃ v', (Instr.lookup t m' k ok).run P w = .ok v' w ∧ VRel μ v v' := by
  unfold hlookup at hl
  split at hl
  case h_2 => cases hl
  rename_i kt et ht
  simp only [Option.bind_eq_some_iff] at hl
  obtain ⟨es, hes, hl⟩ := hl
  split at hl
  case isFalse => cases hl
  rename_i hc
  obtain ⟨d, hd⟩ := plainKey_desc hc.1
  have fin : ∀ (es' : Array MapEntry), ERels μ es es'.toList → ∃ v', (do
      Instr.checkKey es'.isEmpty 10000 kt k
      let (v, ok') ← match ← Instr.findKey kt k es'.toList with
        | some (_, v) => pure (v, true)
        | none => pure (← zeroValue et, false)
      pure (if ok then Value.tuple #[v, .bool ok'] else v) : Sem Value).run P w = .ok v' w ∧ VRel μ v v' := by
    intro es' he
    obtain ⟨r, h1, h2, h3⟩ := findNow_of (P := P) hd hc.1 0 he hc.2
    have hck := run_checkKey (P := P) (b := es'.isEmpty) hc.1 9999 w
    split at hl
    · rename_i j u hf
      cases hl
      obtain ⟨v', e1, e2, _⟩ := h3 j u hf
      subst e1
      cases ok
      · exact ⟨v', by simp [hck, Instr.findKey, run_underlying hd, h1], e2⟩
      · exact ⟨.tuple #[v', .bool true], by simp [hck, Instr.findKey, run_underlying hd, h1], .tuple [_, _] [_, _] (.cons _ _ _ _ e2 (.cons _ _ _ _ (.bool _) .nil))⟩
    · rename_i hf
      simp only [Option.map_eq_some_iff] at hl
      obtain ⟨z, hz, hl⟩ := hl
      have := h2 hf
      subst this
      obtain ⟨z1, z2⟩ := run_hzero (μ := μ) hz w
      cases ok
      · simp at hl; subst hl
        exact ⟨_, by simp [hck, Instr.findKey, run_underlying hd, h1, z1], z2⟩
      · simp at hl; subst hl
        exact ⟨.tuple #[_, .bool false], by simp [hck, Instr.findKey, run_underlying hd, h1, z1], .tuple [_, _] [_, _] (.cons _ _ _ _ z2 (.cons _ _ _ _ (.bool _) .nil))⟩
  unfold hentries at hes
  split at hes
  · cases hes; cases hm
    obtain ⟨v', f1, f2⟩ := fin #[] .nil
    refine ⟨v', ?_, f2⟩
    simp only [Instr.lookup, Sem.run_bind, run_underlying ht, Result.andThen_ok, Sem.run_pure] at f1 ⊢
    exact f1
  · rename_i b
    split at hes <;> cases hes
    rename_i hb
    cases hm with
    | map _ p hp =>
    obtain ⟨q, clock, es', hq, _, hh, he⟩ := h.maps b _ hb
    rw [hp] at hq; cases hq
    obtain ⟨v', f1, f2⟩ := fin es' he
    refine ⟨v', ?_, f2⟩
    have hgo : (getObj p.g).run P w = .ok (.map es' clock) w := by simp [getObj, Sem.run, hh]
    simp only [Instr.lookup, Sem.run_bind, run_underlying ht, Result.andThen_ok, Sem.run_pure, hgo] at f1 ⊢
    exact f1
  · cases hes

def hmapUpdate (P : Program) (H : HHeap) (t : TypeId) (m k x : Value) : Option HHeap :=
  match P.underlying t, m with
  | some (.map kt _), .map (some b) =>
    match H.get b with
    | some (.map es) =>
      if plainKey P kt k ∧ es.all (fun e => plainKey P kt e.1) then
        match hfind k es with
        | some (j, _) => some (H.set b (.map (es.set j (k, x))))
        | none => some (H.set b (.map (es ++ [(k, x)])))
      else none
    | _ => none
  | _, _ => none

theorem ERels.append : ∀ {a b : List (Value × Value)} {a' b' : List MapEntry}, ERels μ a a' → ERels μ b b' → ERels μ (a ++ b) (a' ++ b')
  | _, _, _, _, .nil, h => h
  | _, _, _, _, .cons k v e es es' hk hf hv hs, h => .cons k v e _ _ hk hf hv (hs.append h)

theorem ERels.set : ∀ {a : List (Value × Value)} {a' : List MapEntry} (j : Nat) (k v : Value) (f : MapEntry → MapEntry), ERels μ a a' → (∀ e, (f e).key = k) → (∀ e, VRel μ v (f e).val) → flat1 k = true → ERels μ (a.set j (k, v)) (a'.modify j f)
  | _, _, _, _, _, _, .nil, _, _, _ => by simpa using ERels.nil
  | _, _, 0, k, v, f, .cons k0 v0 e es es' hk hf hv hs, h1, h2, h3 => by
    simp only [List.set_cons_zero, List.modify_zero_cons]
    exact .cons k v (f e) _ _ (h1 e) h3 (h2 e) hs
  | _, _, j + 1, k, v, f, .cons k0 v0 e es es' hk hf hv hs, h1, h2, h3 => by
    simp only [List.set_cons_succ, List.modify_succ_cons]
    exact .cons k0 v0 e _ _ hk hf hv (hs.set j k v f h1 h2 h3)

theorem ba_eq {a b : ByteArray} : (a == b) = true ↔ a = b := by
  constructor
  · intro h
    have h' : (a.data == b.data) = true := h
    cases a; cases b; congr; exact eq_of_beq h'
  · rintro rfl
    show (a.data == a.data) = true
    simp

theorem sameBits_of {t : TypeId} {k k' : Value} (h : plainKey P t k = true) (h' : plainKey P t k' = true) (he : keyEq k k' = true) (n : Nat) : Instr.sameBits n k' k = true := by
  unfold plainKey at h h'
  cases k <;> simp only [keyEq, Bool.false_eq_true] at he <;> cases k' <;> simp only [Bool.false_eq_true] at he
  · have := eq_of_beq he; subst this; simp [Instr.sameBits]
  · have := eq_of_beq he; subst this
    split at h <;> simp at * <;> simp_all [Instr.sameBits]
  · have := ba_eq.1 he; subst this; simp [Instr.sameBits, ba_eq]

theorem ERels.plain {t : TypeId} : ∀ {a : List (Value × Value)} {a' : List MapEntry}, ERels μ a a' → a.all (fun e => plainKey P t e.1) = true → ∀ (j : Nat) (e : MapEntry), a'[j]? = some e → plainKey P t e.key = true
  | _, _, .nil, _, j, e, h => by simp at h
  | _, _, .cons k v e es es' hk hf hv hs, ha, 0, e', h => by
    simp at h; subst h; simp at ha; rw [hk]; exact ha.1
  | _, _, .cons k v e es es' hk hf hv hs, ha, j + 1, e', h => by
    simp only [List.all_cons, Bool.and_eq_true] at ha
    exact hs.plain ha.2 j e' (by simpa using h)

theorem sim_mapUpdate (h : Rel B μ H w) {t : TypeId} {m m' k x x' : Value} {H' : HHeap} (hl : hmapUpdate P H t m k x = some H') (hm : VRel μ m m') (hx : VRel μ x x') :
    ∃ w', (Instr.mapUpdate t m' k x').run P w = .ok () w' ∧ Step B μ H w μ H' w' := by
  unfold hmapUpdate at hl
  split at hl
  case h_2 => cases hl
  rename_i kt et b ht
  split at hl
  case h_2 => cases hl
  rename_i es hb
  split at hl
  case isFalse => cases hl
  rename_i hc
  cases hm with
  | map _ p hp =>
  obtain ⟨q, clock, es', hq, _, hh, he⟩ := h.maps b _ hb
  rw [hp] at hq; cases hq
  obtain ⟨d, hd⟩ := plainKey_desc hc.1
  obtain ⟨r, h1, h2, h3⟩ := findNow_of (P := P) hd hc.1 0 he hc.2
  have hck := run_checkKey (P := P) (b := false) hc.1 9999 w
  have hkf := plainKey_flat hc.1
  have hset : ∀ o, (setObj p.g o).run P w = .ok () { w with heap := w.heap.setIfInBounds p.g o } := fun o => by simp [setObj, Sem.run, hh]
  split at hl
  · rename_i j u hf
    cases hl
    obtain ⟨v', e1, e2, e, e3, e4⟩ := h3 j u hf
    subst e1
    have hpe := he.plain hc.2 j e e3
    have hsb := sameBits_of hc.1 hpe e4 10000
    have e3' : es'[j]? = some e := by simpa using e3
    refine ⟨{ w with heap := w.heap.setIfInBounds p.g (.map (es'.modify j fun e => { e with key := k, val := x' }) clock) }, ?_, h.setMap hb hp _ _ _ ?_⟩
    · simp [Instr.mapUpdate, run_underlying ht, getObj, Sem.run, hh, hck, Instr.findKey, run_underlying hd, h1, e3', Instr.keyThatStays, hsb, hset]
    · rw [Array.toList_modify]
      exact he.set j k x _ (fun _ => rfl) (fun _ => hx) hkf
  · rename_i hf
    cases hl
    have := h2 hf
    subst this
    refine ⟨{ w with heap := w.heap.setIfInBounds p.g (.map (es'.push { key := k, val := x', born := clock }) (clock + 1)) }, ?_, h.setMap hb hp _ _ _ ?_⟩
    · simp [Instr.mapUpdate, run_underlying ht, getObj, Sem.run, hh, hck, Instr.findKey, run_underlying hd, h1, hset]
    · rw [Array.toList_push]
      exact he.append (.cons k x _ [] [] rfl hkf hx .nil)

def hlen (P : Program) (H : HHeap) (t : TypeId) (x : Value) : Option Value :=
  match P.underlying t, x with
  | some .string, .string s => some (.int .i64 s.size)
  | some (.slice _), .slice _ n _ => some (.int .i64 n)
  | some (.array n _), _ => some (.int .i64 n)
  | some (.map _ _), m => (hentries H m).map fun es => .int .i64 es.length
  | _, _ => none

theorem ERels.length : ∀ {a : List (Value × Value)} {a' : List MapEntry}, ERels μ a a' → a'.length = a.length
  | _, _, .nil => rfl
  | _, _, .cons _ _ _ _ _ _ _ _ hs => by simp [hs.length]

theorem sim_len (h : Rel B μ H w) {t ty : TypeId} {ts : Array TypeId} {x x' v : Value} (hts : ts[0]? = some t) (hl : hlen P H t x = some v) (hx : VRel μ x x') :
    (Builtin.len_ ts ty #[x']).run P w = .ok v w ∧ VRel μ v v := by
  unfold hlen at hl
  split at hl
  · cases hl; cases hx; exact ⟨by simp [Builtin.len_, hts, run_underlying ‹P.underlying t = _›, goInt], .int _ _⟩
  · rename_i n _ ht
    cases hl
    have : ∃ a c, x' = .slice a n c := by cases hx <;> exact ⟨_, _, rfl⟩
    obtain ⟨a, c, rfl⟩ := this
    exact ⟨by simp [Builtin.len_, hts, run_underlying ht, goInt], .int _ _⟩
  · cases hl; exact ⟨by simp [Builtin.len_, hts, run_underlying ‹P.underlying t = _›, goInt], .int _ _⟩
  · rename_i m ht
    simp only [Option.map_eq_some_iff] at hl
    obtain ⟨es, hes, hl⟩ := hl
    subst hl
    unfold hentries at hes
    split at hes
    · cases hes; cases hx; exact ⟨by simp [Builtin.len_, hts, run_underlying ‹P.underlying t = _›, goInt], .int _ _⟩
    · rename_i b
      split at hes <;> cases hes
      rename_i hb
      cases hx with
      | map _ p hp =>
      obtain ⟨q, clock, es', hq, _, hh, he⟩ := h.maps b _ hb
      rw [hp] at hq; cases hq
      have hlen := he.length
      have hl2 : es'.size = es.length := by simpa using hlen
      exact ⟨by simp [Builtin.len_, hts, run_underlying ‹P.underlying t = _›, goInt, getObj, Sem.run, hh, hl2], .int _ _⟩
    · cases hes
  · cases hl

def hmin2 : Value → Value → Option Value
  | .int k x, .int _ y => some (.int k (if y < x then y else x))
  | _, _ => none
def hmax2 : Value → Value → Option Value
  | .int k x, .int _ y => some (.int k (if y > x then y else x))
  | _, _ => none
def hfold (f : Value → Value → Option Value) : Value → List Value → Option Value
  | x, [] => some x
  | x, y :: ys => (f x y).bind fun z => hfold f z ys

theorem hmin2_flat {x y v x' y' : Value} (h : hmin2 x y = some v) (hx : VRel μ x x') (hy : VRel μ y y') : (Builtin.min2 x' y').run P w = .ok v w ∧ VRel μ v v := by
  unfold hmin2 at h
  split at h
  · cases h; cases hx; cases hy; exact ⟨by simp [Builtin.min2], .int _ _⟩
  · cases h
theorem hmax2_flat {x y v x' y' : Value} (h : hmax2 x y = some v) (hx : VRel μ x x') (hy : VRel μ y y') : (Builtin.max2 x' y').run P w = .ok v w ∧ VRel μ v v := by
  unfold hmax2 at h
  split at h
  · cases h; cases hx; cases hy; exact ⟨by simp [Builtin.max2], .int _ _⟩
  · cases h

theorem fold_of {f : Value → Value → Option Value} {g : Value → Value → Sem Value} (hfg : ∀ x y v x' y', f x y = some v → VRel μ x x' → VRel μ y y' → (g x' y').run P w = .ok v w ∧ VRel μ v v) :
    ∀ (ys ys' : List Value) (x x' v : Value), VRels μ ys ys' → VRel μ x x' → hfold f x ys = some v → ∃ v', (ys'.foldlM g x').run P w = .ok v' w ∧ VRel μ v v'
  | _, _, x, x', v, .nil, hx, h => by simp [hfold] at h; subst h; exact ⟨x', rfl, hx⟩
  | _, _, x, x', v, .cons y y' ys ys' hy hs, hx, h => by
    simp only [hfold, Option.bind_eq_some_iff] at h
    obtain ⟨z, hz, h⟩ := h
    obtain ⟨h1, h2⟩ := hfg x y z x' y' hz hx hy
    obtain ⟨v', h3, h4⟩ := fold_of hfg ys ys' z z v hs h2 h
    exact ⟨v', by simp [List.foldlM, h1, h3], h4⟩

def hconvert (P : Program) (s d : TypeId) (x : Value) : Option Value :=
  match P.underlying s, P.underlying d, x with
  | some (.int _), some (.int k), .int _ n => some (.int k (k.wrap n))
  | some .string, some .string, .string s => some (.string s)
  | some (.int _), some .string, .int _ n => some (.string (Utf8.encode n))
  | _, _, _ => none

theorem sim_convert {s d : TypeId} {x x' v : Value} (hl : hconvert P s d x = some v) (hx : VRel μ x x') : (convert s d x').run P w = .ok v w ∧ VRel μ v v := by
  unfold hconvert at hl
  split at hl
  · rename_i hs hd; cases hl; cases hx
    exact ⟨by simp [convert, run_underlying hs, run_underlying hd, Conv.intToInt], .int _ _⟩
  · rename_i hs hd; cases hl; cases hx
    exact ⟨by simp [convert, run_underlying hs, run_underlying hd], .string _⟩
  · rename_i hs hd; cases hl; cases hx
    exact ⟨by simp [convert, run_underlying hs, run_underlying hd, Conv.intToString], .string _⟩
  · cases hl

/-- Operands of a row, all there. -/
def hevs (fr : HFrame) : List Operand → Option (List Value)
  | [] => some []
  | x :: xs => (hev fr x).bind fun v => (hevs fr xs).map fun vs => v :: vs

theorem hevs_rel {fr : HFrame} {a : Act} (h : FRel μ fr a) : ∀ (xs : List Operand) (vs : List Value), hevs fr xs = some vs → VRels μ vs (xs.map a.eval)
  | [], vs, e => by simp [hevs] at e; subst e; exact .nil
  | x :: xs, vs, e => by
    simp only [hevs, Option.bind_eq_some_iff, Option.map_eq_some_iff] at e
    obtain ⟨v, hv, vs', hvs, e⟩ := e
    subst e
    exact .cons _ _ _ _ (hev_rel h hv) (hevs_rel h xs vs' hvs)

def hparts (fr : HFrame) : List (Nat × Operand) → Option (List (Nat × Value))
  | [] => some []
  | (i, x) :: xs => (hev fr x).bind fun v => (hparts fr xs).map fun vs => (i, v) :: vs

theorem hparts_rel {fr : HFrame} {a : Act} (h : FRel μ fr a) : ∀ (xs : List (Nat × Operand)) (vs : List (Nat × Value)), hparts fr xs = some vs → PRels μ vs (xs.map fun (i, x) => (i, a.eval x))
  | [], vs, e => by simp [hparts] at e; subst e; exact .nil
  | (i, x) :: xs, vs, e => by
    simp only [hparts, Option.bind_eq_some_iff, Option.map_eq_some_iff] at e
    obtain ⟨v, hv, vs', hvs, e⟩ := e
    subst e
    exact .cons _ _ _ _ _ (hev_rel h hv) (hparts_rel h xs vs' hvs)

/-- An operand that may be missing. -/
def hopt (fr : HFrame) : Option Operand → Option (Option Value)
  | none => some none
  | some x => match hev fr x with
    | some (.int k n) => some (some (.int k n))
    | _ => none

theorem hopt_rel {fr : HFrame} {a : Act} (h : FRel μ fr a) {x : Option Operand} {v : Option Value} (e : hopt fr x = some v) : x.map a.eval = v := by
  cases x with
  | none => simp [hopt] at e; subst e; rfl
  | some x =>
    simp only [hopt] at e
    split at e <;> cases e
    rename_i k n hv
    have hr := hev_rel h hv
    have : a.eval x = .int k n := by generalize a.eval x = z at hr; cases hr; rfl
    simp [this]

def hbuiltin (P : Program) (H : HHeap) (b : Builtin) (ts : List TypeId) (vs : List Value) : Option (Value × HHeap) :=
  match b, ts, vs with
  | .len, [t], [x] => (hlen P H t x).map fun v => (v, H)
  | .append, [t, u], [s, x] => happend P H t u s x
  | .copy, [t, _], [d, x] => hcopy P H t d x
  | .min, _, x :: xs => (hfold hmin2 x xs).map fun v => (v, H)
  | .max, _, x :: xs => (hfold hmax2 x xs).map fun v => (v, H)
  | _, _, _ => none

/-- AN OPERATION that is no call of a function: its value, and the heap behind it. -/
def hop (P : Program) (fr : HFrame) (H : HHeap) (op : Op) : Option (Value × HHeap) :=
  match op with
  | .move x | .assign x => (hev fr x).map fun v => (v, H)
  | .pick c a b => match hev fr c with
    | some (.bool true) => (hev fr a).map fun v => (v, H)
    | some (.bool false) => (hev fr b).map fun v => (v, H)
    | _ => none
  | .alloc t => halloc P H t
  | .box _ x => (hev fr x).bind fun v => hbox H v
  | .build t ps => (hparts fr ps.toList).bind fun vs => (hbuild P t vs).map fun v => (v, H)
  | .buildSlice t n ps => (hparts fr ps.toList).bind fun vs => hbuildSlice P H t n vs
  | .load t a => (hev fr a).bind fun p => (hload P H t p).map fun v => (v, H)
  | .store t a x => (hev fr a).bind fun p => (hev fr x).bind fun v => (hstore P H t p v).map fun H' => (undef, H')
  | .nilCheck x => match hev fr x with
    | some (.pointer (some a)) => some (.pointer (some a), H)
    | some (.func (.func f) a b) => some (.func (.func f) a b, H)
    | _ => none
  | .binOp op t x y _ => (hev fr x).bind fun a => (hev fr y).bind fun b => (hbin P op t a b).map fun v => (v, H)
  | .unOp op _ x => (hev fr x).bind fun a => (hunary op a).map fun v => (v, H)
  | .convert s d x => (hev fr x).bind fun a => (hconvert P s d a).map fun v => (v, H)
  | .makeInterface t x => if kindOf P t = 5 then none else if (P.underlying t).isSome then (hev fr x).map fun v => (.iface t v, H) else none
  | .makeFunc fn first captured => if first.size = 0 then (hevs fr captured.toList).map fun vs => (.func fn #[] vs.toArray, H) else none
  | .makeMap _ none => some (.map (some H.next), H.push (.map []))
  | .makeSlice t l c => match hev fr l, hev fr c with
    | some (.int k l), some (.int k' c) => hmakeSlice P H t (.int k l) (.int k' c)
    | _, _ => none
  | .slice t x lo hi mx => (hev fr x).bind fun v => (hopt fr lo).bind fun lo => (hopt fr hi).bind fun hi => (hopt fr mx).bind fun mx => (hslice P t v lo hi mx).map fun v => (v, H)
  | .fieldAddr s x f => (hev fr x).bind fun p => (hfieldAt P s p f).map fun v => (v, H)
  | .field t x f => (hev fr x).bind fun p => (hfield P t p f).map fun v => (v, H)
  | .indexAddr t x i => (hev fr x).bind fun p => match hev fr i with
    | some (.int k n) => (hindexAt P t p (.int k n)).map fun v => (v, H)
    | _ => none
  | .index t x i => (hev fr x).bind fun p => match hev fr i with
    | some (.int k n) => (hindex P t p (.int k n)).map fun v => (v, H)
    | _ => none
  | .lookup t m k ok => (hev fr m).bind fun p => (hev fr k).bind fun k => (hlookup P H t p k ok).map fun v => (v, H)
  | .mapUpdate t m k x | .insert t m k x => (hev fr m).bind fun p => (hev fr k).bind fun k => (hev fr x).bind fun x => (hmapUpdate P H t p k x).map fun H' => (undef, H')
  | .extract t i => match hev fr t with
    | some (.tuple vs) => (vs.toList[i]?).map fun v => (v, H)
    | _ => none
  | .call { callee := .builtin b, args, argTypes } => (hevs fr args.toList).bind fun vs => hbuiltin P H b argTypes.toList vs
  | _ => none

/-- What the model's operation comes to: a value that meets it, or, of a store, none. -/
def OpMeets (P : Program) (B : Nat) (μ : Mu) (H : HHeap) (w : World) (r : Result Next) (v : Value) (H' : HHeap) : Prop :=
  ∃ μ' w' v', Step B μ H w μ' H' w' ∧ VRel μ' v v' ∧ (r = .ok (.value v') w' ∨ (r = .ok .skip w' ∧ v' = undef))

theorem hlookup_key {m k v : Value} {t : TypeId} {ok : Bool} (hl : hlookup P H t m k ok = some v) : flat1 k = true := by
  unfold hlookup at hl
  split at hl
  · simp only [Option.bind_eq_some_iff] at hl
    obtain ⟨es, _, hl⟩ := hl
    split at hl
    · exact plainKey_flat (by rename_i h; exact h.1)
    · cases hl
  · cases hl

theorem hmapUpdate_key {m k x : Value} {t : TypeId} {H' : HHeap} (hl : hmapUpdate P H t m k x = some H') : flat1 k = true := by
  unfold hmapUpdate at hl
  split at hl
  · split at hl
    · split at hl
      · exact plainKey_flat (by rename_i h; exact h.1)
      · cases hl
    · cases hl
  · cases hl

theorem sim_hop (h : Rel B μ H w) {fr : HFrame} {a : Act} (hf : FRel μ fr a) {o : Oper} {v : Value} {H' : HHeap} (hl : hop P fr H o.op = some (v, H')) :
    OpMeets P B μ H w ((execOp a.eval o).run P w) v H' := by
  have pureV : ∀ {u : Value} {s : Sem Value}, (∃ u', s.run P w = .ok u' w ∧ VRel μ u u') → (v, H') = (u, H) → (execOp a.eval o).run P w = ((do pure (.value (← s)) : Sem Next).run P w) → OpMeets P B μ H w ((execOp a.eval o).run P w) v H' := by
    intro u s ⟨u', h1, h2⟩ he hx
    cases he
    exact ⟨μ, w, u', Step.refl h, h2, .inl (by rw [hx]; simp [h1])⟩
  unfold hop at hl
  split at hl
  · -- move
    rename_i x ho
    simp only [Option.map_eq_some_iff] at hl
    obtain ⟨u, hu, hl⟩ := hl
    cases hl
    exact ⟨μ, w, _, Step.refl h, hev_rel hf hu, .inl (by simp [execOp, ho])⟩
  · rename_i x ho
    simp only [Option.map_eq_some_iff] at hl
    obtain ⟨u, hu, hl⟩ := hl
    cases hl
    exact ⟨μ, w, _, Step.refl h, hev_rel hf hu, .inl (by simp [execOp, ho])⟩
  · -- pick
    rename_i c x y ho
    split at hl
    · rename_i hc
      simp only [Option.map_eq_some_iff] at hl
      obtain ⟨u, hu, hl⟩ := hl
      cases hl
      have hcr := hev_rel hf hc
      have : a.eval c = .bool true := by generalize a.eval c = z at hcr; cases hcr; rfl
      exact ⟨μ, w, _, Step.refl h, hev_rel hf hu, .inl (by simp [execOp, ho, this, asBool])⟩
    · rename_i hc
      simp only [Option.map_eq_some_iff] at hl
      obtain ⟨u, hu, hl⟩ := hl
      cases hl
      have hcr := hev_rel hf hc
      have : a.eval c = .bool false := by generalize a.eval c = z at hcr; cases hcr; rfl
      exact ⟨μ, w, _, Step.refl h, hev_rel hf hu, .inl (by simp [execOp, ho, this, asBool])⟩
    · cases hl
  · -- alloc
    rename_i t ho
    obtain ⟨μ', w', v', r1, r2, r3⟩ := sim_alloc h hl
    exact ⟨μ', w', v', r2, r3, .inl (by simp [execOp, ho, r1])⟩
  · -- box
    rename_i t x ho
    simp only [Option.bind_eq_some_iff] at hl
    obtain ⟨u, hu, hl⟩ := hl
    obtain ⟨μ', w', v', r1, r2, r3⟩ := sim_box (P := P) h t hl (hev_rel hf hu)
    exact ⟨μ', w', v', r2, r3, .inl (by simp [execOp, ho, r1])⟩
  · -- build
    rename_i t ps ho
    simp only [Option.bind_eq_some_iff, Option.map_eq_some_iff] at hl
    obtain ⟨vs, hvs, u, hu, hl⟩ := hl
    obtain ⟨v', h1, h2⟩ := sim_build (P := P) (w := w) hu (hparts_rel hf _ _ hvs)
    refine pureV (u := u) ⟨v', h1, h2⟩ hl.symm ?_
    rw [List.map_toArray.symm]; simp [execOp, ho]
  · -- buildSlice
    rename_i t n ps ho
    simp only [Option.bind_eq_some_iff] at hl
    obtain ⟨vs, hvs, hl⟩ := hl
    obtain ⟨μ', w', v', r1, r2, r3⟩ := sim_buildSlice (P := P) h hl (hparts_rel hf _ _ hvs)
    refine ⟨μ', w', v', r2, r3, .inl ?_⟩
    have : (ps.map fun (i, x) => (i, a.eval x)) = (ps.toList.map fun (i, x) => (i, a.eval x)).toArray := by apply Array.ext'; simp
    simp [execOp, ho, this, r1]
  · -- load
    rename_i t x ho
    simp only [Option.bind_eq_some_iff, Option.map_eq_some_iff] at hl
    obtain ⟨p, hp, u, hu, hl⟩ := hl
    exact pureV (sim_load h hu (hev_rel hf hp)) hl.symm (by simp [execOp, ho])
  · -- store
    rename_i t x y ho
    simp only [Option.bind_eq_some_iff, Option.map_eq_some_iff] at hl
    obtain ⟨p, hp, u, hu, H2, hs, hl⟩ := hl
    cases hl
    obtain ⟨w', r1, r2⟩ := sim_store (P := P) h hs (hev_rel hf hp) (hev_rel hf hu)
    exact ⟨μ, w', undef, r2, .of_flat rfl, .inr ⟨by simp [execOp, ho, r1], rfl⟩⟩
  · -- nilCheck
    rename_i x ho
    split at hl
    · rename_i ad hx
      cases hl
      have hr := hev_rel hf hx
      refine ⟨μ, w, _, Step.refl h, hr, .inl ?_⟩
      have : ∃ ad', a.eval x = .pointer (some ad') := by generalize a.eval x = z at hr; cases hr; exact ⟨_, rfl⟩
      obtain ⟨ad', hz⟩ := this
      simp [execOp, ho, hz]
    · rename_i f c1 c2 hx
      cases hl
      have hr := hev_rel hf hx
      refine ⟨μ, w, _, Step.refl h, hr, .inl ?_⟩
      have : ∃ d1 d2, a.eval x = .func (.func f) d1 d2 := by generalize a.eval x = z at hr; cases hr; exact ⟨_, _, rfl⟩
      obtain ⟨d1, d2, hz⟩ := this
      simp [execOp, ho, hz]
    · cases hl
  · -- binOp
    rename_i op t x y t2 ho
    simp only [Option.bind_eq_some_iff, Option.map_eq_some_iff] at hl
    obtain ⟨p, hp, q, hq, u, hu, hl⟩ := hl
    obtain ⟨h1, h2⟩ := sim_bin (P := P) (w := w) x y hu (hev_rel hf hp) (hev_rel hf hq)
    exact pureV ⟨u, h1, h2⟩ hl.symm (by simp only [execOp, ho])
  · -- unOp
    rename_i op t x ho
    simp only [Option.bind_eq_some_iff, Option.map_eq_some_iff] at hl
    obtain ⟨p, hp, u, hu, hl⟩ := hl
    obtain ⟨h1, h2⟩ := sim_unary (P := P) (w := w) hu (hev_rel hf hp)
    exact pureV ⟨u, h1, h2⟩ hl.symm (by simp [execOp, ho])
  · -- convert
    rename_i s d x ho
    simp only [Option.bind_eq_some_iff, Option.map_eq_some_iff] at hl
    obtain ⟨p, hp, u, hu, hl⟩ := hl
    obtain ⟨h1, h2⟩ := sim_convert (P := P) (w := w) hu (hev_rel hf hp)
    exact pureV ⟨u, h1, h2⟩ hl.symm (by simp [execOp, ho])
  · -- makeInterface
    rename_i t x ho
    split at hl
    · cases hl
    split at hl
    · rename_i hk hs
      simp only [Option.map_eq_some_iff] at hl
      obtain ⟨u, hu, hl⟩ := hl
      have hc : P.concrete t = true := by
        unfold Program.concrete
        unfold kindOf at hk
        cases hd : P.underlying t with
        | none => simp [hd] at hs
        | some d => cases d <;> simp [hd] at hk ⊢
      exact pureV ⟨_, run_makeInterface w t (a.eval x) hc, .iface t _ _ (hev_rel hf hu)⟩ hl.symm (by simp [execOp, ho])
    · cases hl
  · -- makeFunc
    rename_i fn first captured ho
    split at hl
    · rename_i hz
      simp only [Option.map_eq_some_iff] at hl
      obtain ⟨vs, hvs, hl⟩ := hl
      have hr := hevs_rel hf _ _ hvs
      have h0 : first = #[] := by simpa using hz
      refine pureV (s := Instr.makeFunc fn (first.map a.eval) (captured.map a.eval)) ⟨.func fn #[] (captured.toList.map a.eval).toArray, ?_, .func fn vs _ hr⟩ hl.symm (by simp [execOp, ho])
      have hca : captured.map a.eval = (captured.toList.map a.eval).toArray := by apply Array.ext'; simp
      simp [Instr.makeFunc, h0, hca]
    · cases hl
  · -- makeMap
    rename_i t ho
    cases hl
    have s := h.allocMap
    refine ⟨_, _, .map (some w.heap.size), s, .map _ ⟨w.heap.size, 0, 0⟩ (by simp [Mu.add]), .inl ?_⟩
    simp [execOp, ho, Instr.makeMap]
  · -- makeSlice
    rename_i t l c ho
    split at hl
    · rename_i k l' k' c' h1 h2
      have hl1 := hev_rel hf h1
      have hc1 := hev_rel hf h2
      have e1 : a.eval l = .int k l' := by generalize a.eval l = z at hl1; cases hl1; rfl
      have e2 : a.eval c = .int k' c' := by generalize a.eval c = z at hc1; cases hc1; rfl
      obtain ⟨μ', w', v', r1, r2, r3⟩ := sim_makeSlice (P := P) h hl
      exact ⟨μ', w', v', r2, r3, .inl (by simp [execOp, ho, e1, e2, r1])⟩
    · cases hl
  · -- slice
    rename_i t x lo hi mx ho
    simp only [Option.bind_eq_some_iff, Option.map_eq_some_iff] at hl
    obtain ⟨p, hp, lo', hlo, hi', hhi, mx', hmx, u, hu, hl⟩ := hl
    have e1 := hopt_rel hf hlo
    have e2 := hopt_rel hf hhi
    have e3 := hopt_rel hf hmx
    exact pureV (sim_slice (P := P) (w := w) hu (hev_rel hf hp)) hl.symm (by simp [execOp, ho, e1, e2, e3])
  · -- fieldAddr
    rename_i s x f ho
    simp only [Option.bind_eq_some_iff, Option.map_eq_some_iff] at hl
    obtain ⟨p, hp, u, hu, hl⟩ := hl
    exact pureV (sim_fieldAt (P := P) (w := w) hu (hev_rel hf hp)) hl.symm (by simp [execOp, ho])
  · -- field
    rename_i s x f ho
    simp only [Option.bind_eq_some_iff, Option.map_eq_some_iff] at hl
    obtain ⟨p, hp, u, hu, hl⟩ := hl
    exact pureV (sim_field (P := P) (w := w) hu (hev_rel hf hp)) hl.symm (by simp [execOp, ho])
  · -- indexAddr
    rename_i t x i ho
    simp only [Option.bind_eq_some_iff] at hl
    obtain ⟨p, hp, hl⟩ := hl
    split at hl
    · rename_i k n hi
      simp only [Option.map_eq_some_iff] at hl
      obtain ⟨u, hu, hl⟩ := hl
      have hi1 := hev_rel hf hi
      have e1 : a.eval i = .int k n := by generalize a.eval i = z at hi1; cases hi1; rfl
      exact pureV (sim_indexAt (P := P) (w := w) hu (hev_rel hf hp)) hl.symm (by simp [execOp, ho, e1])
    · cases hl
  · -- index
    rename_i t x i ho
    simp only [Option.bind_eq_some_iff] at hl
    obtain ⟨p, hp, hl⟩ := hl
    split at hl
    · rename_i k n hi
      simp only [Option.map_eq_some_iff] at hl
      obtain ⟨u, hu, hl⟩ := hl
      have hi1 := hev_rel hf hi
      have e1 : a.eval i = .int k n := by generalize a.eval i = z at hi1; cases hi1; rfl
      exact pureV (sim_index (P := P) (w := w) hu (hev_rel hf hp)) hl.symm (by simp [execOp, ho, e1])
    · cases hl
  · -- lookup
    rename_i t m k ok ho
    simp only [Option.bind_eq_some_iff, Option.map_eq_some_iff] at hl
    obtain ⟨p, hp, k', hk, u, hu, hl⟩ := hl
    have hk1 := (hev_rel hf hk).flat1_eq (hlookup_key hu)
    exact pureV (sim_lookup (P := P) h hu (hev_rel hf hp)) hl.symm (by simp [execOp, ho, hk1])
  · -- mapUpdate
    rename_i t m k x ho
    simp only [Option.bind_eq_some_iff, Option.map_eq_some_iff] at hl
    obtain ⟨p, hp, k', hk, x', hx, H2, hu, hl⟩ := hl
    cases hl
    have hk1 := (hev_rel hf hk).flat1_eq (hmapUpdate_key hu)
    obtain ⟨w', r1, r2⟩ := sim_mapUpdate (P := P) h hu (hev_rel hf hp) (hev_rel hf hx)
    exact ⟨μ, w', undef, r2, .of_flat rfl, .inr ⟨by simp [execOp, ho, hk1, r1], rfl⟩⟩
  · rename_i t m k x ho
    simp only [Option.bind_eq_some_iff, Option.map_eq_some_iff] at hl
    obtain ⟨p, hp, k', hk, x', hx, H2, hu, hl⟩ := hl
    cases hl
    have hk1 := (hev_rel hf hk).flat1_eq (hmapUpdate_key hu)
    obtain ⟨w', r1, r2⟩ := sim_mapUpdate (P := P) h hu (hev_rel hf hp) (hev_rel hf hx)
    exact ⟨μ, w', undef, r2, .of_flat rfl, .inr ⟨by simp [execOp, ho, hk1, r1], rfl⟩⟩
  · -- extract
    rename_i t i ho
    split at hl
    · rename_i vs ht
      simp only [Option.map_eq_some_iff] at hl
      obtain ⟨u, hu, hl⟩ := hl
      have hr := hev_rel hf ht
      generalize hz : a.eval t = z at hr
      cases hr with
      | tuple cs cs' hc =>
      obtain ⟨u', h1, h2⟩ := hc.get i u (by simpa using hu)
      exact pureV (s := Instr.extract (.tuple cs'.toArray) i) ⟨u', by simp [Instr.extract, h1], h2⟩ hl.symm (by simp [execOp, ho, hz])
    · cases hl
  · -- builtins
    rename_i b args ts ho
    simp only [Option.bind_eq_some_iff] at hl
    obtain ⟨vs, hvs, hl⟩ := hl
    have hr := hevs_rel hf _ _ hvs
    have hargs : args.map a.eval = (args.toList.map a.eval).toArray := by apply Array.ext'; simp
    generalize args.toList.map a.eval = vs' at hr hargs
    unfold hbuiltin at hl
    split at hl
    · rename_i t x hts
      simp only [Option.map_eq_some_iff] at hl
      obtain ⟨u, hu, hl⟩ := hl
      have ht0 : ts[0]? = some t := by rw [← Array.getElem?_toList, hts]; rfl
      cases hr with
      | cons _ x' _ _ hx hn => cases hn with
        | nil =>
        obtain ⟨h1, h2⟩ := sim_len (P := P) (ty := o.type) h ht0 hu hx
        exact pureV ⟨u, h1, h2⟩ hl.symm (by simp [execOp, ho, resolve, invoke, builtin, hargs])
    · rename_i t u' s x hts
      have hta : ts = #[t, u'] := by apply Array.ext'; exact hts
      cases hr with
      | cons _ s' _ _ hs hn => cases hn with
        | cons _ x' _ _ hx hn => cases hn with
          | nil =>
          obtain ⟨μ', w', v', r1, r2, r3⟩ := sim_append (P := P) (ty := o.type) h hl hs hx
          exact ⟨μ', w', v', r2, r3, .inl (by simp [execOp, ho, resolve, invoke, builtin, hargs, hta, r1])⟩
    · rename_i t u' d x hts
      have hta : ts[0]? = some t := by rw [← Array.getElem?_toList, hts]; rfl
      cases hr with
      | cons _ d' _ _ hd hn => cases hn with
        | cons _ x' _ _ hx hn => cases hn with
          | nil =>
          obtain ⟨μ', w', v', r1, r2, r3⟩ := sim_copy (P := P) (ty := o.type) h hta hl hd hx
          exact ⟨μ', w', v', r2, r3, .inl (by simp [execOp, ho, resolve, invoke, builtin, hargs, r1])⟩
    · rename_i x xs
      simp only [Option.map_eq_some_iff] at hl
      obtain ⟨u, hu, hl⟩ := hl
      cases hr with
      | cons _ x' _ xs' hx hn =>
        obtain ⟨v', r1, r2⟩ := fold_of (P := P) (w := w) (fun x y v x' y' => hmin2_flat) xs xs' x x' u hn hx hu
        exact pureV ⟨v', r1, r2⟩ hl.symm (by simp [execOp, ho, resolve, invoke, builtin, hargs, Builtin.min_])
    · rename_i x xs
      simp only [Option.map_eq_some_iff] at hl
      obtain ⟨u, hu, hl⟩ := hl
      cases hr with
      | cons _ x' _ xs' hx hn =>
        obtain ⟨v', r1, r2⟩ := fold_of (P := P) (w := w) (fun x y v x' y' => hmax2_flat) xs xs' x x' u hn hx hu
        exact pureV ⟨v', r1, r2⟩ hl.symm (by simp [execOp, ho, resolve, invoke, builtin, hargs, Builtin.max_])
    · cases hl
  · cases hl

end Go.HL
/-
  A high level over the model, part 9: code: what a function's body comes to at the high level, and that the model's run of it meets that.
-/
namespace Go.HL
open Go.RowKit

variable {P : Program}

/-- A CONTRACT: called with values that meet these, over any world that meets this heap, the function returns a value, and there is a heap, of which R is said. -/
def HCalls (P : Program) (f : FuncId) (args : List Value) (H : HHeap) (R : Value → HHeap → Prop) : Prop :=
  ∀ B μ w args', Rel B μ H w → VRels μ args args' →
    Calls P f args'.toArray w fun e w' => ∃ μ' v H' v', e = .returned v' ∧ R v H' ∧ VRel μ' v v' ∧ Step B μ H w μ' H' w'

theorem HCalls.mono {f : FuncId} {args : List Value} {H : HHeap} {R R' : Value → HHeap → Prop} (h : HCalls P f args H R) (hr : ∀ v H', R v H' → R' v H') : HCalls P f args H R' :=
  fun B μ w args' hR hv => (h B μ w args' hR hv).mono fun _ _ ⟨μ', v, H', v', e, r, x, s⟩ => ⟨μ', v, H', v', e, hr _ _ r, x, s⟩

/-- All blocks have been given. -/
def HHeap.Ok (H : HHeap) : Prop := ∀ b o, H.get b = some o → b < H.next
theorem Rel.ok {B : Nat} {μ : Mu} {H : HHeap} {w : World} (h : Rel B μ H w) : H.Ok := by
  intro b o hb
  cases o with
  | cells cs rw =>
    obtain ⟨p, hp, _⟩ := h.cells b cs rw hb
    exact h.bound b p hp
  | map es =>
    obtain ⟨p, _, _, hp, _⟩ := h.maps b es hb
    exact h.bound b p hp
theorem HCalls.ok {f : FuncId} {args : List Value} {H : HHeap} {R : Value → HHeap → Prop} (h : H.Ok → HCalls P f args H R) : HCalls P f args H R :=
  fun B μ w args' hR hv => h hR.ok B μ w args' hR hv
theorem HCalls.gotOk {f : FuncId} {args : List Value} {H : HHeap} {R : Value → HHeap → Prop} (h : HCalls P f args H fun v H' => H'.Ok → H.next ≤ H'.next → R v H') : HCalls P f args H R :=
  fun B μ w args' hR hv => (h B μ w args' hR hv).mono fun _ _ ⟨μ', v, H', v', e, r, x, s⟩ => ⟨μ', v, H', v', e, r s.rel.ok s.next, x, s⟩

/-- A function that has a body. -/
def isGo (P : Program) (f : FuncId) : Bool :=
  match P.funcs[f]? with
  | some fn => fn.body.isSome && fn.name != "runtime.NumGoroutine"
  | none => false

/-- The function that an operation calls, and what with. -/
def hcallee (P : Program) (fr : HFrame) (op : Op) : Option (FuncId × List Value) :=
  match op with
  | .call { callee := .value x, args, .. } =>
    match hev fr x, hevs fr args.toList with
    | some (.func (.func f) first captured), some vs =>
      if first.size = 0 ∧ isGo P f then some (f, vs ++ captured.toList) else none
    | _, _ => none
  | _ => none

theorem callee_run {μ : Mu} {fr : HFrame} {a : Act} (hf : FRel μ fr a) {o : Oper} {f : FuncId} {args : List Value} (h : hcallee P fr o.op = some (f, args)) (w : World) :
    ∃ args', VRels μ args args' ∧ (execOp a.eval o).run P w = .ok (.enter f args'.toArray) w := by
  unfold hcallee at h
  split at h
  · rename_i x as ts ho
    split at h
    · rename_i g first captured vs hx hvs
      split at h <;> cases h
      rename_i hc
      obtain ⟨hz, hb⟩ := hc
      have hr := hev_rel hf hx
      have hvr := hevs_rel hf _ _ hvs
      have hargs : as.map a.eval = (as.toList.map a.eval).toArray := by apply Array.ext'; simp
      generalize hq : a.eval x = q at hr
      cases hr with
      | func _ cs cs' hcs =>
      refine ⟨as.toList.map a.eval ++ cs', hvr.append hcs, ?_⟩
      cases hfn : P.funcs[f]? with
      | none => simp [isGo, hfn] at hb
      | some fn =>
        simp only [isGo, hfn, Bool.and_eq_true, bne_iff_ne, ne_eq] at hb
        have hbn : fn.body ≠ none := by
          cases hbb : fn.body <;> simp [hbb] at hb ⊢
        simp [execOp, ho, resolve, hq, Deferred.ofValue, invoke, callFunc, hfn, hb.2, hbn, hargs]
    · cases h
  · cases h

/-- A test on what an operation is guarded by. -/
def hwanted (ops : Array Oper) (fr : HFrame) (o : Oper) : Option Bool :=
  match o.guard with
  | none => some true
  | some (j, want) =>
    match ((ops[j]?).bind (·.dst)).bind fr.get with
    | some (.bool b) => some (b == want)
    | some (.tuple _) => some false
    | _ => none

theorem wanted_of {μ : Mu} {fr : HFrame} {a : Act} (hf : FRel μ fr a) {ops : Array Oper} {o : Oper} {b : Bool} (h : hwanted ops fr o = some b) : Region.wanted o (yielded ops a.tmps) = b := by
  unfold hwanted at h
  unfold Region.wanted
  split at h
  · rename_i hg; cases h; simp [hg]
  · rename_i j want hg
    split at h
    · rename_i b' hb
      cases h
      simp only [Option.bind_eq_some_iff] at hb
      obtain ⟨d, hd, hv⟩ := hb
      obtain ⟨o', ho', hd'⟩ := hd
      obtain ⟨v', hv', hr⟩ := hf.vals d _ hv
      cases hr
      have : a.tmps[d]? = some (.bool b') := hv'
      have hy : yielded ops a.tmps j = some b' := by simp [yielded, ho', hd', this]
      simp only [hg, hy]
      cases b' <;> cases want <;> rfl
    · rename_i cs hb
      cases h
      simp only [Option.bind_eq_some_iff] at hb
      obtain ⟨d, hd, hv⟩ := hb
      obtain ⟨o', ho', hd'⟩ := hd
      obtain ⟨v', hv', hr⟩ := hf.vals d _ hv
      have hy : yielded ops a.tmps j = none := by
        have : a.tmps[d]? = some v' := hv'
        cases hr
        simp [yielded, ho', hd', this]
      simp only [hg, hy]
      rfl
    · cases h

/-- A row of operations, in the order of the text. -/
def HOps (P : Program) (ops : Array Oper) : List Oper → HFrame → HHeap → (HFrame → HHeap → Prop) → Prop
  | [], fr, H, K => K fr H
  | o :: rest, fr, H, K =>
    (hwanted ops fr o = some false ∧ HOps P ops rest (hput fr o.dst undef) H K) ∨
    (hwanted ops fr o = some true ∧
      ((∃ v H', hop P fr H o.op = some (v, H') ∧ HOps P ops rest (hput fr o.dst v) H' K) ∨
       (∃ f args, hcallee P fr o.op = some (f, args) ∧ HCalls P f args H fun v H' => HOps P ops rest (hput fr o.dst v) H' K)))

/-- What a run leaves, said of a world. -/
def Lift (B : Nat) (μ : Mu) (H : HHeap) (w : World) (Q : Exit → HFrame → HHeap → Prop) : Exit → Act → World → Prop :=
  fun e a' w' => ∃ fr' H' μ', Q e fr' H' ∧ FRel μ' fr' a' ∧ Step B μ H w μ' H' w'

theorem Lift.mono {B : Nat} {μ : Mu} {H : HHeap} {w : World} {Q Q' : Exit → HFrame → HHeap → Prop} (h : ∀ e fr H, Q e fr H → Q' e fr H) {e : Exit} {a : Act} {w' : World} : Lift B μ H w Q e a w' → Lift B μ H w Q' e a w' :=
  fun ⟨fr, H', μ', q, f, s⟩ => ⟨fr, H', μ', h _ _ _ q, f, s⟩

theorem Lift.trans {B : Nat} {μ μ1 : Mu} {H H1 : HHeap} {w w1 : World} {Q : Exit → HFrame → HHeap → Prop} (s : Step B μ H w μ1 H1 w1) {e : Exit} {a : Act} {w' : World} : Lift B μ1 H1 w1 Q e a w' → Lift B μ H w Q e a w' :=
  fun ⟨fr, H', μ', q, f, s'⟩ => ⟨fr, H', μ', q, f, s.trans s'⟩

/-- One operation of the model, by what it comes to at the high level. -/
theorem oper_wp {B : Nat} {μ : Mu} {H : HHeap} {w : World} (h : Rel B μ H w) {fr : HFrame} {a : Act} (hf : FRel μ fr a) {o : Oper} {next : Act → World → Prop} {Q : Exit → Act → World → Prop}
    (hh : (∃ v H', hop P fr H o.op = some (v, H') ∧ ∀ μ' w' v', Step B μ H w μ' H' w' → VRel μ' v v' → next (a.put o.dst v') w') ∨
       (∃ f args R, hcallee P fr o.op = some (f, args) ∧ HCalls P f args H R ∧ ∀ v H' μ' w' v', R v H' → Step B μ H w μ' H' w' → VRel μ' v v' → next (a.put o.dst v') w')) : o.wp P a w next Q := by
  unfold Oper.wp
  rcases hh with ⟨v, H', h1, h2⟩ | ⟨f, args, R, h1, h2, h3⟩
  · obtain ⟨μ', w', v', s, hv, hr⟩ := sim_hop h hf h1
    rcases hr with hr | ⟨hr, hu⟩
    · rw [hr]; exact h2 μ' w' v' s hv
    · rw [hr]; subst hu; exact h2 μ' w' undef s hv
  · obtain ⟨args', ha, hr⟩ := callee_run hf h1 w
    rw [hr]
    refine (h2 B μ w args' h ha).mono fun e w' ⟨μ', v, H', v', he, r, hv, s⟩ => ?_
    subst he
    exact h3 v H' μ' w' v' r s hv

theorem hops_sound {ops : Array Oper} {Q : Exit → HFrame → HHeap → Prop} : ∀ (l : List Oper) (fr : HFrame) (H : HHeap), HOps P ops l fr H (Q .normal) → ∀ (B : Nat) (μ0 : Mu) (H0 : HHeap) (w0 : World) (μ : Mu) (w : World) (a : Act),
    Step B μ0 H0 w0 μ H w → FRel μ fr a → wpList P ops (Lift B μ0 H0 w0 Q) l a w
  | [], fr, H, h, B, μ0, H0, w0, μ, w, a, s, hf => ⟨fr, H, μ, h, hf, s⟩
  | o :: rest, fr, H, h, B, μ0, H0, w0, μ, w, a, s, hf => by
    unfold wpList
    rcases h with ⟨hw, h⟩ | ⟨hw, h⟩
    · rw [if_neg (by rw [wanted_of hf hw]; simp)]
      exact hops_sound rest _ H h B μ0 H0 w0 μ w _ s (hf.put _ (.of_flat rfl))
    · rw [if_pos (wanted_of hf hw)]
      refine .inl (oper_wp s.rel hf ?_)
      rcases h with ⟨v, H', h1, h2⟩ | ⟨f, args, h1, h2⟩
      · exact .inl ⟨v, H', h1, fun μ' w' v' s' hv => hops_sound rest _ H' h2 B μ0 H0 w0 μ' w' _ (s.trans s') ((hf.mono s'.sub).put _ hv)⟩
      · exact .inr ⟨f, args, _, h1, h2, fun v H' μ' w' v' r s' hv => hops_sound rest _ H' r B μ0 H0 w0 μ' w' _ (s.trans s') ((hf.mono s'.sub).put _ hv)⟩

/-- Code, over any world that meets the heap. -/
def Hwp (P : Program) (c : Code) (Q : Exit → HFrame → HHeap → Prop) (fr : HFrame) (H : HHeap) : Prop :=
  ∀ B μ w a, Rel B μ H w → FRel μ fr a → c.wp P (Lift B μ H w Q) a w

def HThen (next : HFrame → HHeap → Prop) (Q : Exit → HFrame → HHeap → Prop) : Exit → HFrame → HHeap → Prop
  | .normal, fr, H => next fr H
  | e, fr, H => Q e fr H

def HBlock (id : Nat) (Q : Exit → HFrame → HHeap → Prop) : Exit → HFrame → HHeap → Prop
  | .exit id', fr, H => if id' = id then Q .normal fr H else Q (.exit id') fr H
  | e, fr, H => Q e fr H

theorem Hwp.mono {c : Code} {Q Q' : Exit → HFrame → HHeap → Prop} {fr : HFrame} {H : HHeap} (hq : ∀ e fr H, Q e fr H → Q' e fr H) (h : Hwp P c Q fr H) : Hwp P c Q' fr H :=
  fun B μ w a hR hf => wp_mono (h B μ w a hR hf) fun _ _ _ => Lift.mono hq

theorem Hwp.ok {c : Code} {Q : Exit → HFrame → HHeap → Prop} {fr : HFrame} {H : HHeap} (h : H.Ok → Hwp P c Q fr H) : Hwp P c Q fr H :=
  fun B μ w a hR hf => h hR.ok B μ w a hR hf

theorem Hwp.seq {x y : Code} {Q : Exit → HFrame → HHeap → Prop} {fr : HFrame} {H : HHeap} (h : Hwp P x (HThen (Hwp P y Q) Q) fr H) : Hwp P (.seq x y) Q fr H := by
  intro B μ w a hR hf
  refine wp_seq (wp_mono (h B μ w a hR hf) ?_)
  rintro e a' w' ⟨fr', H', μ', q, f, s⟩
  cases e with
  | normal => exact wp_mono (q B μ' w' a' s.rel f) fun _ _ _ => Lift.trans s
  | _ => exact ⟨fr', H', μ', q, f, s⟩

theorem Hwp.block {id : Nat} {c : Code} {Q : Exit → HFrame → HHeap → Prop} {fr : HFrame} {H : HHeap} (h : Hwp P c (HBlock id Q) fr H) : Hwp P (.block id c) Q fr H := by
  intro B μ w a hR hf
  refine wp_block (wp_mono (h B μ w a hR hf) ?_)
  rintro e a' w' ⟨fr', H', μ', q, f, s⟩
  cases e with
  | exit id' =>
    simp only [Exit.inBlock, HBlock] at q ⊢
    split at q
    · rw [if_pos ‹_›]; exact ⟨fr', H', μ', q, f, s⟩
    · rw [if_neg ‹_›]; exact ⟨fr', H', μ', q, f, s⟩
  | _ => exact ⟨fr', H', μ', q, f, s⟩

theorem Hwp.cond {c : Operand} {x y : Code} {Q : Exit → HFrame → HHeap → Prop} {fr : HFrame} {H : HHeap} {b : Bool} (hb : hev fr c = some (.bool b)) (h1 : b = true → Hwp P x Q fr H) (h2 : b = false → Hwp P y Q fr H) : Hwp P (.cond c x y) Q fr H := by
  intro B μ w a hR hf
  have hr := hev_rel hf hb
  have he : a.eval c = .bool b := by generalize a.eval c = z at hr; cases hr; rfl
  exact wp_cond_split he (fun e => h1 e B μ w a hR hf) (fun e => h2 e B μ w a hR hf)

theorem Hwp.region {id : Nat} {ops : Array Oper} {Q : Exit → HFrame → HHeap → Prop} {fr : HFrame} {H : HHeap} (h : HOps P ops ops.toList fr H (Q .normal)) : Hwp P (.region id ops false) Q fr H :=
  fun B μ w a hR hf => wp_region_list (hops_sound ops.toList fr H h B μ H w μ w a (Step.refl hR) hf)

/-- A measure by which a loop ends need not be a function of the frame. -/
theorem wp_loop_rel {c : Code} {Q : Exit → Act → World → Prop} {a : Act} {w : World} (I : Nat → Act → World → Prop) (n : Nat) (h0 : I n a w)
    (round : ∀ n a w, I n a w → c.wp P (Exit.then (fun a' w' => ∃ m, m < n ∧ I m a' w') Q) a w) : (Code.loop c).wp P Q a w := by
  have least : ∀ a w, (∃ n, I n a w) → ∃ n, I n a w ∧ ∀ m, m < n → ¬ I m a w := by
    intro a w ⟨n, hn⟩
    induction n using Nat.strongRecOn with
    | _ n ih =>
      by_cases hm : ∃ m, m < n ∧ I m a w
      · obtain ⟨m, hm1, hm2⟩ := hm; exact ih m hm1 hm2
      · exact ⟨n, hn, fun m h1 h2 => hm ⟨m, h1, h2⟩⟩
  let ms : Act → World → Nat := fun a w => open Classical in if h : ∃ n, I n a w then Classical.choose (least a w h) else 0
  have hms : ∀ a w (h : ∃ n, I n a w), I (ms a w) a w ∧ ∀ m, I m a w → ms a w ≤ m := by
    intro a w h
    have hd : ms a w = Classical.choose (least a w h) := by simp only [ms, dif_pos h]
    have hs := Classical.choose_spec (least a w h)
    rw [hd]
    exact ⟨hs.1, fun m hm => Nat.le_of_not_lt fun hlt => hs.2 m hlt hm⟩
  refine wp_loop (fun a w => ∃ n, I n a w) ms ⟨n, h0⟩ fun a w hI => ?_
  obtain ⟨k1, k2⟩ := hms a w hI
  refine wp_mono (round _ a w k1) ?_
  intro e a' w' q
  cases e with
  | normal =>
    obtain ⟨m, hm, hI'⟩ := q
    exact ⟨⟨m, hI'⟩, Nat.lt_of_le_of_lt ((hms a' w' ⟨m, hI'⟩).2 m hI') hm⟩
  | _ => exact q

/-- A loop: what holds at each head, and a number that goes down. -/
theorem Hwp.loop {c : Code} {Q : Exit → HFrame → HHeap → Prop} {fr : HFrame} {H : HHeap} (I : Nat → HFrame → HHeap → Prop) (n : Nat) (h0 : I n fr H)
    (round : ∀ n fr H, I n fr H → Hwp P c (HThen (fun fr' H' => ∃ m, m < n ∧ I m fr' H') Q) fr H) : Hwp P (.loop c) Q fr H := by
  intro B μ w a hR hf
  refine wp_loop_rel (fun n a' w' => ∃ fr' H' μ', I n fr' H' ∧ FRel μ' fr' a' ∧ Step B μ H w μ' H' w') n ⟨fr, H, μ, h0, hf, Step.refl hR⟩ ?_
  rintro n a' w' ⟨fr', H', μ', hI, hf', s⟩
  refine wp_mono (round n fr' H' hI B μ' w' a' s.rel hf') ?_
  rintro e a2 w2 ⟨fr2, H2, μ2, q, f2, s2⟩
  cases e with
  | normal =>
    obtain ⟨m, hm, hI2⟩ := q
    exact ⟨m, hm, fr2, H2, μ2, hI2, f2, s.trans s2⟩
  | _ => exact ⟨fr2, H2, μ2, q, f2, s.trans s2⟩

/-- The results of a function. -/
def hresult (P : Program) (fr : HFrame) (H : HHeap) : ResultVar → Option Value
  | .tmp t => fr.get t
  | .cell a t => match fr.get a with
    | some p => hload P H t p
    | none => none

def hresults (P : Program) (fr : HFrame) (H : HHeap) : List ResultVar → Option (List Value)
  | [] => some []
  | r :: rs => (hresult P fr H r).bind fun v => (hresults P fr H rs).map fun vs => v :: vs

def htuple : List Value → Value
  | [v] => v
  | vs => .tuple vs.toArray

/-- How the model reads one result. -/
def resVar (tmps : Array Value) : ResultVar → Sem Value
  | .tmp t => pure (tmps.getD t undef)
  | .cell a t => do loadVar t (← asAddr (tmps.getD a undef))

theorem results_eq (fn : Func) (tmps : Array Value) : results fn tmps = (do let vs ← fn.results.mapM (resVar tmps); pure (if h : vs.size = 1 then vs[0] else .tuple vs)) := by
  rfl

theorem run_results {B : Nat} {μ : Mu} {H : HHeap} {w : World} (h : Rel B μ H w) {fr : HFrame} {a : Act} (hf : FRel μ fr a) : ∀ (rs : List ResultVar) (vs : List Value), hresults P fr H rs = some vs →
    ∃ vs', VRels μ vs vs' ∧ (rs.mapM (m := Sem) (resVar a.tmps)).run P w = .ok vs' w
  | [], vs, e => by simp [hresults] at e; subst e; exact ⟨[], .nil, rfl⟩
  | r :: rs, vs, e => by
    simp only [hresults, Option.bind_eq_some_iff, Option.map_eq_some_iff] at e
    obtain ⟨v, hv, vs1, hvs, e⟩ := e
    subst e
    obtain ⟨vs', h1, h2⟩ := run_results h hf rs vs1 hvs
    have hget : ∀ (t : Nat) (u : Value), fr.get t = some u → VRel μ u (a.tmps.getD t undef) := fun t u e => by
      have := hev_rel hf (x := .tmp t) (v := u) e
      exact this
    cases r with
    | tmp t =>
      refine ⟨a.tmps.getD t undef :: vs', .cons _ _ _ _ (hget t v hv) h1, ?_⟩
      simp only [List.mapM_cons, resVar, Sem.run_bind, Sem.run_pure, Result.andThen_ok, h2]
    | cell ad t =>
      simp only [hresult] at hv
      split at hv
      · rename_i p hp
        have hr := hget ad p hp
        obtain ⟨u', k1, k2⟩ := sim_load (P := P) h hv hr
        have hpq : ∃ x, a.tmps.getD ad undef = .pointer (some x) := by
          generalize a.tmps.getD ad undef = q at hr
          unfold hload at hv
          split at hv
          · cases hr; exact ⟨_, rfl⟩
          · cases hv
        obtain ⟨x, hx⟩ := hpq
        have k1' : (loadVar t x).run P w = .ok u' w := by simpa [Instr.loadAt, Instr.sureAddr, hx] using k1
        have ka : (asAddr (a.tmps.getD ad undef)).run P w = .ok x w := by rw [hx]; rfl
        refine ⟨u' :: vs', .cons _ _ _ _ k2 h1, ?_⟩
        simp only [List.mapM_cons, resVar, Sem.run_bind, Sem.run_pure, Result.andThen_ok, ka, k1', h2]
      · cases hv

/-- The frame at a function's head: its arguments. -/
def hframe0 (args : List Value) (n : Nat) : HFrame := ⟨args.length + (n - args.length), fun t => args[t]?⟩

/-- A FUNCTION, BY ITS BODY. -/
theorem HCalls.of_body {f : FuncId} {fn : Func} {c : Code} {args : List Value} {H : HHeap} {R : Value → HHeap → Prop} (hfn : P.funcs[f]? = some fn) (hc : fn.body = some c)
    (h : Hwp P c (fun e fr H' => (match e with | .normal | .ret => True | _ => False) ∧ ∃ vs, hresults P fr H' fn.results.toList = some vs ∧ R (htuple vs) H')
      (hframe0 args fn.ntmps) H) : HCalls P f args H R := by
  intro B μ w args' hR hv
  refine calls_of_wp hfn hc ?_
  have hf : FRel μ (hframe0 args fn.ntmps) { tmps := args'.toArray ++ Array.replicate (fn.ntmps - args'.toArray.size) undef, defers := [] } := by
    have hl := hv.length
    refine ⟨by simp [hframe0, hl], fun t v e => ?_, rfl⟩
    obtain ⟨v', h1, h2⟩ := hv.get t v e
    refine ⟨v', ?_, h2⟩
    have hlt : t < args'.length := by
      rcases Nat.lt_or_ge t args'.length with hh | hh
      · exact hh
      · rw [List.getElem?_eq_none hh] at h1; cases h1
    rw [Array.getElem?_append_left (by simpa using hlt)]
    simpa using h1
  refine wp_mono (h B μ w _ hR hf) ?_
  rintro e a' w' ⟨fr', H', μ', ⟨q1, vs, q2, q3⟩, f', s⟩
  obtain ⟨vs', k1, k2⟩ := run_results s.rel f' _ _ q2
  have hres : (results fn a'.tmps).run P w' = .ok (htuple vs') w' := by
    rw [results_eq, Sem.run_bind, Array.mapM_eq_mapM_toList, Sem.run_map]
    rw [k2]
    simp only [Result.andThen_ok, Sem.run_pure]
    cases vs' with
    | nil => rfl
    | cons x xs => cases xs with
      | nil => rfl
      | cons y ys => simp [htuple]
  have hrel : VRel μ' (htuple vs) (htuple vs') := by
    cases k1 with
    | nil => exact .tuple [] [] .nil
    | cons _ _ _ _ h1 h2 => cases h2 with
      | nil => exact h1
      | cons _ _ _ _ h3 h4 => exact .tuple _ _ (.cons _ _ _ _ h1 (.cons _ _ _ _ h3 h4))
  cases e with
  | normal => exact ⟨f'.defers, _, hres, μ', _, H', _, rfl, q3, hrel, s⟩
  | ret => exact ⟨f'.defers, _, hres, μ', _, H', _, rfl, q3, hrel, s⟩
  | _ => exact absurd q1 (by simp)

end Go.HL
/-
  A high level over the model, part 10: rows of operations whose order is drawn: what writes or calls is in one order, what reads may come later than the order that is walked, and must then read the same.
-/
namespace Go.HL
open Go.RowKit

variable {P : Program}

/-- An operation that leaves the heap as it is. -/
def quiet : Op → Bool
  | .move _ | .assign _ | .pick .. | .build .. | .load .. | .nilCheck _ | .binOp .. | .unOp .. | .convert .. | .makeInterface .. | .makeFunc .. | .slice .. | .fieldAddr .. | .field .. | .indexAddr .. | .index .. | .lookup .. | .extract .. => true
  | .call { callee := .builtin .len, .. } | .call { callee := .builtin .min, .. } | .call { callee := .builtin .max, .. } => true
  | _ => false

/-- .. and reads of it. -/
def reads : Op → Bool
  | .load .. | .lookup .. => true
  | .call { callee := .builtin .len, .. } => true
  | _ => false

theorem quiet_same {fr : HFrame} {H H' : HHeap} {op : Op} {v : Value} (hq : quiet op = true) (h : hop P fr H op = some (v, H')) : H' = H := by
  have key : ∀ {α : Type} {x : Option α} {f : α → Value}, (x.map fun a => (f a, H)) = some (v, H') → H' = H := by
    intro α x f e; cases x <;> simp at e; exact e.2.symm
  cases op <;> first
    | (simp [quiet] at hq; done)
    | (simp only [hop, Option.bind_eq_some_iff] at h; first | exact key h | (obtain ⟨_, _, h⟩ := h; exact key h) | (obtain ⟨_, _, _, _, h⟩ := h; exact key h) | (obtain ⟨_, _, _, _, _, _, _, _, h⟩ := h; exact key h))
    | skip
  case pick => simp only [hop] at h; split at h <;> first | exact key h | cases h
  case nilCheck => simp only [hop] at h; split at h <;> cases h <;> rfl
  case makeInterface =>
    simp only [hop] at h
    split at h
    · cases h
    · split at h <;> first | exact key h | cases h
  case makeFunc => simp only [hop] at h; split at h <;> first | exact key h | cases h
  case indexAddr =>
    simp only [hop, Option.bind_eq_some_iff] at h
    obtain ⟨_, _, h⟩ := h
    split at h <;> first | exact key h | cases h
  case index =>
    simp only [hop, Option.bind_eq_some_iff] at h
    obtain ⟨_, _, h⟩ := h
    split at h <;> first | exact key h | cases h
  case extract => simp only [hop] at h; split at h <;> first | exact key h | cases h
  case call c =>
    obtain ⟨callee, args, ts⟩ := c
    cases callee with
    | builtin b =>
      simp only [hop, Option.bind_eq_some_iff] at h
      obtain ⟨vs, _, h⟩ := h
      unfold hbuiltin at h
      split at h <;> first
        | (simp [quiet] at hq; done)
        | exact key h
        | cases h
    | _ => simp [quiet] at hq

theorem quiet_anywhere {fr : HFrame} {H : HHeap} {op : Op} {v : Value} (hq : quiet op = true) (hr : reads op = false) (h : hop P fr H op = some (v, H)) (H2 : HHeap) : hop P fr H2 op = some (v, H2) := by
  have key : ∀ {α : Type} {x : Option α} {f : α → Value}, (x.map fun a => (f a, H)) = some (v, H) → (x.map fun a => (f a, H2)) = some (v, H2) := by
    intro α x f e; cases x <;> simp at e ⊢; exact e
  cases op <;> first
    | (simp [quiet] at hq; done)
    | (simp [reads] at hr; done)
    | (simp only [hop, Option.bind_eq_some_iff] at h ⊢; first | exact key h | (obtain ⟨x, hx, h⟩ := h; exact ⟨x, hx, key h⟩) | (obtain ⟨x, hx, y, hy, h⟩ := h; exact ⟨x, hx, y, hy, key h⟩) |
        (obtain ⟨x, hx, y, hy, z, hz, u, hu, h⟩ := h; exact ⟨x, hx, y, hy, z, hz, u, hu, key h⟩))
    | skip
  case pick c a b =>
    simp only [hop] at h ⊢
    split at h
    · exact key h
    · exact key h
    · cases h
  case nilCheck x =>
    simp only [hop] at h ⊢
    split at h
    · cases h; rfl
    · cases h; rfl
    · cases h
  case makeInterface =>
    simp only [hop] at h ⊢
    split at h
    · cases h
    · rename_i hk
      rw [if_neg hk]
      split at h
      · rename_i hs; rw [if_pos hs]; exact key h
      · cases h
  case makeFunc =>
    simp only [hop] at h ⊢
    split at h
    · rename_i hs; rw [if_pos hs]; exact key h
    · cases h
  case indexAddr =>
    simp only [hop, Option.bind_eq_some_iff] at h ⊢
    obtain ⟨x, hx, h⟩ := h
    refine ⟨x, hx, ?_⟩
    split at h
    · exact key h
    · cases h
  case index =>
    simp only [hop, Option.bind_eq_some_iff] at h ⊢
    obtain ⟨x, hx, h⟩ := h
    refine ⟨x, hx, ?_⟩
    split at h
    · exact key h
    · cases h
  case extract =>
    simp only [hop] at h ⊢
    split at h
    · exact key h
    · cases h
  case call c =>
    obtain ⟨callee, args, ts⟩ := c
    cases callee with
    | builtin b =>
      simp only [hop, Option.bind_eq_some_iff] at h ⊢
      obtain ⟨vs, hvs, h⟩ := h
      refine ⟨vs, hvs, ?_⟩
      unfold hbuiltin at h ⊢
      split at h <;> first
        | (simp [quiet] at hq; done)
        | (simp [reads] at hr; done)
        | exact key h
        | cases h
    | _ => simp [quiet] at hq

theorem hevs_congr {fr fr' : HFrame} : ∀ (xs : List Operand), (∀ x ∈ xs, hev fr x = hev fr' x) → hevs fr xs = hevs fr' xs
  | [], _ => rfl
  | x :: xs, h => by simp only [hevs, h x (by simp), hevs_congr xs (fun y hy => h y (by simp [hy]))]

theorem hparts_congr {fr fr' : HFrame} : ∀ (xs : List (Nat × Operand)), (∀ x ∈ xs.map (·.2), hev fr x = hev fr' x) → hparts fr xs = hparts fr' xs
  | [], _ => rfl
  | (i, x) :: xs, h => by simp only [hparts, h x (by simp), hparts_congr xs (fun y hy => h y (by simp at hy ⊢; exact .inr hy))]

theorem hopt_congr {fr fr' : HFrame} {x : Option Operand} (h : ∀ y, x = some y → hev fr y = hev fr' y) : hopt fr x = hopt fr' x := by
  cases x with
  | none => rfl
  | some x => simp only [hopt, h x rfl]

theorem hop_congr {fr fr' : HFrame} {H : HHeap} {op : Op} (h : ∀ x ∈ op.operands, hev fr x = hev fr' x) : hop P fr H op = hop P fr' H op := by
  cases op <;> simp only [Op.operands] at h <;> try rfl
  case move x => simp only [hop, h x (by simp)]
  case assign x => simp only [hop, h x (by simp)]
  case pick c a b => simp only [hop, h c (by simp), h a (by simp), h b (by simp)]
  case box t x => simp only [hop, h x (by simp)]
  case build t ps => simp only [hop]; rw [hparts_congr ps.toList (fun x hx => h x (by simpa using hx))]
  case buildSlice t n ps => simp only [hop]; rw [hparts_congr ps.toList (fun x hx => h x (by simpa using hx))]
  case insert t m k x => simp only [hop, h m (by simp), h k (by simp), h x (by simp)]
  case load t x => simp only [hop, h x (by simp)]
  case store t x y => simp only [hop, h x (by simp), h y (by simp)]
  case nilCheck x => simp only [hop, h x (by simp)]
  case binOp op t x y u => simp only [hop, h x (by simp), h y (by simp)]
  case unOp op t x => simp only [hop, h x (by simp)]
  case convert s d x => simp only [hop, h x (by simp)]
  case makeInterface t x => simp only [hop, h x (by simp)]
  case makeFunc fn first captured => simp only [hop]; rw [hevs_congr captured.toList (fun x hx => h x (by simp at hx ⊢; exact .inr hx))]
  case makeMap t r => cases r <;> rfl
  case makeSlice t x y => simp only [hop, h x (by simp), h y (by simp)]
  case slice t x lo hi mx =>
    simp only [hop]
    rw [h x (by simp), hopt_congr (x := lo) (fun y e => h y (by simp [e])), hopt_congr (x := hi) (fun y e => h y (by simp [e])), hopt_congr (x := mx) (fun y e => h y (by simp [e]))]
  case fieldAddr t x f => simp only [hop, h x (by simp)]
  case field t x f => simp only [hop, h x (by simp)]
  case indexAddr t x y => simp only [hop, h x (by simp), h y (by simp)]
  case index t x y => simp only [hop, h x (by simp), h y (by simp)]
  case lookup t m k ok => simp only [hop, h m (by simp), h k (by simp)]
  case mapUpdate t m k x => simp only [hop, h m (by simp), h k (by simp), h x (by simp)]
  case extract x i => simp only [hop, h x (by simp)]
  case call c =>
    obtain ⟨callee, args, ts⟩ := c
    cases callee with
    | builtin b => simp only [hop]; rw [hevs_congr args.toList (fun x hx => h x (by simp [Call.operands]; simpa using hx))]
    | _ => rfl

theorem hcallee_congr {fr fr' : HFrame} {op : Op} (h : ∀ x ∈ op.operands, hev fr x = hev fr' x) : hcallee P fr op = hcallee P fr' op := by
  unfold hcallee
  split
  · rename_i x as ts
    simp only [Op.operands, Call.operands] at h
    rw [h x (by simp), hevs_congr as.toList (fun y hy => h y (by simp at hy ⊢; exact .inr hy))]
  · rfl

end Go.HL
/-
  A high level over the model, part 11: the rule for a row whose order is drawn.
-/
namespace Go.HL
set_option linter.unusedSimpArgs false
set_option linter.unusedVariables false
open Go.RowKit

variable {P : Program}

/-- Which operations must be ahead of each, by their places, as bits. -/
def ancMasks (ops : Array Oper) : List Nat :=
  ops.toList.foldl (fun acc o => acc ++ [o.after.toList.foldl (fun m e => if Region.binds .any e ∧ e.on < acc.length then m ||| 2 ^ e.on ||| acc.getD e.on 0 else m) 0]) []

def anc (ms : List Nat) (i k : Nat) : Bool := (ms.getD k 0).testBit i

/-- Each bit comes of an edge. -/
def ancOk (ops : Array Oper) (ms : List Nat) : Bool :=
  (List.range ops.size).all fun k => (List.range ops.size).all fun i => !anc ms i k ||
    (match ops[k]? with | some o => o.after.toList.any fun e => Region.binds .any e && decide (e.on < k) && (e.on == i || anc ms i e.on) | none => false)

/-- Two operations that share a slot are in one order. -/
def pairOk (ops : Array Oper) (ms : List Nat) (i k : Nat) : Bool :=
  match ops[i]?, ops[k]? with
  | some oi, some ok => Oper.apart ops oi ok || anc ms i k || anc ms k i
  | _, _ => false

def pairsOk (ops : Array Oper) (ms : List Nat) : Bool :=
  (List.range ops.size).all fun i => (List.range ops.size).all fun k => i == k || pairOk ops ms i k

/-- How a row is walked: what is quiet as soon as it may be; of what writes, each that may be next. -/
inductive WT where
  | done
  | op (i : Nat) (t : WT)
  | eff (i : Nat) (t other : WT)
  | stop

/-- May an operation be next? -/
def nextOk (ops : Array Oper) (walked : List Nat) (i : Nat) : Bool :=
  !walked.contains i && match ops[i]? with
    | some o => o.after.toList.all fun e => !Region.binds .any e || walked.contains e.on
    | none => false

def isQuiet (ops : Array Oper) (i : Nat) : Bool :=
  match ops[i]? with
  | some o => quiet o.op
  | none => false

/-- The operations that are next of an alternative. -/
def WT.alts : WT → List Nat
  | .eff i _ other => i :: other.alts
  | _ => []

/-- A way of walking that leaves nothing out. (whole: it isn't the tail of an alternative.) -/
def wtOk (ops : Array Oper) : Bool → List Nat → WT → Bool
  | whole, walked, .done => whole && (List.range ops.size).all fun i => walked.contains i
  | whole, walked, .op i t => whole && nextOk ops walked i && isQuiet ops i && wtOk ops true (walked ++ [i]) t
  | whole, walked, .eff i t other => nextOk ops walked i && !isQuiet ops i && wtOk ops true (walked ++ [i]) t && wtOk ops false walked other &&
      (!whole || (List.range ops.size).all fun k => !nextOk ops walked k || (i :: other.alts).contains k)
  | whole, _, .stop => !whole

def orderOk (ops : Array Oper) (ms : List Nat) (t : WT) : Bool := ancOk ops ms && pairsOk ops ms && wtOk ops true [] t

/-- What was read, and may be read later. -/
structure Late where
  idx : Nat
  o : Oper
  fr : HFrame
  v : Value

def LateOk (P : Program) (ms : List Nat) (k : Nat) (H : HHeap) : List Late → Prop
  | [] => True
  | l :: ls => (anc ms l.idx k = true ∨ hop P l.fr H l.o.op = some (l.v, H)) ∧ LateOk P ms k H ls

theorem LateOk.mem {ms : List Nat} {k : Nat} {H : HHeap} {l : Late} : ∀ (ls : List Late), LateOk P ms k H ls → l ∈ ls → anc ms l.idx k = true ∨ hop P l.fr H l.o.op = some (l.v, H) := by
  intro ls
  induction ls with
  | nil => intro _ h; simp at h
  | cons x ls ih =>
    intro h hm
    rcases List.mem_cons.1 hm with rfl | hm
    · exact h.1
    · exact ih h.2 hm

/-- One operation that is quiet. -/
def HStepQ (P : Program) (ops : Array Oper) (i : Nat) (late : List Late) (fr : HFrame) (H : HHeap) (next : List Late → HFrame → HHeap → Prop) : Prop :=
  match ops[i]? with
  | none => False
  | some o =>
    match hwanted ops fr o with
    | some false => next late (hput fr o.dst undef) H
    | some true =>
      (match hop P fr H o.op with
       | some (v, _) => next (if reads o.op then ⟨i, o, fr, v⟩ :: late else late) (hput fr o.dst v) H
       | none => False)
    | none => False

/-- One that is not. -/
def HStepE (P : Program) (ops : Array Oper) (ms : List Nat) (i : Nat) (late : List Late) (fr : HFrame) (H : HHeap) (next : List Late → HFrame → HHeap → Prop) : Prop :=
  match ops[i]? with
  | none => False
  | some o =>
    match hwanted ops fr o with
    | some false => next late (hput fr o.dst undef) H
    | some true =>
      (match hcallee P fr o.op with
       | some (f, args) => HCalls P f args H fun v H' => LateOk P ms i H' late ∧ next late (hput fr o.dst v) H'
       | none =>
         match hop P fr H o.op with
         | some (v, H') => LateOk P ms i H' late ∧ next late (hput fr o.dst v) H'
         | none => False)
    | none => False

/-- A row, walked so. -/
def HDraw (P : Program) (ops : Array Oper) (ms : List Nat) (K : HFrame → HHeap → Prop) : WT → List Late → HFrame → HHeap → Prop
  | .done, _, fr, H => K fr H
  | .op i t, late, fr, H => HStepQ P ops i late fr H (HDraw P ops ms K t)
  | .eff i t other, late, fr, H => HStepE P ops ms i late fr H (HDraw P ops ms K t) ∧ HDraw P ops ms K other late fr H
  | .stop, _, _, _ => True

/-- What has been walked: the operation, the frame ahead of it, whether it was wanted, its value. -/
structure Ent where
  idx : Nat
  o : Oper
  fr : HFrame
  on : Bool
  v : Value

/-- The frame behind those of a row that are there. -/
def runS (S : Nat → Bool) : List Ent → HFrame → HFrame
  | [], fr => fr
  | t :: T, fr => runS S T (if S t.idx then hput fr t.o.dst t.v else fr)

theorem hput_size (fr : HFrame) (d : Option Tmp) (v : Value) : (hput fr d v).size = fr.size := by
  cases d with
  | none => rfl
  | some d => simp only [hput]; split <;> rfl

theorem runS_size (S : Nat → Bool) : ∀ (T : List Ent) (fr : HFrame), (runS S T fr).size = fr.size
  | [], _ => rfl
  | t :: T, fr => by rw [runS, runS_size S T]; split <;> simp [hput_size]

theorem runS_append (S : Nat → Bool) : ∀ (T U : List Ent) (fr : HFrame), runS S (T ++ U) fr = runS S U (runS S T fr)
  | [], _, _ => rfl
  | t :: T, U, fr => runS_append S T U _

theorem hput_other {fr : HFrame} {d : Option Tmp} {v : Value} {t : Nat} (h : d ≠ some t) : (hput fr d v).get t = fr.get t := by
  cases d with
  | none => rfl
  | some d =>
    simp only [hput]
    split
    · simp only; rw [if_neg]; intro e; exact h (by rw [e])
    · rfl

theorem hput_same {fr fr' : HFrame} {t : Nat} {v : Value} (h : fr.get t = fr'.get t) (hs : fr.size = fr'.size) : (hput fr (some t) v).get t = (hput fr' (some t) v).get t := by
  simp only [hput, hs]
  split
  · simp
  · exact h

theorem hput_comm {fr : HFrame} {d u : Nat} {v x : Value} (h : u ≠ d) : hput (hput fr (some d) v) (some u) x = hput (hput fr (some u) x) (some d) v := by
  simp only [hput]
  by_cases hd : d < fr.size <;> by_cases hu : u < fr.size <;> simp only [hd, hu, if_true, if_false]
  congr 1
  funext t
  by_cases h1 : t = d
  · subst h1; simp [Ne.symm h]
  · simp [h1]

/-- Two rows' frames agree at a slot that none of the operations, of which they speak differently, writes. -/
theorem runS_agree {S S' : Nat → Bool} {t : Nat} : ∀ (T : List Ent) (fr fr' : HFrame), fr.get t = fr'.get t → fr.size = fr'.size → (∀ x ∈ T, x.o.dst = some t → S x.idx = S' x.idx) → (runS S T fr).get t = (runS S' T fr').get t
  | [], _, _, h, _, _ => h
  | x :: T, fr, fr', h, hl, hs => by
    rw [runS, runS]
    refine runS_agree T _ _ ?_ ?_ (fun y hy => hs y (by simp [hy]))
    · by_cases hd : x.o.dst = some t
      · rw [hs x (by simp) hd]
        split
        · rw [hd]; exact hput_same h hl
        · exact h
      · split <;> split <;> simp [hput_other hd, h]
    · split <;> split <;> simp [hput_size, hl]

theorem runS_all {S : Nat → Bool} : ∀ (T : List Ent) (fr : HFrame), (∀ x ∈ T, S x.idx = true) → runS S T fr = runS (fun _ => true) T fr
  | [], _, _ => rfl
  | x :: T, fr, h => by rw [runS, runS, h x (by simp), runS_all T _ (fun y hy => h y (by simp [hy]))]

theorem runS_none {S : Nat → Bool} : ∀ (T : List Ent) (fr : HFrame), (∀ x ∈ T, S x.idx = false) → runS S T fr = fr
  | [], _, _ => rfl
  | x :: T, fr, h => by rw [runS, h x (by simp)]; exact runS_none T _ (fun y hy => h y (by simp [hy]))

theorem runS_congr {S S' : Nat → Bool} : ∀ (T : List Ent) (fr : HFrame), (∀ x ∈ T, S x.idx = S' x.idx) → runS S T fr = runS S' T fr
  | [], _, _ => rfl
  | x :: T, fr, h => by rw [runS, runS, h x (by simp), runS_congr T _ (fun y hy => h y (by simp [hy]))]

/-- A write that nothing behind it writes over may come last. -/
theorem runS_last {S : Nat → Bool} {d : Option Tmp} {v : Value} : ∀ (T : List Ent) (fr : HFrame), (∀ x ∈ T, S x.idx = true → ∀ t, d = some t → x.o.dst ≠ some t) → runS S T (hput fr d v) = hput (runS S T fr) d v
  | [], _, _ => rfl
  | x :: T, fr, h => by
    rw [runS, runS]
    by_cases hx : S x.idx = true
    · rw [if_pos hx, if_pos hx]
      have hc : hput (hput fr d v) x.o.dst x.v = hput (hput fr x.o.dst x.v) d v := by
        cases d with
        | none => rfl
        | some t =>
          cases hxd : x.o.dst with
          | none => rfl
          | some u =>
            have : u ≠ t := fun e => h x (by simp) hx t rfl (by rw [hxd, e])
            exact hput_comm this
      rw [hc]
      exact runS_last T _ (fun y hy => h y (by simp [hy]))
    · rw [if_neg hx, if_neg hx]
      exact runS_last T _ (fun y hy => h y (by simp [hy]))

/-- What an operation looks at, by frames. -/
theorem looks_congr {ops : Array Oper} {o : Oper} {fr fr' : HFrame} (h : ∀ t, t ∈ o.looksAt ops → fr.get t = fr'.get t) :
    (∀ x ∈ o.op.operands, hev fr x = hev fr' x) ∧ hwanted ops fr o = hwanted ops fr' o := by
  constructor
  · intro x hx
    cases x with
    | tmp t =>
      simp only [hev]
      refine h t ?_
      simp only [Oper.looksAt, List.mem_append, List.mem_filterMap]
      exact .inl ⟨.tmp t, by simpa using hx, rfl⟩
    | _ => rfl
  · unfold hwanted
    cases hg : o.guard with
    | none => rfl
    | some g =>
      obtain ⟨j, want⟩ := g
      simp only
      cases hd : (ops[j]?).bind (·.dst) with
      | none => rfl
      | some d =>
        have : fr.get d = fr'.get d := h d (by simp [Oper.looksAt, hg, hd])
        simp only [Option.bind_some, this]

section static
variable {ops : Array Oper} {ms : List Nat} {c : List Nat}

/-- What is closed under the edges holds what must be ahead. -/
theorem anc_closed (h : ancOk ops ms = true) (S : Nat → Prop) (hS : ∀ k o, S k → ops[k]? = some o → ∀ e ∈ o.after.toList, Region.binds .any e = true → S e.on) :
    ∀ (k i : Nat), k < ops.size → i < ops.size → anc ms i k = true → (∀ o, ops[k]? = some o → ∀ e ∈ o.after.toList, Region.binds .any e = true → S e.on) → S i := by
  intro k
  induction k using Nat.strongRecOn with
  | _ k ih =>
    intro i hk hi ha hedge
    unfold ancOk at h
    rw [List.all_eq_true] at h
    have h1 := h k (by simpa using hk)
    rw [List.all_eq_true] at h1
    have h2 := h1 i (by simpa using hi)
    rw [ha] at h2
    simp only [Bool.not_true, Bool.false_or] at h2
    split at h2
    · rename_i o ho
      rw [List.any_eq_true] at h2
      obtain ⟨e, he, h2⟩ := h2
      simp only [Bool.and_eq_true, Bool.or_eq_true, decide_eq_true_eq, beq_iff_eq] at h2
      obtain ⟨⟨hb, hlt⟩, h3⟩ := h2
      have hSe := hedge o ho e he hb
      rcases h3 with h3 | h3
      · rw [← h3]; exact hSe
      · exact ih e.on hlt i (by omega) hi h3 (fun o' ho' => hS e.on o' hSe ho')
    · cases h2

theorem pairOk_spec (h : pairsOk ops ms = true) {i k : Nat} {oi ok : Oper} (hne : i ≠ k) (hi : ops[i]? = some oi) (hk : ops[k]? = some ok) : Oper.apart ops oi ok = true ∨ anc ms i k = true ∨ anc ms k i = true := by
  unfold pairsOk at h
  rw [List.all_eq_true] at h
  have h1 := h i (by simpa using (Array.getElem?_eq_some_iff.1 hi).1)
  rw [List.all_eq_true] at h1
  have h2 := h1 k (by simpa using (Array.getElem?_eq_some_iff.1 hk).1)
  simp only [Bool.or_eq_true, beq_iff_eq, hne, false_or, pairOk, hi, hk] at h2
  rcases h2 with (h2 | h2) | h2
  · exact .inl h2
  · exact .inr (.inl h2)
  · exact .inr (.inr h2)

theorem nextOk_spec {walked : List Nat} {i : Nat} (h : nextOk ops walked i = true) : i ∉ walked ∧ ∃ o, ops[i]? = some o ∧ ∀ e ∈ o.after.toList, Region.binds .any e = true → e.on ∈ walked := by
  unfold nextOk at h
  simp only [Bool.and_eq_true, Bool.not_eq_true', List.contains_eq_mem, decide_eq_false_iff_not] at h
  refine ⟨h.1, ?_⟩
  split at h
  · rename_i o ho
    refine ⟨o, ho, fun e he hb => ?_⟩
    have := List.all_eq_true.1 h.2 e he
    simpa [hb] using this
  · cases h.2

theorem nextOk_of {walked : List Nat} {i : Nat} {o : Oper} (hn : i ∉ walked) (ho : ops[i]? = some o) (h : ∀ e ∈ o.after.toList, Region.binds .any e = true → e.on ∈ walked) : nextOk ops walked i = true := by
  unfold nextOk
  simp only [ho, Bool.and_eq_true, Bool.not_eq_true', List.contains_eq_mem, decide_eq_false_iff_not]
  refine ⟨hn, List.all_eq_true.2 fun e he => ?_⟩
  cases hb : Region.binds .any e with
  | false => rfl
  | true => simpa using h e he hb
end static

/-- What is known of what was walked. -/
structure EntOk (P : Program) (ops : Array Oper) (fr0 : HFrame) (T1 : List Ent) (t : Ent) : Prop where
  op : ops[t.idx]? = some t.o
  fr : t.fr = runS (fun _ => true) T1 fr0
  wanted : hwanted ops t.fr t.o = some t.on
  off : t.on = false → t.v = undef

/-- How it stands within a drawn row: what is listed, what was walked, what is left to be walked. -/
structure Inv (P : Program) (ops : Array Oper) (ms : List Nat) (K : HFrame → HHeap → Prop) (B : Nat) (μ0 : Mu) (H0 : HHeap) (w0 : World) (fr0 : HFrame)
    (S : Nat → Bool) (T : List Ent) (tree : WT) (late : List Late) (H : HHeap) (μ : Mu) (w : World) (a : Act) : Prop where
  ok : wtOk ops true (T.map (·.idx)) tree = true
  walk : HDraw P ops ms K tree late (runS (fun _ => true) T fr0) H
  head : ∀ i t, tree ≠ .op i t
  inT : ∀ i, S i = true → i ∈ T.map (·.idx)
  closed : ∀ k o, S k = true → ops[k]? = some o → ∀ e ∈ o.after.toList, Region.binds .any e = true → S e.on = true
  nodup : (T.map (·.idx)).Nodup
  ents : ∀ T1 t T2, T = T1 ++ t :: T2 → EntOk P ops fr0 T1 t ∧ (∀ e ∈ t.o.after.toList, Region.binds .any e = true → e.on ∈ T1.map (·.idx)) ∧
    (S t.idx = false → quiet t.o.op = true ∧ (t.on = true → hop P t.fr H t.o.op = some (t.v, H) ∧ (reads t.o.op = true → (⟨t.idx, t.o, t.fr, t.v⟩ : Late) ∈ late)))
  frame : FRel μ (runS S T fr0) a
  step : Step B μ0 H0 w0 μ H w

/-- All that is quiet is walked at once. -/
theorem advance {ops : Array Oper} {ms : List Nat} {K : HFrame → HHeap → Prop} {H : HHeap} : ∀ (tree : WT) (walked : List Nat) (late : List Late) (fr : HFrame), walked.Nodup → wtOk ops true walked tree = true → HDraw P ops ms K tree late fr H →
    ∃ (T : List Ent) (tree' : WT) (late' : List Late), wtOk ops true (walked ++ T.map (·.idx)) tree' = true ∧ HDraw P ops ms K tree' late' (runS (fun _ => true) T fr) H ∧ (∀ i t, tree' ≠ .op i t) ∧
      (∀ l ∈ late, l ∈ late') ∧ (walked ++ T.map (·.idx)).Nodup ∧ ∀ T1 t T2, T = T1 ++ t :: T2 → EntOk P ops fr T1 t ∧ (∀ e ∈ t.o.after.toList, Region.binds .any e = true → e.on ∈ walked ++ T1.map (·.idx)) ∧ quiet t.o.op = true ∧
        (t.on = true → hop P t.fr H t.o.op = some (t.v, H) ∧ (reads t.o.op = true → (⟨t.idx, t.o, t.fr, t.v⟩ : Late) ∈ late')) := by
  intro tree
  induction tree with
  | op i t ih =>
    intro walked late fr hnd hok h
    simp only [wtOk, Bool.and_eq_true, Bool.true_and] at hok
    obtain ⟨⟨hnext, hq⟩, hok⟩ := hok
    obtain ⟨hni, o, ho, hedge⟩ := nextOk_spec hnext
    have hq' : quiet o.op = true := by simpa [isQuiet, ho] using hq
    have hnd' : (walked ++ [i]).Nodup := List.nodup_append.2 ⟨hnd, by simp, fun a ha b hb => by simp at hb; subst hb; exact fun e => hni (by rw [← e]; exact ha)⟩
    simp only [HDraw, HStepQ, ho] at h
    have cont : ∀ (on : Bool) (v : Value) (late1 : List Late), hwanted ops fr o = some on → (on = false → v = undef) → (∀ l ∈ late, l ∈ late1) → (on = true → hop P fr H o.op = some (v, H) ∧ (reads o.op = true → (⟨i, o, fr, v⟩ : Late) ∈ late1)) →
        HDraw P ops ms K t late1 (hput fr o.dst v) H →
        ∃ (T : List Ent) (tree' : WT) (late' : List Late), wtOk ops true (walked ++ T.map (·.idx)) tree' = true ∧ HDraw P ops ms K tree' late' (runS (fun _ => true) T fr) H ∧ (∀ i t, tree' ≠ .op i t) ∧
          (∀ l ∈ late, l ∈ late') ∧ (walked ++ T.map (·.idx)).Nodup ∧ ∀ T1 t T2, T = T1 ++ t :: T2 → EntOk P ops fr T1 t ∧ (∀ e ∈ t.o.after.toList, Region.binds .any e = true → e.on ∈ walked ++ T1.map (·.idx)) ∧ quiet t.o.op = true ∧
            (t.on = true → hop P t.fr H t.o.op = some (t.v, H) ∧ (reads t.o.op = true → (⟨t.idx, t.o, t.fr, t.v⟩ : Late) ∈ late')) := by
      intro on v late1 hw hoff hsub hon hd
      obtain ⟨T, tree', late', e1, e2, e3, e4, e6, e5⟩ := ih (walked ++ [i]) late1 _ hnd' hok hd
      refine ⟨⟨i, o, fr, on, v⟩ :: T, tree', late', by simpa using e1, e2, e3, fun l hl => e4 l (hsub l hl), by simpa using e6, ?_⟩
      intro T1 u T2 hT
      cases T1 with
      | nil =>
        simp only [List.nil_append, List.cons.injEq] at hT
        obtain ⟨rfl, rfl⟩ := hT
        exact ⟨⟨ho, rfl, hw, hoff⟩, by simpa using hedge, hq', fun h => ⟨(hon h).1, fun hr => e4 _ ((hon h).2 hr)⟩⟩
      | cons x T1 =>
        simp only [List.cons_append, List.cons.injEq] at hT
        obtain ⟨rfl, rfl⟩ := hT
        obtain ⟨k1, k4, k2, k3⟩ := e5 T1 u T2 rfl
        exact ⟨⟨k1.op, k1.fr, k1.wanted, k1.off⟩, by simpa using k4, k2, k3⟩
    split at h
    · rename_i hw
      exact cont false undef late hw (fun _ => rfl) (fun _ h => h) (by simp) h
    · rename_i hw
      split at h
      · rename_i v H1 hv
        have := quiet_same hq' hv
        subst this
        refine cont true v _ hw (by simp) ?_ (fun _ => ⟨hv, ?_⟩) h
        · intro l hl; split
          · exact List.mem_cons_of_mem _ hl
          · exact hl
        · intro hr; rw [if_pos hr]; exact List.mem_cons_self
      · exact h.elim
    · exact h.elim
  | _ =>
    intro walked late fr hnd hok h
    exact ⟨[], _, late, by simpa using hok, h, by simp, fun _ h => h, by simpa using hnd, by simp⟩

section main
variable {ops : Array Oper} {ms : List Nat} {K : HFrame → HHeap → Prop} {B : Nat} {μ0 : Mu} {H0 : HHeap} {w0 : World} {fr0 : HFrame}

theorem apart_looks {x y : Oper} {s : Nat} (h : x.dst = some s) (hl : s ∈ y.looksAt ops) : Oper.apart ops x y = false := by
  cases hh : Oper.apart ops x y with
  | false => rfl
  | true => exact absurd hl ((Oper.apart_spec hh).1 s h)
theorem apart_looks' {x y : Oper} {s : Nat} (h : y.dst = some s) (hl : s ∈ x.looksAt ops) : Oper.apart ops x y = false := by
  cases hh : Oper.apart ops x y with
  | false => rfl
  | true => exact absurd hl ((Oper.apart_spec hh).2.2 s h)
theorem apart_dst {x y : Oper} {s : Nat} (h : x.dst = some s) (hl : y.dst = some s) : Oper.apart ops x y = false := by
  cases hh : Oper.apart ops x y with
  | false => rfl
  | true => exact absurd hl ((Oper.apart_spec hh).2.1 s h)

/-- Of the alternatives each can be had. -/
theorem alt_mem {walked : List Nat} {fr : HFrame} {H : HHeap} {late : List Late} {i : Nat} : ∀ (tree : WT) (b : Bool), wtOk ops b walked tree = true → HDraw P ops ms K tree late fr H → i ∈ tree.alts →
    ∃ t, wtOk ops true (walked ++ [i]) t = true ∧ isQuiet ops i = false ∧ HStepE P ops ms i late fr H (HDraw P ops ms K t) := by
  intro tree
  induction tree with
  | eff j t other _ ih =>
    intro b hok h hi
    simp only [wtOk, Bool.and_eq_true, Bool.not_eq_true'] at hok
    obtain ⟨⟨⟨⟨h1, h2⟩, h3⟩, h4⟩, _⟩ := hok
    simp only [WT.alts, List.mem_cons] at hi
    rcases hi with rfl | hi
    · exact ⟨t, h3, h2, h.1⟩
    · exact ih false h4 h.2 hi
  | _ => intro b hok h hi; simp [WT.alts] at hi

/-- Something that is ready is done. -/
theorem Inv.go (hanc : ancOk ops ms = true) (hpairs : pairsOk ops ms = true) {S : Nat → Bool} {T : List Ent} {tree : WT} {late : List Late} {H : HHeap} {μ : Mu} {w : World} {a : Act} (h : Inv P ops ms K B μ0 H0 w0 fr0 S T tree late H μ w a)
    {i : Nat} {o : Oper} (hi : S i = false) (ho : ops[i]? = some o) (hedge : ∀ e ∈ o.after.toList, Region.binds .any e = true → S e.on = true) {Qr : Exit → Act → World → Prop} {next : Act → World → Prop}
    (hnext : ∀ T' tree' late' H' μ' w' a', Inv P ops ms K B μ0 H0 w0 fr0 (fun k => S k || k == i) T' tree' late' H' μ' w' a' → next a' w') :
    if Region.wanted o (yielded ops a.tmps) then o.wp P a w next Qr else next (a.put o.dst undef) w := by
  have hin : i < ops.size := (Array.getElem?_eq_some_iff.1 ho).1
  have ancS : ∀ j, j < ops.size → anc ms j i = true → S j = true := fun j hj ha =>
    anc_closed hanc (fun k => S k = true) (fun k o' hk ho' e he hb => h.closed k o' hk ho' e he hb) i j hin hj ha (fun o' ho' e he hb => by rw [ho] at ho'; cases ho'; exact hedge e he hb)
  have ancIn : ∀ k j, k < ops.size → j < ops.size → S k = true → anc ms j k = true → S j = true := fun k j hk hj hS ha =>
    anc_closed hanc (fun k => S k = true) (fun k o' hk ho' e he hb => h.closed k o' hk ho' e he hb) k j hk hj ha (fun o' ho' e he hb => h.closed k o' hS ho' e he hb)
  have Tlt : ∀ x ∈ T, x.idx < ops.size ∧ ops[x.idx]? = some x.o := fun x hx => by
    obtain ⟨T1, T2, hT⟩ := List.append_of_mem hx
    have := (h.ents T1 x T2 hT).1.op
    exact ⟨(Array.getElem?_eq_some_iff.1 this).1, this⟩
  -- what must be ahead of something that was walked was walked ahead of it
  have ancT : ∀ T1 t T2, T = T1 ++ t :: T2 → ∀ j, j < ops.size → anc ms j t.idx = true → j ∈ T1.map (·.idx) := by
    intro T1 t T2 hT j hj ha
    obtain ⟨hE, hed, _⟩ := h.ents T1 t T2 hT
    refine anc_closed hanc (fun k => k ∈ T1.map (·.idx)) ?_ t.idx j (Array.getElem?_eq_some_iff.1 hE.op).1 hj ha (fun o' ho' e he hb => ?_)
    · intro k o' hk ho' e he hb
      obtain ⟨x, hx, rfl⟩ := List.mem_map.1 hk
      obtain ⟨U1, U2, hU⟩ := List.append_of_mem hx
      have hT' : T = U1 ++ x :: (U2 ++ t :: T2) := by rw [hT, hU]; simp
      obtain ⟨hE', hed', _⟩ := h.ents U1 x _ hT'
      have : o' = x.o := by have := hE'.op; rw [ho'] at this; exact (Option.some.inj this)
      subst this
      have := hed' e he hb
      rw [hU]; simp at this ⊢; exact .inl this
    · have : o' = t.o := by have := hE.op; rw [ho'] at this; exact (Option.some.inj this)
      subst this; exact hed e he hb
  have hclosed' : ∀ k o', (S k || k == i) = true → ops[k]? = some o' → ∀ e ∈ o'.after.toList, Region.binds .any e = true → (S e.on || e.on == i) = true := by
    intro k o' hk ho' e he hb
    simp only [Bool.or_eq_true, beq_iff_eq] at hk ⊢
    rcases hk with hk | rfl
    · exact .inl (h.closed k o' hk ho' e he hb)
    · rw [ho] at ho'; cases ho'; exact .inl (hedge e he hb)
  by_cases hiT : i ∈ T.map (·.idx)
  · -- something quiet that was walked already
    obtain ⟨t, ht, hti⟩ := List.mem_map.1 hiT
    obtain ⟨T1, T2, hT⟩ := List.append_of_mem ht
    obtain ⟨hE, hEd, hU⟩ := h.ents T1 t T2 hT
    have hto : t.o = o := by have := hE.op; rw [hti, ho] at this; exact (Option.some.inj this).symm
    subst hti
    obtain ⟨hq, hhop⟩ := hU hi
    have hnd := h.nodup
    rw [hT] at hnd
    simp only [List.map_append, List.map_cons] at hnd
    have hne1 : ∀ x ∈ T1, x.idx ≠ t.idx := fun x hx e => (List.nodup_append.1 hnd).2.2 x.idx (List.mem_map.2 ⟨x, hx, rfl⟩) t.idx (by simp) e
    have hne2 : ∀ x ∈ T2, x.idx ≠ t.idx := fun x hx e => by
      have := (List.nodup_append.1 hnd).2.1
      rw [List.nodup_cons] at this
      exact this.1 (by rw [← e]; exact List.mem_map.2 ⟨x, hx, rfl⟩)
    have hx1 : ∀ x ∈ T1, x ∈ T := fun x hx => by rw [hT]; simp [hx]
    have hx2 : ∀ x ∈ T2, x ∈ T := fun x hx => by rw [hT]; simp [hx]
    -- conflicts with what was walked ahead, or behind
    have conf1 : ∀ x ∈ T1, Oper.apart ops x.o t.o = false → S x.idx = true := fun x hx hap => by
      have hxo := Tlt x (hx1 x hx)
      rcases pairOk_spec hpairs (hne1 x hx) hxo.2 hE.op with hh | hh | hh
      · rw [hap] at hh; cases hh
      · exact ancS _ hxo.1 hh
      · exfalso
        obtain ⟨U1, U2, hU⟩ := List.append_of_mem hx
        have := ancT U1 x (U2 ++ t :: T2) (by rw [hT, hU]; simp) t.idx hin hh
        obtain ⟨y, hy, hye⟩ := List.mem_map.1 this
        exact hne1 y (by rw [hU]; simp [hy]) hye
    have conf2 : ∀ x ∈ T2, Oper.apart ops t.o x.o = false → S x.idx = false := fun x hx hap => by
      have hxo := Tlt x (hx2 x hx)
      rcases pairOk_spec hpairs (fun e => hne2 x hx e.symm) hE.op hxo.2 with hh | hh | hh
      · rw [hap] at hh; cases hh
      · cases hS : S x.idx with
        | false => rfl
        | true => rw [ancIn x.idx t.idx hxo.1 hin hS hh] at hi; cases hi
      · exfalso
        have := ancT T1 t T2 hT x.idx hxo.1 hh
        exact (List.nodup_append.1 hnd).2.2 x.idx this x.idx (by simp; exact .inr ⟨x, hx, rfl⟩) rfl
    have agree : ∀ s, s ∈ t.o.looksAt ops → (runS S T fr0).get s = t.fr.get s := by
      intro s hs
      rw [hE.fr, hT, runS_append]
      have e1 : (runS S T1 fr0).get s = (runS (fun _ => true) T1 fr0).get s := runS_agree T1 _ _ rfl rfl (fun x hx hd => conf1 x hx (apart_looks hd hs))
      rw [← e1]
      have e2 := runS_agree (S := S) (S' := fun _ => false) (t := s) (t :: T2) (runS S T1 fr0) (runS S T1 fr0) rfl rfl (fun x hx hd => by
        rcases List.mem_cons.1 hx with rfl | hx
        · exact hi
        · exact conf2 x hx (apart_looks' hd hs))
      rw [e2, runS_none _ _ (fun _ _ => rfl)]
    obtain ⟨c1, c2⟩ := looks_congr (ops := ops) agree
    have hrun : runS (fun k => S k || k == t.idx) T fr0 = hput (runS S T fr0) t.o.dst t.v := by
      rw [hT, runS_append, runS_append, runS, runS]
      simp only [hi, beq_self_eq_true, Bool.or_true, if_true, Bool.false_eq_true, if_false]
      rw [runS_congr (S := fun k => S k || k == t.idx) (S' := S) T1 fr0 (fun x hx => by simp [hne1 x hx]), runS_congr (S := fun k => S k || k == t.idx) (S' := S) T2 _ (fun x hx => by simp [hne2 x hx])]
      refine runS_last T2 _ (fun x hx hS s hd hxd => ?_)
      rw [conf2 x hx (apart_dst hd hxd)] at hS; cases hS
    have fin : ∀ μ' w' v', Step B μ H w μ' H w' → VRel μ' t.v v' → next (a.put o.dst v') w' := by
      intro μ' w' v' s hv
      refine hnext T tree late H μ' w' _ ⟨h.ok, h.walk, h.head, ?_, hclosed', h.nodup, ?_, ?_, h.step.trans s⟩
      · intro k hk
        simp only [Bool.or_eq_true, beq_iff_eq] at hk
        rcases hk with hk | rfl
        · exact h.inT k hk
        · exact hiT
      · intro U1 u U2 hU
        obtain ⟨k1, k3, k2⟩ := h.ents U1 u U2 hU
        refine ⟨k1, k3, fun hf => k2 ?_⟩
        simp only [Bool.or_eq_false_iff] at hf; exact hf.1
      · rw [hrun, ← hto]
        exact (h.frame.mono s.sub).put _ hv
    have hw : hwanted ops (runS S T fr0) o = some t.on := by rw [← hto, c2]; exact hE.wanted
    rw [wanted_of h.frame hw]
    cases hon : t.on with
    | false =>
      simp only [Bool.false_eq_true, if_false]
      have hv := hE.off hon
      exact fin μ w undef (Step.refl h.step.rel) (by rw [hv]; exact .of_flat rfl)
    | true =>
      simp only [if_true]
      refine oper_wp h.step.rel h.frame (.inl ⟨t.v, H, ?_, fin⟩)
      rw [← hto, hop_congr c1]; exact (hhop hon).1
  · -- what is next to be walked
    have hnx : nextOk ops (T.map (·.idx)) i = true := nextOk_of hiT ho (fun e he hb => h.inT _ (hedge e he hb))
    have hialt : i ∈ tree.alts := by
      have hok := h.ok
      cases htr : tree with
      | done =>
        rw [htr] at hok
        simp only [wtOk, Bool.true_and, List.all_eq_true, List.contains_eq_mem, decide_eq_true_eq] at hok
        exact absurd (hok i (by simpa using hin)) hiT
      | op j t => exact absurd htr (h.head j t)
      | eff j t other =>
        rw [htr] at hok
        simp only [wtOk, Bool.and_eq_true, Bool.not_true, Bool.false_or, List.all_eq_true] at hok
        have := hok.2 i (by simpa using hin)
        rw [hnx] at this
        simpa [WT.alts] using this
      | stop => rw [htr] at hok; simp [wtOk] at hok
    obtain ⟨t, htok, hqn, hstep⟩ := alt_mem tree true h.ok h.walk hialt
    have hq : quiet o.op = false := by simpa [isQuiet, ho] using hqn
    have hneT : ∀ x ∈ T, x.idx ≠ i := fun x hx e => hiT (by rw [← e]; exact List.mem_map.2 ⟨x, hx, rfl⟩)
    have agree : ∀ s, s ∈ o.looksAt ops → (runS S T fr0).get s = (runS (fun _ => true) T fr0).get s := by
      intro s hs
      refine runS_agree T _ _ rfl rfl (fun x hx hd => ?_)
      have hxo := Tlt x hx
      rcases pairOk_spec hpairs (hneT x hx) hxo.2 ho with hap | hap | hap
      · rw [apart_looks hd hs] at hap; cases hap
      · exact ancS _ hxo.1 hap
      · exfalso
        obtain ⟨U1, U2, hU⟩ := List.append_of_mem hx
        have := ancT U1 x U2 hU i hin hap
        obtain ⟨y, hy, hye⟩ := List.mem_map.1 this
        exact hneT y (by rw [hU]; simp [hy]) hye
    obtain ⟨c1, c2⟩ := looks_congr (ops := ops) agree
    have hndi : (T.map (·.idx) ++ [i]).Nodup := List.nodup_append.2 ⟨h.nodup, by simp, fun x hx y hy => by simp at hy; subst hy; exact fun e => hiT (by rw [← e]; exact hx)⟩
    -- behind it: all that is quiet is walked
    have fin : ∀ (on : Bool) (v : Value) (H' : HHeap), hwanted ops (runS (fun _ => true) T fr0) o = some on → (on = false → v = undef) → (H' = H ∨ LateOk P ms i H' late) → HDraw P ops ms K t late (hput (runS (fun _ => true) T fr0) o.dst v) H' →
        ∀ μ' w' v', Step B μ H w μ' H' w' → VRel μ' v v' → next (a.put o.dst v') w' := by
      intro on v H' hw hoff hlate hd μ' w' v' s hv
      obtain ⟨U, tree', late', e1, e2, e3, e4, e6, e5⟩ := advance t (T.map (·.idx) ++ [i]) late _ hndi htok hd
      have hmap : (T ++ ⟨i, o, runS (fun _ => true) T fr0, on, v⟩ :: U).map (·.idx) = T.map (·.idx) ++ [i] ++ U.map (·.idx) := by simp
      have hUne : ∀ x ∈ U, (S x.idx || x.idx == i) = false := by
        intro x hx
        have hd2 := List.nodup_append.1 e6
        have hxm : x.idx ∈ U.map (·.idx) := List.mem_map.2 ⟨x, hx, rfl⟩
        have hxi : x.idx ≠ i := fun e => hd2.2.2 i (by simp) x.idx hxm e.symm
        have hxT : S x.idx = false := by
          cases hS : S x.idx with
          | false => rfl
          | true => exact absurd rfl (hd2.2.2 x.idx (by simp; exact .inl (by simpa using h.inT _ hS)) x.idx hxm)
        simp [hxi, hxT]
      refine hnext (T ++ ⟨i, o, runS (fun _ => true) T fr0, on, v⟩ :: U) tree' late' H' μ' w' _ ⟨by rw [hmap]; exact e1, ?_, e3, ?_, hclosed', by rw [hmap]; exact e6, ?_, ?_, h.step.trans s⟩
      · rw [runS_append]; exact e2
      · intro k hk
        simp only [Bool.or_eq_true, beq_iff_eq] at hk
        rcases hk with hk | rfl
        · have := h.inT k hk; simp at this ⊢; exact .inl this
        · simp
      · intro U1 u U2 hU
        rcases List.append_eq_append_iff.1 hU with ⟨as, hU1, hU2⟩ | ⟨bs, hT1, hU2⟩
        · cases as with
          | nil =>
            simp only [List.nil_append, List.cons.injEq] at hU2
            obtain ⟨rfl, rfl⟩ := hU2
            simp only [List.append_nil] at hU1
            subst hU1
            exact ⟨⟨ho, rfl, hw, hoff⟩, fun e he hb => h.inT _ (hedge e he hb), fun hf => by simp at hf⟩
          | cons x as =>
            simp only [List.cons_append, List.cons.injEq] at hU2
            obtain ⟨rfl, hU2⟩ := hU2
            obtain ⟨k1, k4, k2, k3⟩ := e5 as u U2 hU2
            refine ⟨⟨k1.op, ?_, k1.wanted, k1.off⟩, fun e he hb => ?_, fun _ => ⟨k2, k3⟩⟩
            · rw [hU1, runS_append]; exact k1.fr
            · have := k4 e he hb; rw [hU1]; simp at this ⊢
              rcases this with h1 | h1 | h1
              · exact .inl h1
              · exact .inr (.inl h1)
              · exact .inr (.inr h1)
        · cases bs with
          | nil =>
            simp only [List.nil_append, List.cons.injEq] at hU2
            obtain ⟨rfl, rfl⟩ := hU2
            simp only [List.append_nil] at hT1
            subst hT1
            exact ⟨⟨ho, rfl, hw, hoff⟩, fun e he hb => h.inT _ (hedge e he hb), fun hf => by simp at hf⟩
          | cons x bs =>
            simp only [List.cons_append, List.cons.injEq] at hU2
            obtain ⟨rfl, hU2⟩ := hU2
            obtain ⟨k1, k4, k2⟩ := h.ents U1 u bs hT1
            refine ⟨k1, k4, fun hf => ?_⟩
            simp only [Bool.or_eq_false_iff] at hf
            obtain ⟨q1, q2⟩ := k2 hf.1
            refine ⟨q1, fun hon => ?_⟩
            obtain ⟨q3, q4⟩ := q2 hon
            refine ⟨?_, fun hrd => e4 _ (q4 hrd)⟩
            rcases hlate with rfl | hlate
            · exact q3
            · by_cases hrd : reads u.o.op = true
              · rcases LateOk.mem late hlate (q4 hrd) with hh | hh
                · have hxo := Tlt u (by rw [hT1]; simp)
                  rw [ancS _ hxo.1 hh] at hf; simp at hf
                · exact hh
              · exact quiet_anywhere q1 (by simpa using hrd) q3 H'
      · have hrun : runS (fun k => S k || k == i) (T ++ ⟨i, o, runS (fun _ => true) T fr0, on, v⟩ :: U) fr0 = hput (runS S T fr0) o.dst v := by
          rw [runS_append, runS]
          simp only [beq_self_eq_true, Bool.or_true, if_true]
          rw [runS_none U _ hUne, runS_congr (S := fun k => S k || k == i) (S' := S) T fr0 (fun x hx => by simp [hneT x hx])]
        rw [hrun]
        exact (h.frame.mono s.sub).put _ hv
    simp only [HStepE, ho] at hstep
    split at hstep
    · rename_i hw
      rw [wanted_of h.frame (c2.trans hw)]
      simp only [Bool.false_eq_true, if_false]
      exact fin false undef H hw (fun _ => rfl) (.inl rfl) hstep μ w undef (Step.refl h.step.rel) (.of_flat rfl)
    · rename_i hw
      rw [wanted_of h.frame (c2.trans hw)]
      simp only [if_true]
      split at hstep
      · rename_i f args hcal
        refine oper_wp h.step.rel h.frame (.inr ⟨f, args, _, by rw [hcallee_congr c1]; exact hcal, hstep, ?_⟩)
        rintro v H' μ' w' v' ⟨r1, r2⟩ s hv
        exact fin true v H' hw (by simp) (.inr r1) r2 μ' w' v' s hv
      · split at hstep
        · rename_i v H' hv
          exact oper_wp h.step.rel h.frame (.inl ⟨v, H', by rw [hop_congr c1]; exact hv, fin true v H' hw (by simp) (.inr hstep.1) hstep.2⟩)
        · exact hstep.elim
    · exact hstep.elim

end main
end Go.HL
/-
  A high level over the model, part 12: a row whose order is drawn, under any order; and code as one relation that can be unfolded.
-/
namespace Go.HL
open Go.RowKit

variable {P : Program}

section
variable {ops : Array Oper} {ms : List Nat} {B : Nat} {μ0 : Mu} {H0 : HHeap} {w0 : World} {fr0 : HFrame}

def unlisted (n : Nat) (l : Array Bool) : Nat := ((List.range n).filter fun i => !l.getD i false).length

theorem unlisted_set {n : Nat} {l : Array Bool} {i : Nat} (hs : l.size = n) (hi : i < n) (hf : l.getD i false = false) : unlisted n (l.setIfInBounds i true) + 1 = unlisted n l := by
  unfold unlisted
  have hget : ∀ j, (l.setIfInBounds i true).getD j false = (if j = i then true else l.getD j false) := by
    intro j
    simp only [Array.getD_eq_getD_getElem?, Array.getElem?_setIfInBounds]
    by_cases hj : i = j
    · subst hj; simp [hs, hi]
    · simp [hj, Ne.symm hj]
  have key : ∀ (m : Nat) (L : List Nat), L.Nodup → L.length = m → i ∈ L → (L.filter fun j => !(if j = i then true else l.getD j false)).length + 1 = (L.filter fun j => !l.getD j false).length := by
    intro m
    induction m with
    | zero => intro L _ hl hm; rw [List.length_eq_zero_iff.1 hl] at hm; simp at hm
    | succ m ih =>
      intro L hnd hl hm
      cases L with
      | nil => simp at hm
      | cons x L =>
        rw [List.nodup_cons] at hnd
        by_cases hx : x = i
        · subst hx
          have hno : ∀ j ∈ L, (!(if j = x then true else l.getD j false)) = (!l.getD j false) := fun j hj => by
            rw [if_neg (fun e => hnd.1 (by rw [← e]; exact hj))]
          simp only [List.filter_cons, if_true, Bool.not_true, Bool.false_eq_true, if_false, hf, Bool.not_false]
          rw [List.filter_congr hno]; simp
        · have := ih L hnd.2 (by simpa using hl) ((List.mem_cons.1 hm).resolve_left (fun e => hx e.symm))
          simp only [List.filter_cons, if_neg hx]
          split
          · rw [List.length_cons, List.length_cons]; omega
          · exact this
  have := key n (List.range n) List.nodup_range (by simp) (by simpa using hi)
  rw [← this]
  congr 2
  apply List.filter_congr
  intro j _
  rw [hget]

theorem wpAny_of {Q : Exit → HFrame → HHeap → Prop} (hanc : ancOk ops ms = true) (hpairs : pairsOk ops ms = true) : ∀ (fuel : Nat) (l : Array Bool), l.size = ops.size → unlisted ops.size l = fuel → ∀ (T : List Ent) (tree : WT) (late : List Late) (H : HHeap) (μ : Mu) (w : World) (a : Act),
    Inv P ops ms (Q .normal) B μ0 H0 w0 fr0 (fun k => l.getD k false) T tree late H μ w a → wpAny P .any ops (Lift B μ0 H0 w0 Q) fuel l a w := by
  have done : ∀ (l : Array Bool), (∀ i, i < ops.size → l.getD i false = true) → ∀ (T : List Ent) (tree : WT) (late : List Late) (H : HHeap) (μ : Mu) (w : World) (a : Act),
      Inv P ops ms (Q .normal) B μ0 H0 w0 fr0 (fun k => l.getD k false) T tree late H μ w a → Lift B μ0 H0 w0 Q .normal a w := by
    intro l hl T tree late H μ w a h
    have htree : tree = .done := by
      have hok := h.ok
      cases htr : tree with
      | done => rfl
      | op j t => exact absurd htr (h.head j t)
      | eff j t other =>
        exfalso
        rw [htr] at hok
        simp only [wtOk, Bool.and_eq_true] at hok
        obtain ⟨hni, o, ho, _⟩ := nextOk_spec hok.1.1.1.1
        exact hni (h.inT j (hl j (Array.getElem?_eq_some_iff.1 ho).1))
      | stop => rw [htr] at hok; simp [wtOk] at hok
    have hw := h.walk
    rw [htree] at hw
    refine ⟨_, H, μ, hw, ?_, h.step⟩
    have : runS (fun k => l.getD k false) T fr0 = runS (fun _ => true) T fr0 := runS_all T _ (fun x hx => by
      obtain ⟨T1, T2, hT⟩ := List.append_of_mem hx
      exact hl _ (Array.getElem?_eq_some_iff.1 (h.ents T1 x T2 hT).1.op).1)
    rw [← this]; exact h.frame
  have allListed : ∀ (l : Array Bool), unlisted ops.size l = 0 → ∀ i, i < ops.size → l.getD i false = true := by
    intro l h0 i hi
    unfold unlisted at h0
    have := List.length_eq_zero_iff.1 h0
    rw [List.filter_eq_nil_iff] at this
    simpa using this i (by simpa using hi)
  have readyOf : ∀ (l : Array Bool), l.size = ops.size → ∀ i, i ∈ Region.ready .any ops l ↔ i < ops.size ∧ l.getD i false = false ∧ ∃ o, ops[i]? = some o ∧ ∀ e ∈ o.after.toList, Region.binds .any e = true → l.getD e.on false = true := by
    intro l hs i
    unfold Region.ready
    simp only [List.mem_filter, List.mem_range, Bool.and_eq_true, Bool.not_eq_true']
    constructor
    · rintro ⟨h1, h2, h3⟩
      refine ⟨h1, ?_, ?_⟩
      · have : i < l.size := by omega
        simpa [Array.getD_eq_getD_getElem?, this] using h2
      · refine ⟨ops[i], by simp [h1], fun e he hb => ?_⟩
        simp only [Array.getElem?_eq_getElem h1, Option.map_some, Option.getD_some] at h3
        rw [← Array.all_toList, List.all_eq_true] at h3
        have := h3 e he
        simpa [hb] using this
    · rintro ⟨h1, h2, o, h3, h4⟩
      refine ⟨h1, ?_, ?_⟩
      · have : i < l.size := by omega
        simpa [Array.getD_eq_getD_getElem?, this] using h2
      · simp only [h3, Option.map_some, Option.getD_some]
        rw [← Array.all_toList, List.all_eq_true]
        intro e he
        cases hb : Region.binds .any e with
        | false => rfl
        | true => simpa using h4 e he hb
  intro fuel
  induction fuel with
  | zero =>
    intro l hs h0 T tree late H μ w a h
    have hall := allListed l h0
    refine ⟨?_, done l hall T tree late H μ w a h⟩
    refine List.eq_nil_iff_forall_not_mem.2 fun i hi => ?_
    obtain ⟨h1, h2, _⟩ := (readyOf l hs i).1 hi
    rw [hall i h1] at h2; cases h2
  | succ fuel ih =>
    intro l hs hf T tree late H μ w a h
    refine ⟨fun hnil => ?_, fun i hi => ?_⟩
    · -- something is ready
      exfalso
      have notready : ∀ i o, l.getD i false = false → ops[i]? = some o → (∀ e ∈ o.after.toList, Region.binds .any e = true → l.getD e.on false = true) → False := by
        intro i o h1 h2 h3
        have : i ∈ Region.ready .any ops l := (readyOf l hs i).2 ⟨(Array.getElem?_eq_some_iff.1 h2).1, h1, o, h2, h3⟩
        rw [hnil] at this; simp at this
      have hfirst : ∀ (m : Nat) (T1 : List Ent) (t : Ent) (T2 : List Ent), T1.length = m → T = T1 ++ t :: T2 → l.getD t.idx false = true := by
        intro m
        induction m using Nat.strongRecOn with
        | _ m ih2 =>
          intro T1 t T2 hm hT
          obtain ⟨k1, k2, _⟩ := h.ents T1 t T2 hT
          cases hu : l.getD t.idx false with
          | true => rfl
          | false =>
            exfalso
            refine notready t.idx t.o hu k1.op fun e he hb => ?_
            obtain ⟨x, hx, hxe⟩ := List.mem_map.1 (k2 e he hb)
            obtain ⟨U1, U2, hU⟩ := List.append_of_mem hx
            rw [← hxe]
            exact ih2 U1.length (by rw [← hm, hU]; simp) U1 x (U2 ++ t :: T2) rfl (by rw [hT, hU]; simp)
      have hTall : ∀ i ∈ T.map (·.idx), l.getD i false = true := by
        intro i hi
        obtain ⟨x, hx, rfl⟩ := List.mem_map.1 hi
        obtain ⟨U1, U2, hU⟩ := List.append_of_mem hx
        exact hfirst U1.length U1 x U2 rfl hU
      have hex : ∃ i, i < ops.size ∧ l.getD i false = false := by
        unfold unlisted at hf
        have : ((List.range ops.size).filter fun i => !l.getD i false) ≠ [] := fun e => by rw [e] at hf; simp at hf
        obtain ⟨i, hi⟩ := List.exists_mem_of_ne_nil _ this
        simp only [List.mem_filter, List.mem_range, Bool.not_eq_true'] at hi
        exact ⟨i, hi.1, hi.2⟩
      obtain ⟨i0, hi0, hu0⟩ := hex
      have hok := h.ok
      cases htr : tree with
      | done =>
        rw [htr] at hok
        simp only [wtOk, Bool.true_and, List.all_eq_true, List.contains_eq_mem, decide_eq_true_eq] at hok
        have := hTall i0 (hok i0 (by simpa using hi0))
        rw [hu0] at this; cases this
      | op j t => exact absurd htr (h.head j t)
      | eff j t other =>
        rw [htr] at hok
        simp only [wtOk, Bool.and_eq_true] at hok
        obtain ⟨hni, o, ho, hed⟩ := nextOk_spec hok.1.1.1.1
        refine notready j o ?_ ho fun e he hb => hTall _ (hed e he hb)
        cases hj : l.getD j false with
        | false => rfl
        | true => exact absurd (h.inT j hj) hni
      | stop => rw [htr] at hok; simp [wtOk] at hok
    · obtain ⟨h1, h2, o, h3, h4⟩ := (readyOf l hs i).1 hi
      unfold wpOp
      simp only [h3]
      have hgo := h.go hanc hpairs (Qr := Lift B μ0 H0 w0 Q) (next := wpAny P .any ops (Lift B μ0 H0 w0 Q) fuel (l.setIfInBounds i true)) h2 h3 h4 (by
        intro T' tree' late' H' μ' w' a' hI
        have hget : (fun k => (l.setIfInBounds i true).getD k false) = (fun k => l.getD k false || k == i) := by
          funext j
          simp only [Array.getD_eq_getD_getElem?, Array.getElem?_setIfInBounds]
          by_cases hj : i = j
          · subst hj; simp [hs, h1]
          · simp [hj, Ne.symm hj]
        refine ih (l.setIfInBounds i true) (by simpa using hs) ?_ T' tree' late' H' μ' w' a' (by rw [hget]; exact hI)
        have := unlisted_set (n := ops.size) hs h1 h2
        omega)
      split
      · rename_i hw; rw [if_pos hw] at hgo; exact .inl hgo
      · rename_i hw; rw [if_neg hw] at hgo; exact hgo

/-- A ROW WHOSE ORDER IS DRAWN: it is walked along a tree. -/
theorem Hwp.draw {id : Nat} {Q : Exit → HFrame → HHeap → Prop} {fr : HFrame} {H : HHeap} (hm : P.follows .mixedOrders = true) (ms : List Nat) (tree : WT) (hok : orderOk ops ms tree = true)
    (h : HDraw P ops ms (Q .normal) tree [] fr H) : Hwp P (.region id ops true) Q fr H := by
  intro B μ w a hR hf
  refine wp_region_any hm ?_
  unfold orderOk at hok
  simp only [Bool.and_eq_true] at hok
  obtain ⟨⟨hanc, hpairs⟩, hwt⟩ := hok
  obtain ⟨T, tree', late, e1, e2, e3, _, e6, e5⟩ := advance tree [] [] fr List.nodup_nil hwt h
  have hfalse : (fun k => (Array.replicate ops.size false).getD k false) = fun _ => false := by
    funext k
    simp only [Array.getD_eq_getD_getElem?, Array.getElem?_replicate]
    split <;> rfl
  refine wpAny_of (fr0 := fr) hanc hpairs ops.size (Array.replicate ops.size false) (by simp) ?_ T tree' late H μ w.drew a ?_
  · unfold unlisted
    have : ((List.range ops.size).filter fun i => !(Array.replicate ops.size false).getD i false) = List.range ops.size := by
      rw [List.filter_eq_self]
      intro i _
      have : (Array.replicate ops.size false).getD i false = false := congrFun hfalse i
      rw [this]; rfl
    rw [this]; simp
  · rw [hfalse]
    refine ⟨by simpa using e1, e2, e3, fun i hi => by simp at hi, fun k o hk => by simp at hk, by simpa using e6, fun T1 t T2 hT => ?_, ?_, Step.drew hR⟩
    · obtain ⟨k1, k4, k2, k3⟩ := e5 T1 t T2 hT
      exact ⟨k1, by simpa using k4, fun _ => ⟨k2, k3⟩⟩
    · rw [runS_none T fr (fun _ _ => rfl)]; exact hf
end

end Go.HL
/-
  A high level over the model, part 13: code as one relation that simp unfolds, step by step, as far as it is decided.
-/
namespace Go.HL
open Go.RowKit

variable {P : Program}

/-- What comes behind a call. -/
def HLater (R : Value → HHeap → Prop) : Value → HHeap → Prop := R

/-- An operation's outcome, and what comes then. -/
def HGo (o : Option (Value × HHeap)) (K : Value → HHeap → Prop) : Prop :=
  match o with
  | some (v, H) => K v H
  | none => False
theorem HGo_some (v : Value) (H : HHeap) (K : Value → HHeap → Prop) : HGo (some (v, H)) K = K v H := by unfold HGo; rfl

def HWant (b : Option Bool) (no : Value → HHeap → Prop) (yes : HHeap → Prop) (H : HHeap) : Prop :=
  match b with
  | some true => yes H
  | some false => no undef H
  | none => False
theorem HWant_true (no : Value → HHeap → Prop) (yes : HHeap → Prop) (H : HHeap) : HWant (some true) no yes H = yes H := by unfold HWant; rfl
theorem HWant_false (no : Value → HHeap → Prop) (yes : HHeap → Prop) (H : HHeap) : HWant (some false) no yes H = no undef H := by unfold HWant; rfl

def HCallee (P : Program) (c : Option (FuncId × List Value)) (K : Value → HHeap → Prop) (o : Option (Value × HHeap)) (H : HHeap) : Prop :=
  match c with
  | some (f, args) => HCalls P f args H (HLater K)
  | none => HGo o K
theorem HCallee_some (f : FuncId) (args : List Value) (K : Value → HHeap → Prop) (o : Option (Value × HHeap)) (H : HHeap) : HCallee P (some (f, args)) K o H = HCalls P f args H (HLater K) := by unfold HCallee; rfl
theorem HCallee_none (K : Value → HHeap → Prop) (o : Option (Value × HHeap)) (H : HHeap) : HCallee P none K o H = HGo o K := by unfold HCallee; rfl

/-- A row of operations, for simp: nothing that comes later is unfolded ahead of its time. -/
def HRow (P : Program) (ops : Array Oper) (K : HFrame → HHeap → Prop) : List Oper → HFrame → HHeap → Prop
  | [], fr, H => K fr H
  | o :: rest, fr, H => HWant (hwanted ops fr o) (fun v H' => HRow P ops K rest (hput fr o.dst v) H')
      (fun H => HCallee P (hcallee P fr o.op) (fun v H' => HRow P ops K rest (hput fr o.dst v) H') (hop P fr H o.op) H) H

def HNext (P : Program) (ops : Array Oper) (K : HFrame → HHeap → Prop) (rest : List Oper) (dst : Option Tmp) (fr : HFrame) (v : Value) (H : HHeap) : Prop := HRow P ops K rest (hput fr dst v) H
def HDo (P : Program) (ops : Array Oper) (K : HFrame → HHeap → Prop) (rest : List Oper) (dst : Option Tmp) (op : Op) (fr : HFrame) (H : HHeap) : Prop :=
  HCallee P (hcallee P fr op) (HNext P ops K rest dst fr) (hop P fr H op) H
theorem HRow_nil (ops : Array Oper) (K : HFrame → HHeap → Prop) (fr : HFrame) (H : HHeap) : HRow P ops K [] fr H = K fr H := by unfold HRow; rfl
theorem HRow_cons (ops : Array Oper) (K : HFrame → HHeap → Prop) (dst : Option Tmp) (op : Op) (ty : TypeId) (pos : String) (af : Array Edge) (g : Option (Nat × Bool)) (rest : List Oper) (fr : HFrame) (H : HHeap) :
    HRow P ops K (⟨dst, op, ty, pos, af, g⟩ :: rest) fr H = HWant (hwanted ops fr ⟨dst, op, ty, pos, af, g⟩) (HNext P ops K rest dst fr) (HDo P ops K rest dst op fr) H := by unfold HRow; rfl
theorem HNext_apply (ops : Array Oper) (K : HFrame → HHeap → Prop) (rest : List Oper) (dst : Option Tmp) (fr : HFrame) (v : Value) (H : HHeap) : HNext P ops K rest dst fr v H = HRow P ops K rest (hput fr dst v) H := by unfold HNext; rfl
theorem HDo_apply (ops : Array Oper) (K : HFrame → HHeap → Prop) (rest : List Oper) (dst : Option Tmp) (op : Op) (fr : HFrame) (H : HHeap) :
    HDo P ops K rest dst op fr H = HCallee P (hcallee P fr op) (HNext P ops K rest dst fr) (hop P fr H op) H := by unfold HDo; rfl
theorem HLater_apply (K : Value → HHeap → Prop) (v : Value) (H : HHeap) : HLater K v H = K v H := by unfold HLater; rfl

theorem HRow.sound {ops : Array Oper} {K : HFrame → HHeap → Prop} : ∀ (l : List Oper) (fr : HFrame) (H : HHeap), HRow P ops K l fr H → HOps P ops l fr H K
  | [], fr, H, h => h
  | o :: rest, fr, H, h => by
    simp only [HRow, HWant] at h
    split at h
    · refine .inr ⟨‹_›, ?_⟩
      simp only [HCallee] at h
      split at h
      · exact .inr ⟨_, _, ‹_›, h.mono fun v H' r => HRow.sound rest _ H' r⟩
      · simp only [HGo] at h
        split at h
        · exact .inl ⟨_, _, ‹_›, HRow.sound rest _ _ h⟩
        · exact h.elim
    · exact .inl ⟨‹_›, HRow.sound rest _ H h⟩
    · exact h.elim

/-- A test that may be open. -/
def HIf (b : Bool) (X Y : HFrame → HHeap → Prop) (fr : HFrame) (H : HHeap) : Prop :=
  match b with
  | true => X fr H
  | false => Y fr H
theorem HIf.of {b : Bool} {X Y : HFrame → HHeap → Prop} {fr : HFrame} {H : HHeap} (h1 : b = true → X fr H) (h2 : b = false → Y fr H) : HIf b X Y fr H := by cases b <;> simp_all [HIf]
theorem HIf_true (X Y : HFrame → HHeap → Prop) (fr : HFrame) (H : HHeap) : HIf true X Y fr H = X fr H := by simp [HIf]
theorem HIf_false (X Y : HFrame → HHeap → Prop) (fr : HFrame) (H : HHeap) : HIf false X Y fr H = Y fr H := by simp [HIf]

def HTest (v : Option Value) (X Y : HFrame → HHeap → Prop) (fr : HFrame) (H : HHeap) : Prop :=
  match v with
  | some (.bool b) => HIf b X Y fr H
  | _ => False
theorem HTest_bool (b : Bool) (X Y : HFrame → HHeap → Prop) (fr : HFrame) (H : HHeap) : HTest (some (.bool b)) X Y fr H = HIf b X Y fr H := by unfold HTest; rfl

/-- Code, for simp. -/
def HW (P : Program) : Code → (Exit → HFrame → HHeap → Prop) → HFrame → HHeap → Prop
  | .skip, Q, fr, H => Q .normal fr H
  | .region id ops draw, Q, fr, H => match draw with
    | true => Hwp P (.region id ops true) Q fr H
    | false => HRow P ops (Q .normal) ops.toList fr H
  | .seq a b, Q, fr, H => HW P a (HThen (HW P b Q) Q) fr H
  | .cond c x y, Q, fr, H => HTest (hev fr c) (HW P x Q) (HW P y Q) fr H
  | .block id c, Q, fr, H => HW P c (HBlock id Q) fr H
  | .exit id, Q, fr, H => Q (.exit id) fr H
  | .ret, Q, fr, H => Q .ret fr H
  | .loop c, Q, fr, H => Hwp P (.loop c) Q fr H
  | .label _, Q, fr, H => Q .normal fr H
  | _, _, _, _ => False

theorem HW_skip (Q : Exit → HFrame → HHeap → Prop) (fr : HFrame) (H : HHeap) : HW P .skip Q fr H = Q .normal fr H := by first | (unfold HW; rfl) | exact (Eq.trans rfl rfl)
theorem HW_region (id : Nat) (l : List Oper) (Q : Exit → HFrame → HHeap → Prop) (fr : HFrame) (H : HHeap) : HW P (.region id l.toArray false) Q fr H = HRow P l.toArray (Q .normal) l fr H := by first | (unfold HW; rfl) | exact (Eq.trans rfl rfl)
theorem HW_draw (id : Nat) (ops : Array Oper) (Q : Exit → HFrame → HHeap → Prop) (fr : HFrame) (H : HHeap) : HW P (.region id ops true) Q fr H = Hwp P (.region id ops true) Q fr H := by first | (unfold HW; rfl) | exact (Eq.trans rfl rfl)
theorem HW_seq (a b : Code) (Q : Exit → HFrame → HHeap → Prop) (fr : HFrame) (H : HHeap) : HW P (.seq a b) Q fr H = HW P a (HThen (HW P b Q) Q) fr H := by first | (unfold HW; rfl) | exact (Eq.trans rfl rfl)
theorem HW_cond (c : Operand) (x y : Code) (Q : Exit → HFrame → HHeap → Prop) (fr : HFrame) (H : HHeap) : HW P (.cond c x y) Q fr H = HTest (hev fr c) (HW P x Q) (HW P y Q) fr H := by first | (unfold HW; rfl) | exact (Eq.trans rfl rfl)
theorem HW_block (id : Nat) (c : Code) (Q : Exit → HFrame → HHeap → Prop) (fr : HFrame) (H : HHeap) : HW P (.block id c) Q fr H = HW P c (HBlock id Q) fr H := by first | (unfold HW; rfl) | exact (Eq.trans rfl rfl)
theorem HW_exit (id : Nat) (Q : Exit → HFrame → HHeap → Prop) (fr : HFrame) (H : HHeap) : HW P (.exit id) Q fr H = Q (.exit id) fr H := by first | (unfold HW; rfl) | exact (Eq.trans rfl rfl)
theorem HW_ret (Q : Exit → HFrame → HHeap → Prop) (fr : HFrame) (H : HHeap) : HW P .ret Q fr H = Q .ret fr H := by first | (unfold HW; rfl) | exact (Eq.trans rfl rfl)
theorem HW_loop (c : Code) (Q : Exit → HFrame → HHeap → Prop) (fr : HFrame) (H : HHeap) : HW P (.loop c) Q fr H = Hwp P (.loop c) Q fr H := by first | (unfold HW; rfl) | exact (Eq.trans rfl rfl)
theorem HThen_normal (n : HFrame → HHeap → Prop) (Q : Exit → HFrame → HHeap → Prop) (fr : HFrame) (H : HHeap) : HThen n Q .normal fr H = n fr H := by first | (unfold HThen; rfl) | exact (Eq.trans rfl rfl)
theorem HThen_ret (n : HFrame → HHeap → Prop) (Q : Exit → HFrame → HHeap → Prop) (fr : HFrame) (H : HHeap) : HThen n Q .ret fr H = Q .ret fr H := by first | (unfold HThen; rfl) | exact (Eq.trans rfl rfl)
theorem HThen_exit (n : HFrame → HHeap → Prop) (id : Nat) (Q : Exit → HFrame → HHeap → Prop) (fr : HFrame) (H : HHeap) : HThen n Q (.exit id) fr H = Q (.exit id) fr H := by first | (unfold HThen; rfl) | exact (Eq.trans rfl rfl)
theorem HBlock_normal (id : Nat) (Q : Exit → HFrame → HHeap → Prop) (fr : HFrame) (H : HHeap) : HBlock id Q .normal fr H = Q .normal fr H := by first | (unfold HBlock; rfl) | exact (Eq.trans rfl rfl)
theorem HBlock_ret (id : Nat) (Q : Exit → HFrame → HHeap → Prop) (fr : HFrame) (H : HHeap) : HBlock id Q .ret fr H = Q .ret fr H := by first | (unfold HBlock; rfl) | exact (Eq.trans rfl rfl)
theorem HBlock_exit_same (id : Nat) (Q : Exit → HFrame → HHeap → Prop) (fr : HFrame) (H : HHeap) : HBlock id Q (.exit id) fr H = Q .normal fr H := by simp [HBlock]
theorem HBlock_exit_other (id id' : Nat) (Q : Exit → HFrame → HHeap → Prop) (fr : HFrame) (H : HHeap) (h : (id' == id) = false) : HBlock id Q (.exit id') fr H = Q (.exit id') fr H := by
  simp at h; simp [HBlock, h]

theorem HW.sound : ∀ (c : Code) (Q : Exit → HFrame → HHeap → Prop) (fr : HFrame) (H : HHeap), HW P c Q fr H → Hwp P c Q fr H := by
  intro c
  induction c with
  | skip => intro Q fr H h B μ w a hR hf; exact wp_skip ⟨fr, H, μ, h, hf, Step.refl hR⟩
  | label l => intro Q fr H h B μ w a hR hf; exact wp_label ⟨fr, H, μ, h, hf, Step.refl hR⟩
  | exit id => intro Q fr H h B μ w a hR hf; exact wp_exit ⟨fr, H, μ, h, hf, Step.refl hR⟩
  | ret => intro Q fr H h B μ w a hR hf; exact wp_ret ⟨fr, H, μ, h, hf, Step.refl hR⟩
  | region id ops draw =>
    intro Q fr H h
    cases draw with
    | true => exact h
    | false => exact Hwp.region (HRow.sound _ _ _ h)
  | seq a b iha ihb =>
    intro Q fr H h
    refine Hwp.seq (Hwp.mono ?_ (iha _ fr H h))
    intro e fr H h
    cases e with
    | normal => exact ihb _ _ _ h
    | _ => exact h
  | cond c x y ihx ihy =>
    intro Q fr H h
    simp only [HW, HTest] at h
    split at h
    · rename_i b hb
      refine Hwp.cond hb (fun e => ihx _ _ _ ?_) (fun e => ihy _ _ _ ?_)
      · subst e; exact h
      · subst e; exact h
    · exact h.elim
  | block id c ih => intro Q fr H h; exact Hwp.block (ih _ _ _ h)
  | loop c ih => intro Q fr H h; exact h
  | _ => intro Q fr H h; exact h.elim

/-- The end of a function. -/
def HRes (vs : Option (List Value)) (R : Value → HHeap → Prop) (H : HHeap) : Prop :=
  match vs with
  | some vs => R (htuple vs) H
  | none => False
theorem HRes_one (v : Value) (R : Value → HHeap → Prop) (H : HHeap) : HRes (some [v]) R H = R v H := by first | (unfold HRes; rfl) | exact (Eq.trans rfl rfl)
theorem HRes_nil (R : Value → HHeap → Prop) (H : HHeap) : HRes (some []) R H = R (.tuple #[]) H := by first | (unfold HRes; rfl) | exact (Eq.trans rfl rfl)
theorem HRes_more (v u : Value) (vs : List Value) (R : Value → HHeap → Prop) (H : HHeap) : HRes (some (v :: u :: vs)) R H = R (.tuple (v :: u :: vs).toArray) H := by first | (unfold HRes; rfl) | exact (Eq.trans rfl rfl)

def HEnd (P : Program) (rs : List ResultVar) (R : Value → HHeap → Prop) : Exit → HFrame → HHeap → Prop
  | .normal, fr, H | .ret, fr, H => HRes (hresults P fr H rs) R H
  | _, _, _ => False
theorem HEnd_normal (rs : List ResultVar) (R : Value → HHeap → Prop) (fr : HFrame) (H : HHeap) : HEnd P rs R .normal fr H = HRes (hresults P fr H rs) R H := by first | (unfold HEnd; rfl) | exact (Eq.trans rfl rfl)
theorem HEnd_ret (rs : List ResultVar) (R : Value → HHeap → Prop) (fr : HFrame) (H : HHeap) : HEnd P rs R .ret fr H = HRes (hresults P fr H rs) R H := by first | (unfold HEnd; rfl) | exact (Eq.trans rfl rfl)

theorem HCalls.of_hw {f : FuncId} {fn : Func} {c : Code} {args : List Value} {H : HHeap} {R : Value → HHeap → Prop} (hfn : P.funcs[f]? = some fn) (hc : fn.body = some c) (n : Nat) (hn : fn.ntmps = n)
    (rs : List ResultVar) (hrs : fn.results.toList = rs) (h : HW P c (HEnd P rs R) (hframe0 args n) H) : HCalls P f args H R := by
  subst hn; subst hrs
  refine HCalls.of_body hfn hc (Hwp.mono ?_ (HW.sound c _ _ H h))
  intro e fr H h
  cases e <;> simp only [HEnd, HRes] at h <;> first
    | exact h.elim
    | (split at h
       · exact ⟨trivial, _, ‹_›, h⟩
       · exact h.elim)

/-- Less is known of a frame. -/
def FLe (fr fr' : HFrame) : Prop := fr.size = fr'.size ∧ ∀ t v, fr.get t = some v → fr'.get t = some v

theorem Hwp.weaken {c : Code} {Q : Exit → HFrame → HHeap → Prop} {fr fr' : HFrame} {H : HHeap} (hl : FLe fr fr') (h : Hwp P c Q fr H) : Hwp P c Q fr' H :=
  fun B μ w a hR hf => h B μ w a hR ⟨hf.size.trans hl.1.symm, fun t v e => hf.vals t v (hl.2 t v e), hf.defers⟩

/-- A frame by a row of what is known. -/
def flook : List (Nat × Value) → Nat → Option Value
  | [], _ => none
  | (k, v) :: l, t => if t = k then some v else flook l t
def hfr (n : Nat) (l : List (Nat × Value)) : HFrame := ⟨n, flook l⟩

theorem fle_hfr {n : Nat} {fr : HFrame} (hs : n = fr.size) : ∀ (l : List (Nat × Value)), (∀ p ∈ l, fr.get p.1 = some p.2) → FLe (hfr n l) fr := by
  intro l h
  refine ⟨hs, fun t v e => ?_⟩
  induction l with
  | nil => simp [hfr, flook] at e
  | cons p l ih =>
    simp only [hfr, flook] at e
    split at e
    · rename_i ht; cases e; rw [ht]; exact h p (by simp)
    · exact ih (fun q hq => h q (by simp [hq])) e

theorem hfr_get (n : Nat) (l : List (Nat × Value)) (t : Nat) : (hfr n l).get t = flook l t := by first | (unfold hfr; rfl) | exact (Eq.trans rfl rfl)
theorem hfr_size (n : Nat) (l : List (Nat × Value)) : (hfr n l).size = n := by first | (unfold hfr; rfl) | exact (Eq.trans rfl rfl)
theorem hput_hfr (n : Nat) (l : List (Nat × Value)) (d : Nat) (v : Value) (h : d < n) : hput (hfr n l) (some d) v = hfr n ((d, v) :: l) := by
  unfold hput
  simp only
  rw [if_pos (show d < (hfr n l).size from h)]
  rfl
theorem hput_none (fr : HFrame) (v : Value) : hput fr none v = fr := by first | (unfold hput; rfl) | exact (Eq.trans rfl rfl)
theorem hframe0_eq (args : List Value) (n : Nat) (h : args.length ≤ n) : hframe0 args n = hfr n (args.zipIdx.map fun p => (p.2, p.1)) := by
  unfold hframe0 hfr
  congr 1
  · omega
  · have key : ∀ (l : List Value) (k t : Nat), flook ((l.zipIdx k).map fun p => (p.2, p.1)) t = if k ≤ t then l[t - k]? else none := by
      intro l
      induction l with
      | nil => intro k t; simp [flook]
      | cons x l ih =>
        intro k t
        simp only [List.zipIdx_cons, List.map_cons, flook, ih]
        by_cases ht : t = k
        · subst ht; simp
        · rw [if_neg ht]
          by_cases hk : k ≤ t
          · rw [if_pos (by omega), if_pos hk, show t - k = (t - (k + 1)) + 1 by omega]; rfl
          · rw [if_neg (by omega), if_neg hk]
    funext t
    rw [key]; simp

end Go.HL
/-
  A high level over the model, part 14: the equations by which simp walks.
-/
namespace Go.HL
open Go.RowKit

variable {P : Program} {ops : Array Oper} {fr : HFrame} {H : HHeap}

theorem hwanted_none (d : Option Tmp) (op : Op) (t : TypeId) (pos : String) (af : Array Edge) : hwanted ops fr ⟨d, op, t, pos, af, none⟩ = some true := by unfold hwanted; rfl
/-- What a guard finds. -/
def hguard (v : Option Value) (want : Bool) : Option Bool :=
  match v with
  | some (.bool b) => some (b == want)
  | some (.tuple _) => some false
  | _ => none
theorem hguard_bool (b want : Bool) : hguard (some (.bool b)) want = some (b == want) := by unfold hguard; rfl
theorem hwanted_some (d : Option Tmp) (op : Op) (t : TypeId) (pos : String) (af : Array Edge) (j : Nat) (want : Bool) : hwanted ops fr ⟨d, op, t, pos, af, some (j, want)⟩ = hguard (((ops[j]?).bind (·.dst)).bind fr.get) want := by
  unfold hwanted hguard; rfl

theorem hev_tmp (t : Nat) : hev fr (.tmp t) = fr.get t := by unfold hev; rfl
theorem hev_const (v : Value) (h : flat v = true) : hev fr (.const v) = some v := by simp [hev, h]
theorem hev_int (k : IntKind) (n : Int) : hev fr (.const (.int k n)) = some (.int k n) := hev_const _ rfl
theorem hev_bool (b : Bool) : hev fr (.const (.bool b)) = some (.bool b) := hev_const _ rfl
theorem hev_string (b : ByteArray) : hev fr (.const (.string b)) = some (.string b) := hev_const _ rfl
theorem hev_nilptr : hev fr (.const (.pointer none)) = some (.pointer none) := hev_const _ rfl
theorem hev_nilslice : hev fr (.const (.slice none 0 0)) = some (.slice none 0 0) := hev_const _ rfl
theorem hev_nilmap : hev fr (.const (.map none)) = some (.map none) := hev_const _ rfl
theorem hev_nilfunc : hev fr (.const .nilFunc) = some .nilFunc := hev_const _ rfl
theorem hev_niliface : hev fr (.const .nilIface) = some .nilIface := hev_const _ rfl
theorem hev_agg (cs : List Value) (h : cs.all flat1 = true) : hev fr (.const (.agg cs.toArray)) = some (.agg cs.toArray) := hev_const _ (by simpa [flat] using h)
theorem hev_func (f : FuncId) : hev fr (.func f) = some (.func (.func f) #[] #[]) := by unfold hev; rfl
theorem flook_nil (t : Nat) : flook [] t = none := by unfold flook; rfl
theorem flook_cons (k : Nat) (v : Value) (l : List (Nat × Value)) (t : Nat) : flook ((k, v) :: l) t = if t = k then some v else flook l t := by rw [flook]
theorem hevs_nil : hevs fr [] = some [] := by unfold hevs; rfl
theorem hevs_cons (x : Operand) (xs : List Operand) : hevs fr (x :: xs) = (hev fr x).bind fun v => (hevs fr xs).map fun vs => v :: vs := by rw [hevs]
theorem hparts_nil : hparts fr [] = some [] := by unfold hparts; rfl
theorem hparts_cons (i : Nat) (x : Operand) (xs : List (Nat × Operand)) : hparts fr ((i, x) :: xs) = (hev fr x).bind fun v => (hparts fr xs).map fun vs => (i, v) :: vs := by rw [hparts]
theorem hopt_none : hopt fr none = some none := by unfold hopt; rfl
def hintv (v : Option Value) : Option (Option Value) :=
  match v with
  | some (.int k n) => some (some (.int k n))
  | _ => none
theorem hintv_int (k : IntKind) (n : Int) : hintv (some (.int k n)) = some (some (.int k n)) := by unfold hintv; rfl
theorem hopt_some (x : Operand) : hopt fr (some x) = hintv (hev fr x) := by unfold hopt hintv; rfl

def hpick (c a b : Option Value) (H : HHeap) : Option (Value × HHeap) :=
  match c with
  | some (.bool true) => a.map fun v => (v, H)
  | some (.bool false) => b.map fun v => (v, H)
  | _ => none
theorem hpick_true (a b : Option Value) : hpick (some (.bool true)) a b H = a.map fun v => (v, H) := by unfold hpick; rfl
theorem hpick_false (a b : Option Value) : hpick (some (.bool false)) a b H = b.map fun v => (v, H) := by unfold hpick; rfl
theorem hop_pick (c a b : Operand) : hop P fr H (.pick c a b) = hpick (hev fr c) (hev fr a) (hev fr b) H := by unfold hop hpick; rfl
def hnil (x : Option Value) (H : HHeap) : Option (Value × HHeap) :=
  match x with
  | some (.pointer (some a)) => some (.pointer (some a), H)
  | some (.func (.func f) a b) => some (.func (.func f) a b, H)
  | _ => none
theorem hnil_ptr (a : Addr) : hnil (some (.pointer (some a))) H = some (.pointer (some a), H) := by unfold hnil; rfl
theorem hnil_func (f : FuncId) (a b : Array Value) : hnil (some (.func (.func f) a b)) H = some (.func (.func f) a b, H) := by unfold hnil; rfl
theorem hop_nilCheck (x : Operand) : hop P fr H (.nilCheck x) = hnil (hev fr x) H := by unfold hop hnil; rfl
def hixA (P : Program) (t : TypeId) (x i : Option Value) (H : HHeap) : Option (Value × HHeap) :=
  x.bind fun p => match i with
    | some (.int k n) => (hindexAt P t p (.int k n)).map fun v => (v, H)
    | _ => none
theorem hixA_int (t : TypeId) (p : Value) (k : IntKind) (n : Int) : hixA P t (some p) (some (.int k n)) H = (hindexAt P t p (.int k n)).map fun v => (v, H) := by unfold hixA; rfl
theorem hop_indexAddr (t : TypeId) (x i : Operand) : hop P fr H (.indexAddr t x i) = hixA P t (hev fr x) (hev fr i) H := by unfold hop hixA; rfl
def hix (P : Program) (t : TypeId) (x i : Option Value) (H : HHeap) : Option (Value × HHeap) :=
  x.bind fun p => match i with
    | some (.int k n) => (hindex P t p (.int k n)).map fun v => (v, H)
    | _ => none
theorem hix_int (t : TypeId) (p : Value) (k : IntKind) (n : Int) : hix P t (some p) (some (.int k n)) H = (hindex P t p (.int k n)).map fun v => (v, H) := by unfold hix; rfl
theorem hop_index (t : TypeId) (x i : Operand) : hop P fr H (.index t x i) = hix P t (hev fr x) (hev fr i) H := by unfold hop hix; rfl
def hext (x : Option Value) (i : Nat) (H : HHeap) : Option (Value × HHeap) :=
  match x with
  | some (.tuple vs) => (vs.toList[i]?).map fun v => (v, H)
  | _ => none
theorem hext_tuple (vs : Array Value) (i : Nat) : hext (some (.tuple vs)) i H = (vs.toList[i]?).map fun v => (v, H) := by unfold hext; rfl
theorem hop_extract (x : Operand) (i : Nat) : hop P fr H (.extract x i) = hext (hev fr x) i H := by unfold hop hext; rfl
def hmk (P : Program) (t : TypeId) (l c : Option Value) (H : HHeap) : Option (Value × HHeap) :=
  match l, c with
  | some (.int k l), some (.int k' c) => hmakeSlice P H t (.int k l) (.int k' c)
  | _, _ => none
theorem hmk_int (t : TypeId) (k k' : IntKind) (l c : Int) : hmk P t (some (.int k l)) (some (.int k' c)) H = hmakeSlice P H t (.int k l) (.int k' c) := by unfold hmk; rfl
theorem hop_makeSlice (t : TypeId) (l c : Operand) : hop P fr H (.makeSlice t l c) = hmk P t (hev fr l) (hev fr c) H := by unfold hop hmk; rfl
theorem hop_makeMap (t : TypeId) : hop P fr H (.makeMap t none) = some (.map (some H.next), H.push (.map [])) := by unfold hop; rfl
theorem hop_makeFunc (fn : Fn) (cs : Array Operand) : hop P fr H (.makeFunc fn #[] cs) = (hevs fr cs.toList).map fun vs => (.func fn #[] vs.toArray, H) := by unfold hop; rfl
theorem hop_makeInterface (t : TypeId) (x : Operand) (h : kindOf P t ≠ 5) (h' : (P.underlying t).isSome = true) : hop P fr H (.makeInterface t x) = (hev fr x).map fun v => (.iface t v, H) := by
  unfold hop; simp only; rw [if_neg h, if_pos h']
theorem hop_builtin (b : Builtin) (args : Array Operand) (ts : Array TypeId) : hop P fr H (.call { callee := .builtin b, args := args, argTypes := ts }) = (hevs fr args.toList).bind fun vs => hbuiltin P H b ts.toList vs := by unfold hop; rfl
theorem hop_call (x : Operand) (args : Array Operand) (ts : Array TypeId) : hop P fr H (.call { callee := .value x, args := args, argTypes := ts }) = none := by unfold hop; rfl
theorem hop_move (x : Operand) : hop P fr H (.move x) = ((hev fr x).map fun v => (v, H)) := by unfold hop; rfl
theorem hop_assign (x : Operand) : hop P fr H (.assign x) = ((hev fr x).map fun v => (v, H)) := by unfold hop; rfl
theorem hop_alloc (t : TypeId) : hop P fr H (.alloc t) = (halloc P H t) := by unfold hop; rfl
theorem hop_box (t : TypeId) (x : Operand) : hop P fr H (.box t x) = ((hev fr x).bind fun v => hbox H v) := by unfold hop; rfl
theorem hop_build (t : TypeId) (ps : Array (Nat × Operand)) : hop P fr H (.build t ps) = ((hparts fr ps.toList).bind fun vs => (hbuild P t vs).map fun v => (v, H)) := by unfold hop; rfl
theorem hop_buildSlice (t : TypeId) (n : Nat) (ps : Array (Nat × Operand)) : hop P fr H (.buildSlice t n ps) = ((hparts fr ps.toList).bind fun vs => hbuildSlice P H t n vs) := by unfold hop; rfl
theorem hop_load (t : TypeId) (a : Operand) : hop P fr H (.load t a) = ((hev fr a).bind fun p => (hload P H t p).map fun v => (v, H)) := by unfold hop; rfl
theorem hop_store (t : TypeId) (a : Operand) (x : Operand) : hop P fr H (.store t a x) = ((hev fr a).bind fun p => (hev fr x).bind fun v => (hstore P H t p v).map fun H' => (undef, H')) := by unfold hop; rfl
theorem hop_binOp (op : BinOp) (t : TypeId) (x : Operand) (y : Operand) (u : TypeId) : hop P fr H (.binOp op t x y u) = ((hev fr x).bind fun a => (hev fr y).bind fun b => (hbin P op t a b).map fun v => (v, H)) := by unfold hop; rfl
theorem hop_unOp (op : UnOp) (t : TypeId) (x : Operand) : hop P fr H (.unOp op t x) = ((hev fr x).bind fun a => (hunary op a).map fun v => (v, H)) := by unfold hop; rfl
theorem hop_convert (s : TypeId) (d : TypeId) (x : Operand) : hop P fr H (.convert s d x) = ((hev fr x).bind fun a => (hconvert P s d a).map fun v => (v, H)) := by unfold hop; rfl
theorem hop_slice (t : TypeId) (x : Operand) (lo : Option Operand) (hi : Option Operand) (mx : Option Operand) : hop P fr H (.slice t x lo hi mx) = ((hev fr x).bind fun v => (hopt fr lo).bind fun lo => (hopt fr hi).bind fun hi => (hopt fr mx).bind fun mx => (hslice P t v lo hi mx).map fun v => (v, H)) := by unfold hop; rfl
theorem hop_fieldAddr (s : TypeId) (x : Operand) (f : Nat) : hop P fr H (.fieldAddr s x f) = ((hev fr x).bind fun p => (hfieldAt P s p f).map fun v => (v, H)) := by unfold hop; rfl
theorem hop_field (t : TypeId) (x : Operand) (f : Nat) : hop P fr H (.field t x f) = ((hev fr x).bind fun p => (hfield P t p f).map fun v => (v, H)) := by unfold hop; rfl
theorem hop_lookup (t : TypeId) (m : Operand) (k : Operand) (ok : Bool) : hop P fr H (.lookup t m k ok) = ((hev fr m).bind fun p => (hev fr k).bind fun k => (hlookup P H t p k ok).map fun v => (v, H)) := by unfold hop; rfl
theorem hop_mapUpdate (t : TypeId) (m : Operand) (k : Operand) (x : Operand) : hop P fr H (.mapUpdate t m k x) = ((hev fr m).bind fun p => (hev fr k).bind fun k => (hev fr x).bind fun x => (hmapUpdate P H t p k x).map fun H' => (undef, H')) := by unfold hop; rfl
theorem hop_insert (t : TypeId) (m : Operand) (k : Operand) (x : Operand) : hop P fr H (.insert t m k x) = ((hev fr m).bind fun p => (hev fr k).bind fun k => (hev fr x).bind fun x => (hmapUpdate P H t p k x).map fun H' => (undef, H')) := by unfold hop; rfl
theorem hcallee_move (x : Operand) : hcallee P fr (.move x) = none := by unfold hcallee; rfl
theorem hcallee_assign (x : Operand) : hcallee P fr (.assign x) = none := by unfold hcallee; rfl
theorem hcallee_alloc (t : TypeId) : hcallee P fr (.alloc t) = none := by unfold hcallee; rfl
theorem hcallee_box (t : TypeId) (x : Operand) : hcallee P fr (.box t x) = none := by unfold hcallee; rfl
theorem hcallee_build (t : TypeId) (ps : Array (Nat × Operand)) : hcallee P fr (.build t ps) = none := by unfold hcallee; rfl
theorem hcallee_buildSlice (t : TypeId) (n : Nat) (ps : Array (Nat × Operand)) : hcallee P fr (.buildSlice t n ps) = none := by unfold hcallee; rfl
theorem hcallee_load (t : TypeId) (a : Operand) : hcallee P fr (.load t a) = none := by unfold hcallee; rfl
theorem hcallee_store (t : TypeId) (a : Operand) (x : Operand) : hcallee P fr (.store t a x) = none := by unfold hcallee; rfl
theorem hcallee_binOp (op : BinOp) (t : TypeId) (x : Operand) (y : Operand) (u : TypeId) : hcallee P fr (.binOp op t x y u) = none := by unfold hcallee; rfl
theorem hcallee_unOp (op : UnOp) (t : TypeId) (x : Operand) : hcallee P fr (.unOp op t x) = none := by unfold hcallee; rfl
theorem hcallee_convert (s : TypeId) (d : TypeId) (x : Operand) : hcallee P fr (.convert s d x) = none := by unfold hcallee; rfl
theorem hcallee_slice (t : TypeId) (x : Operand) (lo : Option Operand) (hi : Option Operand) (mx : Option Operand) : hcallee P fr (.slice t x lo hi mx) = none := by unfold hcallee; rfl
theorem hcallee_fieldAddr (s : TypeId) (x : Operand) (f : Nat) : hcallee P fr (.fieldAddr s x f) = none := by unfold hcallee; rfl
theorem hcallee_field (t : TypeId) (x : Operand) (f : Nat) : hcallee P fr (.field t x f) = none := by unfold hcallee; rfl
theorem hcallee_lookup (t : TypeId) (m : Operand) (k : Operand) (ok : Bool) : hcallee P fr (.lookup t m k ok) = none := by unfold hcallee; rfl
theorem hcallee_mapUpdate (t : TypeId) (m : Operand) (k : Operand) (x : Operand) : hcallee P fr (.mapUpdate t m k x) = none := by unfold hcallee; rfl
theorem hcallee_insert (t : TypeId) (m : Operand) (k : Operand) (x : Operand) : hcallee P fr (.insert t m k x) = none := by unfold hcallee; rfl
theorem hcallee_pick (c : Operand) (a : Operand) (b : Operand) : hcallee P fr (.pick c a b) = none := by unfold hcallee; rfl
theorem hcallee_nilCheck (x : Operand) : hcallee P fr (.nilCheck x) = none := by unfold hcallee; rfl
theorem hcallee_indexAddr (t : TypeId) (x : Operand) (y : Operand) : hcallee P fr (.indexAddr t x y) = none := by unfold hcallee; rfl
theorem hcallee_index (t : TypeId) (x : Operand) (y : Operand) : hcallee P fr (.index t x y) = none := by unfold hcallee; rfl
theorem hcallee_extract (x : Operand) (n : Nat) : hcallee P fr (.extract x n) = none := by unfold hcallee; rfl
theorem hcallee_makeSlice (t : TypeId) (x : Operand) (y : Operand) : hcallee P fr (.makeSlice t x y) = none := by unfold hcallee; rfl
theorem hcallee_makeMap (t : TypeId) (r : Option Operand) : hcallee P fr (.makeMap t r) = none := by unfold hcallee; rfl
theorem hcallee_makeFunc (fn : Fn) (a b : Array Operand) : hcallee P fr (.makeFunc fn a b) = none := by unfold hcallee; rfl
theorem hcallee_makeInterface (t : TypeId) (x : Operand) : hcallee P fr (.makeInterface t x) = none := by unfold hcallee; rfl
theorem hcallee_builtin (b : Builtin) (args : Array Operand) (ts : Array TypeId) : hcallee P fr (.call { callee := .builtin b, args := args, argTypes := ts }) = none := by unfold hcallee; rfl
/-- Whom a call calls. -/
def hwho (P : Program) (x : Option Value) (vs : Option (List Value)) : Option (FuncId × List Value) :=
  match x, vs with
  | some (.func (.func f) first captured), some vs => if first.size = 0 ∧ isGo P f then some (f, vs ++ captured.toList) else none
  | _, _ => none
theorem hwho_func (f : FuncId) (cs : List Value) (vs : List Value) (h : isGo P f = true) : hwho P (some (.func (.func f) #[] cs.toArray)) (some vs) = some (f, vs ++ cs) := by
  unfold hwho; simp [h]
theorem hwho_func0 (f : FuncId) (vs : List Value) (h : isGo P f = true) : hwho P (some (.func (.func f) #[] #[])) (some vs) = some (f, vs) := by
  unfold hwho; simp [h]
theorem hcallee_call (x : Operand) (args : Array Operand) (ts : Array TypeId) : hcallee P fr (.call { callee := .value x, args := args, argTypes := ts }) = hwho P (hev fr x) (hevs fr args.toList) := by unfold hcallee hwho; rfl

theorem hbuiltin_len (t : TypeId) (x : Value) : hbuiltin P H .len [t] [x] = (hlen P H t x).map fun v => (v, H) := by unfold hbuiltin; rfl
theorem hbuiltin_append (t u : TypeId) (s x : Value) : hbuiltin P H .append [t, u] [s, x] = happend P H t u s x := by unfold hbuiltin; rfl
theorem hbuiltin_copy (t u : TypeId) (s x : Value) : hbuiltin P H .copy [t, u] [s, x] = hcopy P H t s x := by unfold hbuiltin; rfl
theorem hbuiltin_min (ts : List TypeId) (x y : Value) : hbuiltin P H .min ts [x, y] = (hmin2 x y).map fun v => (v, H) := by
  unfold hbuiltin; simp only [hfold]; cases hmin2 x y <;> rfl
theorem hbuiltin_max (ts : List TypeId) (x y : Value) : hbuiltin P H .max ts [x, y] = (hmax2 x y).map fun v => (v, H) := by
  unfold hbuiltin; simp only [hfold]; cases hmax2 x y <;> rfl

theorem hresults_nil : hresults P fr H [] = some [] := by unfold hresults; rfl
theorem hresults_tmp (t : Nat) (rs : List ResultVar) : hresults P fr H (.tmp t :: rs) = (fr.get t).bind fun v => (hresults P fr H rs).map fun vs => v :: vs := by rw [hresults, hresult]
theorem hresults_cell (a : Nat) (t : TypeId) (rs : List ResultVar) : hresults P fr H (.cell a t :: rs) = ((fr.get a).bind fun p => hload P H t p).bind fun v => (hresults P fr H rs).map fun vs => v :: vs := by
  rw [hresults]
  have : hresult P fr H (.cell a t) = (fr.get a).bind fun p => hload P H t p := by
    simp only [hresult]
    cases fr.get a <;> rfl
  rw [this]

theorem hbin_int {op : BinOp} (k : IntKind) (a b : Int) (t : TypeId) (h : (op == .shl || op == .shr) = false) : hbin P op t (.int k a) (.int k b) = hint op k a b := by
  cases op <;> simp at h <;> simp [hbin]
theorem hbin_shl (k k' : IntKind) (a b : Int) (t : TypeId) : hbin P .shl t (.int k a) (.int k' b) = hshift .shl k a b := by simp [hbin]
theorem hbin_shr (k k' : IntKind) (a b : Int) (t : TypeId) : hbin P .shr t (.int k a) (.int k' b) = hshift .shr k a b := by simp [hbin]

end Go.HL
