/-
  Joined: H8, H9.
-/
import Derived.Test.YtaghhialaplgoaaGreatDoorPFH7
import Derived.Lib.UnsafeStr
import Derived.Laws.BytesString
import Derived.Lib.OthersKept
set_option linter.unusedVariables false
set_option linter.unusedSimpArgs false
/-
  A high level over the model, part 8: copies, maps, lengths; and all operations under one name.
-/
namespace Go.HL
set_option linter.unusedSimpArgs false
set_option linter.unusedVariables false
open Go.RowKit

variable {P : Program} {B : Nat} {μ : Mu} {H : HHeap} {w : World} {D : List Deferred}

/-- copy. -/
def hcopy (P : Program) (H : HHeap) (dt : TypeId) (d x : Value) : Option (Value × HHeap) :=
  match P.underlying dt with
  | some (.slice u) => (helem P u).bind fun e =>
    match d with
    | .slice none 0 0 => (hsource H e.size x).map fun _ => (.int .i64 0, H)
    | .slice (some ⟨b, o, _⟩) len _ =>
      (hsource H e.size x).bind fun (vs, n) =>
      if min n len = 0 then some (.int .i64 0, H) else
      match H.get b with
      | some (.cells cs true) =>
        if o + min n len * e.size ≤ cs.length ∧ min n len * e.size ≤ vs.length then some (.int .i64 (min n len : Nat), H.set b (.cells (splice cs o (vs.take (min n len * e.size))) true)) else none
      | _ => none
    | _ => none
  | _ => none

theorem hsource_min {size : Nat} {x x' : Value} {vs : List Value} {n : Nat} (h : Rel B μ H w) (hl : hsource H size x = some (vs, n)) (hx : VRel μ x x') (m : Nat) (hm : m ≤ n) :
    ∃ vs', VRels μ (vs.take (m * size)) vs' ∧ (Builtin.firstCells size m x').run P w = .ok vs'.toArray w := by
  unfold hsource at hl
  split at hl
  · cases hl; cases hx
    have : m = 0 := by omega
    subst this
    exact ⟨[], by simpa using VRels.nil, by simp [Builtin.firstCells]⟩
  · rename_i b o s n' c
    split at hl
    · rename_i hn; cases hl; subst hn
      have : m = 0 := by omega
      subst this
      have : ∃ a c', x' = .slice (some a) 0 c' := by cases hx <;> exact ⟨_, _, rfl⟩
      obtain ⟨a, c', rfl⟩ := this
      exact ⟨[], by simpa using VRels.nil, by simp [Builtin.firstCells, loadCells, loadCellsFrom]⟩
    · rename_i hn
      split at hl
      · rename_i cs rw' hb
        split at hl <;> cases hl
        rename_i hlen
        have hmn : m * size ≤ n * size := Nat.mul_le_mul_right _ hm
        have key : ∀ (p : Place) (c' : Nat), μ b = some p → ∃ vs', VRels μ (((cs.drop o).take (n * size)).take (m * size)) vs' ∧ (Builtin.firstCells size m (.slice (some ⟨p.g, p.d + o, none⟩) n c')).run P w = .ok vs'.toArray w := by
          intro p c' hp
          obtain ⟨vs', h1, h2, h3⟩ := h.cellsAt hb hp o (m * size) (by omega)
          refine ⟨vs', ?_, run_firstCells_some (P := P) w size _ _ _ _ vs' h2 h3⟩
          rw [List.take_take, Nat.min_eq_left hmn]; exact h1
        cases hx with
        | slice _ _ _ _ p hp _ => exact key p _ hp
        | grown _ _ _ _ _ _ p hp _ _ _ => exact key p _ hp
        | hole => exact absurd rfl hn
        | void => exact absurd rfl hn
      · cases hl
  · rename_i s
    split at hl <;> cases hl
    rename_i hs
    subst hs
    cases hx
    refine ⟨_, .of_flat1 (vs := (s.data.toList.map (fun b => Value.int .u8 b.toNat)).take (m * 1)) ?_, ?_⟩
    · rw [List.all_eq_true]; intro v hv
      obtain ⟨b, _, rfl⟩ := List.mem_map.1 (List.mem_of_mem_take hv); rfl
    · simp [Builtin.firstCells]
      apply Array.ext'; simp
  · cases hl

theorem sim_copy (h : Rel B μ H w) {dt ty : TypeId} {ts : Array TypeId} {d d' x x' v : Value} {H' : HHeap} (hts : ts[0]? = some dt) (hl : hcopy P H dt d x = some (v, H')) (hd : VRel μ d d') (hx : VRel μ x x') :
    ∃ μ' w' v', (Builtin.copy_ ts ty #[d', x']).run P w = .ok v' w' ∧ Step B μ H w μ' H' w' ∧ VRel μ' v v' := by
  unfold hcopy at hl
  split at hl
  case h_2 => cases hl
  rename_i u hu
  simp only [Option.bind_eq_some_iff] at hl
  obtain ⟨e, he, hl⟩ := hl
  obtain ⟨i, z, hi, hz, hze, hsz, hby, hf, hzl⟩ := helem_spec he
  split at hl
  · simp only [Option.map_eq_some_iff] at hl
    obtain ⟨⟨vs, n⟩, hsrc, hl⟩ := hl
    cases hl; cases hd
    obtain ⟨h1, _, _, _⟩ := sim_source (P := P) h hsrc hx
    obtain ⟨vs', h2, h3⟩ := hsource_min (P := P) h hsrc hx 0 (Nat.zero_le _)
    refine ⟨μ, w, .int .i64 0, ?_, Step.refl h, .int _ _⟩
    simp [Builtin.copy_, hts, run_underlying hu, h1, sizeOf, typeInfo, hi, hsz, h3, goInt]
  · rename_i b o s len cap
    simp only [Option.bind_eq_some_iff] at hl
    obtain ⟨⟨vs, n⟩, hsrc, hl⟩ := hl
    dsimp only at hl
    obtain ⟨h1, hvl, hv1, _⟩ := sim_source (P := P) h hsrc hx
    obtain ⟨vs', h2, h3⟩ := hsource_min (P := P) h hsrc hx (min n len) (Nat.min_le_left _ _)
    have hds : (∃ p o2 cap', μ b = some p ∧ d' = .slice (some ⟨p.g, p.d + o2, none⟩) len cap' ∧ (len ≠ 0 → o2 = o)) ∨ (len = 0 ∧ ∃ ad, d' = .slice (some ad) 0 0) := by
      cases hd with
      | slice _ _ _ _ p hp _ => exact .inl ⟨p, o, _, hp, rfl, fun _ => rfl⟩
      | grown _ _ _ _ _ _ p hp _ _ _ => exact .inl ⟨p, o, _, hp, rfl, fun _ => rfl⟩
      | hole _ _ o2 _ _ p hp _ => exact .inl ⟨p, o2, _, hp, rfl, fun hh => absurd rfl hh⟩
      | void _ _ ad => exact .inr ⟨rfl, ad, rfl⟩
    rcases hds with hds | ⟨hl0, ad, rfl⟩
    case inr =>
      subst hl0
      have hz0 : min n 0 = 0 := Nat.min_zero n
      rw [hz0] at h2 h3 hl
      simp only [if_true] at hl
      cases hl
      have : vs' = [] := by have := h2.length; simp at this; exact this
      subst this
      refine ⟨μ, w, .int .i64 0, ?_, Step.refl h, .int _ _⟩
      have hm : Nat.min n 0 = 0 := hz0
      simp [Builtin.copy_, hts, run_underlying hu, h1, sizeOf, typeInfo, hi, hsz, h3, goInt, storeCells]
    obtain ⟨p, o2, cap', hp, rfl, ho⟩ := hds
    split at hl
    · rename_i hz0
      cases hl
      rw [hz0] at h2 h3
      have : vs' = [] := by have := h2.length; simp at this; exact this
      subst this
      refine ⟨μ, w, .int .i64 0, ?_, Step.refl h, .int _ _⟩
      have hm : Nat.min n len = 0 := hz0
      simp [Builtin.copy_, hts, run_underlying hu, h1, sizeOf, typeInfo, hi, hsz, h3, goInt, hm, storeCells]
    · rename_i hz0
      split at hl
      · rename_i cs hb
        split at hl <;> cases hl
        rename_i hc
        have hlen0 : len ≠ 0 := by intro e; subst e; simp at hz0
        have := ho hlen0
        subst this
        have hlt : (vs.take (min n len * e.size)).length = min n len * e.size := by simp; omega
        have hq := h.cells b cs true hb
        obtain ⟨q, hq, hl', _⟩ := hq
        rw [hp] at hq; cases hq
        have hv1' : ∀ v ∈ vs.take (min n len * e.size), v.oneCell' = true := fun v hv => hv1 v (List.mem_of_mem_take hv)
        have hrun := h.run_store P hb hp o2 _ _ h2 hv1' (by omega)
        refine ⟨μ, _, _, ?_, h.store hb hp o2 _ _ h2 hv1' (by omega), .int _ _⟩
        have hm : Nat.min n len = min n len := rfl
        simp [Builtin.copy_, hts, run_underlying hu, h1, sizeOf, typeInfo, hi, hsz, hm, h3, hrun, goInt]
      · cases hl
  · cases hl

/-- Are two keys the same? -/
def keyEq : Value → Value → Bool
  | .int _ a, .int _ b => a == b
  | .string a, .string b => a == b
  | .bool a, .bool b => a == b
  | _, _ => false

/-- A key that can be looked for at once: a whole number, a string, a bool. -/
def plainKey (P : Program) (t : TypeId) (k : Value) : Bool :=
  match P.underlying t, k with
  | some (.int k'), .int k'' _ => k' == k''
  | some .string, .string _ => true
  | some .bool, .bool _ => true
  | _, _ => false

/-- The place of a key among a map's entries, and what it holds. -/
def hfind (k : Value) : List (Value × Value) → Option (Nat × Value)
  | [] => none
  | (k', v) :: es => if keyEq k k' then some (0, v) else (hfind k es).map fun r => (r.1 + 1, r.2)

theorem sameNow_of {t : TypeId} {d : TypeDesc} (hd : P.underlying t = some d) {k k' : Value} (h : plainKey P t k = true) (h' : plainKey P t k' = true) : Instr.sameNow d k k' = some (keyEq k k') := by
  unfold plainKey at h h'
  rw [hd] at h h'
  cases d <;> cases k <;> simp at h <;> cases k' <;> simp at h' <;> simp [Instr.sameNow, keyEq]
  subst h; simpa using h'

theorem findNow_of {t : TypeId} {d : TypeDesc} (hd : P.underlying t = some d) {k : Value} (h : plainKey P t k = true) : ∀ {es : List (Value × Value)} {es' : List MapEntry} (i : Nat), ERels μ es es' → es.all (fun e => plainKey P t e.1) = true →
    ∃ r, Instr.findNow d k es' i = some r ∧ (hfind k es = none → r = none) ∧ (∀ j v, hfind k es = some (j, v) → ∃ v', r = some (i + j, v') ∧ VRel μ v v' ∧ ∃ e, es'[j]? = some e ∧ keyEq k e.key = true)
  | _, _, i, .nil, _ => ⟨none, rfl, fun _ => rfl, fun j v e => by simp [hfind] at e⟩
  | _, _, i, .cons k' v e es es' hk hf hv hs, ha => by
    simp only [List.all_cons, Bool.and_eq_true] at ha
    subst hk
    have hsame := sameNow_of hd h ha.1
    simp only [Instr.findNow, hsame, hfind]
    by_cases hkk : keyEq k e.key = true
    · simp only [hkk, if_true]
      refine ⟨_, rfl, fun hh => by simp at hh, fun j u hh => ?_⟩
      simp at hh; obtain ⟨rfl, rfl⟩ := hh
      exact ⟨_, rfl, hv, e, by simp, hkk⟩
    · have hkf : keyEq k e.key = false := by simpa using hkk
      obtain ⟨r, h1, h2, h3⟩ := findNow_of hd h (i + 1) hs ha.2
      simp only [hkf]
      refine ⟨r, h1, fun hh => h2 (by simpa using hh), fun j u hh => ?_⟩
      simp only [Bool.false_eq_true, if_false, Option.map_eq_some_iff] at hh
      obtain ⟨⟨j', u'⟩, hh, he⟩ := hh
      simp at he; obtain ⟨rfl, rfl⟩ := he
      obtain ⟨v', e1, e2, e3⟩ := h3 j' u' hh
      exact ⟨v', by rw [e1]; simp; omega, e2, by simpa using e3⟩

theorem run_checkKey {b : Bool} {t : TypeId} {k : Value} (h : plainKey P t k = true) (n : Nat) (w : World) : (Instr.checkKey b (n + 1) t k).run P w = .ok () w := by
  unfold plainKey at h
  split at h
  · simp [Instr.checkKey, run_underlying ‹P.underlying t = _›]
  · simp [Instr.checkKey, run_underlying ‹P.underlying t = _›]
  · simp [Instr.checkKey, run_underlying ‹P.underlying t = _›]
  · cases h

theorem plainKey_desc {t : TypeId} {k : Value} (h : plainKey P t k = true) : ∃ d, P.underlying t = some d := by
  unfold plainKey at h
  split at h <;> first | exact ⟨_, ‹_›⟩ | cases h

theorem plainKey_flat {t : TypeId} {k : Value} (h : plainKey P t k = true) : flat1 k = true := by
  unfold plainKey at h
  split at h <;> first | rfl | cases h

def hzero (P : Program) (t : TypeId) : Option Value :=
  match P.info? t with
  | some i => match i.zero with
    | some z => if flat z then some z else none
    | none => none
  | none => none

theorem run_hzero {t : TypeId} {z : Value} (h : hzero P t = some z) (w : World) : (zeroValue t).run P w = .ok z w ∧ VRel μ z z := by
  unfold hzero at h
  split at h
  · rename_i i hi
    split at h
    · rename_i z hz
      split at h <;> cases h
      exact ⟨by simp [zeroValue, typeInfo, hi, hz], .of_flat ‹_›⟩
    · cases h
  · cases h

def hentries (H : HHeap) (m : Value) : Option (List (Value × Value)) :=
  match m with
  | .map none => some []
  | .map (some b) => match H.get b with
    | some (.map es) => some es
    | _ => none
  | _ => none

def hlookup (P : Program) (H : HHeap) (t : TypeId) (m k : Value) (ok : Bool) : Option Value :=
  match P.underlying t with
  | some (.map kt et) =>
    (hentries H m).bind fun es =>
    if plainKey P kt k ∧ es.all (fun e => plainKey P kt e.1) then
      match hfind k es with
      | some (_, v) => some (if ok then .tuple #[v, .bool true] else v)
      | none => (hzero P et).map fun z => if ok then .tuple #[z, .bool false] else z
    else none
  | _ => none

theorem sim_lookup (h : Rel B μ H w) {t : TypeId} {m m' k v : Value} {ok : Bool} (hl : hlookup P H t m k ok = some v) (hm : VRel μ m m') :
    ∃ v', (Instr.lookup t m' k ok).run P w = .ok v' w ∧ VRel μ v v' := by
  unfold hlookup at hl
  split at hl
  case h_2 => cases hl
  rename_i kt et ht
  simp only [Option.bind_eq_some_iff] at hl
  obtain ⟨es, hes, hl⟩ := hl
  split at hl
  case isFalse => cases hl
  rename_i hc
  obtain ⟨d, hd⟩ := plainKey_desc hc.1
  have fin : ∀ (es' : Array MapEntry), ERels μ es es'.toList → ∃ v', (do
      Instr.checkKey es'.isEmpty 10000 kt k
      let (v, ok') ← match ← Instr.findKey kt k es'.toList with
        | some (_, v) => pure (v, true)
        | none => pure (← zeroValue et, false)
      pure (if ok then Value.tuple #[v, .bool ok'] else v) : Sem Value).run P w = .ok v' w ∧ VRel μ v v' := by
    intro es' he
    obtain ⟨r, h1, h2, h3⟩ := findNow_of (P := P) hd hc.1 0 he hc.2
    have hck := run_checkKey (P := P) (b := es'.isEmpty) hc.1 9999 w
    split at hl
    · rename_i j u hf
      cases hl
      obtain ⟨v', e1, e2, _⟩ := h3 j u hf
      subst e1
      cases ok
      · exact ⟨v', by simp [hck, Instr.findKey, run_underlying hd, h1], e2⟩
      · exact ⟨.tuple #[v', .bool true], by simp [hck, Instr.findKey, run_underlying hd, h1], .tuple [_, _] [_, _] (.cons _ _ _ _ e2 (.cons _ _ _ _ (.bool _) .nil))⟩
    · rename_i hf
      simp only [Option.map_eq_some_iff] at hl
      obtain ⟨z, hz, hl⟩ := hl
      have := h2 hf
      subst this
      obtain ⟨z1, z2⟩ := run_hzero (μ := μ) hz w
      cases ok
      · simp at hl; subst hl
        exact ⟨_, by simp [hck, Instr.findKey, run_underlying hd, h1, z1], z2⟩
      · simp at hl; subst hl
        exact ⟨.tuple #[_, .bool false], by simp [hck, Instr.findKey, run_underlying hd, h1, z1], .tuple [_, _] [_, _] (.cons _ _ _ _ z2 (.cons _ _ _ _ (.bool _) .nil))⟩
  unfold hentries at hes
  split at hes
  · cases hes; cases hm
    obtain ⟨v', f1, f2⟩ := fin #[] .nil
    refine ⟨v', ?_, f2⟩
    simp only [Instr.lookup, Sem.run_bind, run_underlying ht, Result.andThen_ok, Sem.run_pure] at f1 ⊢
    exact f1
  · rename_i b
    split at hes <;> cases hes
    rename_i hb
    cases hm with
    | map _ p hp =>
    obtain ⟨q, clock, es', hq, _, hh, he⟩ := h.maps b _ hb
    rw [hp] at hq; cases hq
    obtain ⟨v', f1, f2⟩ := fin es' he
    refine ⟨v', ?_, f2⟩
    have hgo : (getObj p.g).run P w = .ok (.map es' clock) w := by simp [getObj, Sem.run, hh]
    simp only [Instr.lookup, Sem.run_bind, run_underlying ht, Result.andThen_ok, Sem.run_pure, hgo] at f1 ⊢
    exact f1
  · cases hes

def hmapUpdate (P : Program) (H : HHeap) (t : TypeId) (m k x : Value) : Option HHeap :=
  match P.underlying t, m with
  | some (.map kt _), .map (some b) =>
    match H.get b with
    | some (.map es) =>
      if plainKey P kt k ∧ es.all (fun e => plainKey P kt e.1) then
        match hfind k es with
        | some (j, _) => some (H.set b (.map (es.set j (k, x))))
        | none => some (H.set b (.map (es ++ [(k, x)])))
      else none
    | _ => none
  | _, _ => none

theorem ERels.append : ∀ {a b : List (Value × Value)} {a' b' : List MapEntry}, ERels μ a a' → ERels μ b b' → ERels μ (a ++ b) (a' ++ b')
  | _, _, _, _, .nil, h => h
  | _, _, _, _, .cons k v e es es' hk hf hv hs, h => .cons k v e _ _ hk hf hv (hs.append h)

theorem ERels.set : ∀ {a : List (Value × Value)} {a' : List MapEntry} (j : Nat) (k v : Value) (f : MapEntry → MapEntry), ERels μ a a' → (∀ e, (f e).key = k) → (∀ e, VRel μ v (f e).val) → flat1 k = true → ERels μ (a.set j (k, v)) (a'.modify j f)
  | _, _, _, _, _, _, .nil, _, _, _ => by simpa using ERels.nil
  | _, _, 0, k, v, f, .cons k0 v0 e es es' hk hf hv hs, h1, h2, h3 => by
    simp only [List.set_cons_zero, List.modify_zero_cons]
    exact .cons k v (f e) _ _ (h1 e) h3 (h2 e) hs
  | _, _, j + 1, k, v, f, .cons k0 v0 e es es' hk hf hv hs, h1, h2, h3 => by
    simp only [List.set_cons_succ, List.modify_succ_cons]
    exact .cons k0 v0 e _ _ hk hf hv (hs.set j k v f h1 h2 h3)

theorem ba_eq {a b : ByteArray} : (a == b) = true ↔ a = b := by
  constructor
  · intro h
    have h' : (a.data == b.data) = true := h
    cases a; cases b; congr; exact eq_of_beq h'
  · rintro rfl
    show (a.data == a.data) = true
    simp

theorem sameBits_of {t : TypeId} {k k' : Value} (h : plainKey P t k = true) (h' : plainKey P t k' = true) (he : keyEq k k' = true) (n : Nat) : Instr.sameBits n k' k = true := by
  unfold plainKey at h h'
  cases k <;> simp only [keyEq, Bool.false_eq_true] at he <;> cases k' <;> simp only [Bool.false_eq_true] at he
  · have := eq_of_beq he; subst this; simp [Instr.sameBits]
  · have := eq_of_beq he; subst this
    split at h <;> simp at * <;> simp_all [Instr.sameBits]
  · have := ba_eq.1 he; subst this; simp [Instr.sameBits, ba_eq]

theorem ERels.plain {t : TypeId} : ∀ {a : List (Value × Value)} {a' : List MapEntry}, ERels μ a a' → a.all (fun e => plainKey P t e.1) = true → ∀ (j : Nat) (e : MapEntry), a'[j]? = some e → plainKey P t e.key = true
  | _, _, .nil, _, j, e, h => by simp at h
  | _, _, .cons k v e es es' hk hf hv hs, ha, 0, e', h => by
    simp at h; subst h; simp at ha; rw [hk]; exact ha.1
  | _, _, .cons k v e es es' hk hf hv hs, ha, j + 1, e', h => by
    simp only [List.all_cons, Bool.and_eq_true] at ha
    exact hs.plain ha.2 j e' (by simpa using h)

theorem sim_mapUpdate (h : Rel B μ H w) {t : TypeId} {m m' k x x' : Value} {H' : HHeap} (hl : hmapUpdate P H t m k x = some H') (hm : VRel μ m m') (hx : VRel μ x x') :
    ∃ w', (Instr.mapUpdate t m' k x').run P w = .ok () w' ∧ Step B μ H w μ H' w' := by
  unfold hmapUpdate at hl
  split at hl
  case h_2 => cases hl
  rename_i kt et b ht
  split at hl
  case h_2 => cases hl
  rename_i es hb
  split at hl
  case isFalse => cases hl
  rename_i hc
  cases hm with
  | map _ p hp =>
  obtain ⟨q, clock, es', hq, _, hh, he⟩ := h.maps b _ hb
  rw [hp] at hq; cases hq
  obtain ⟨d, hd⟩ := plainKey_desc hc.1
  obtain ⟨r, h1, h2, h3⟩ := findNow_of (P := P) hd hc.1 0 he hc.2
  have hck := run_checkKey (P := P) (b := false) hc.1 9999 w
  have hkf := plainKey_flat hc.1
  have hset : ∀ o, (setObj p.g o).run P w = .ok () { w with heap := w.heap.setIfInBounds p.g o } := fun o => by simp [setObj, Sem.run, hh]
  split at hl
  · rename_i j u hf
    cases hl
    obtain ⟨v', e1, e2, e, e3, e4⟩ := h3 j u hf
    subst e1
    have hpe := he.plain hc.2 j e e3
    have hsb := sameBits_of hc.1 hpe e4 10000
    have e3' : es'[j]? = some e := by simpa using e3
    refine ⟨{ w with heap := w.heap.setIfInBounds p.g (.map (es'.modify j fun e => { e with key := k, val := x' }) clock) }, ?_, h.setMap hb hp _ _ _ ?_⟩
    · simp [Instr.mapUpdate, run_underlying ht, getObj, Sem.run, hh, hck, Instr.findKey, run_underlying hd, h1, e3', Instr.keyThatStays, hsb, hset]
    · rw [Array.toList_modify]
      exact he.set j k x _ (fun _ => rfl) (fun _ => hx) hkf
  · rename_i hf
    cases hl
    have := h2 hf
    subst this
    refine ⟨{ w with heap := w.heap.setIfInBounds p.g (.map (es'.push { key := k, val := x', born := clock }) (clock + 1)) }, ?_, h.setMap hb hp _ _ _ ?_⟩
    · simp [Instr.mapUpdate, run_underlying ht, getObj, Sem.run, hh, hck, Instr.findKey, run_underlying hd, h1, hset]
    · rw [Array.toList_push]
      exact he.append (.cons k x _ [] [] rfl hkf hx .nil)

def hlen (P : Program) (H : HHeap) (t : TypeId) (x : Value) : Option Value :=
  match P.underlying t, x with
  | some .string, .string s => some (.int .i64 s.size)
  | some (.slice _), .slice _ n _ => some (.int .i64 n)
  | some (.array n _), _ => some (.int .i64 n)
  | some (.map _ _), m => (hentries H m).map fun es => .int .i64 es.length
  | _, _ => none

theorem ERels.length : ∀ {a : List (Value × Value)} {a' : List MapEntry}, ERels μ a a' → a'.length = a.length
  | _, _, .nil => rfl
  | _, _, .cons _ _ _ _ _ _ _ _ hs => by simp [hs.length]

theorem sim_len (h : Rel B μ H w) {t ty : TypeId} {ts : Array TypeId} {x x' v : Value} (hts : ts[0]? = some t) (hl : hlen P H t x = some v) (hx : VRel μ x x') :
    (Builtin.len_ ts ty #[x']).run P w = .ok v w ∧ VRel μ v v := by
  unfold hlen at hl
  split at hl
  · cases hl; cases hx; exact ⟨by simp [Builtin.len_, hts, run_underlying ‹P.underlying t = _›, goInt], .int _ _⟩
  · rename_i n _ ht
    cases hl
    have : ∃ a c, x' = .slice a n c := by cases hx <;> exact ⟨_, _, rfl⟩
    obtain ⟨a, c, rfl⟩ := this
    exact ⟨by simp [Builtin.len_, hts, run_underlying ht, goInt], .int _ _⟩
  · cases hl; exact ⟨by simp [Builtin.len_, hts, run_underlying ‹P.underlying t = _›, goInt], .int _ _⟩
  · rename_i m ht
    simp only [Option.map_eq_some_iff] at hl
    obtain ⟨es, hes, hl⟩ := hl
    subst hl
    unfold hentries at hes
    split at hes
    · cases hes; cases hx; exact ⟨by simp [Builtin.len_, hts, run_underlying ‹P.underlying t = _›, goInt], .int _ _⟩
    · rename_i b
      split at hes <;> cases hes
      rename_i hb
      cases hx with
      | map _ p hp =>
      obtain ⟨q, clock, es', hq, _, hh, he⟩ := h.maps b _ hb
      rw [hp] at hq; cases hq
      have hlen := he.length
      have hl2 : es'.size = es.length := by simpa using hlen
      exact ⟨by simp [Builtin.len_, hts, run_underlying ‹P.underlying t = _›, goInt, getObj, Sem.run, hh, hl2], .int _ _⟩
    · cases hes
  · cases hl

def hmin2 : Value → Value → Option Value
  | .int k x, .int _ y => some (.int k (if y < x then y else x))
  | _, _ => none
def hmax2 : Value → Value → Option Value
  | .int k x, .int _ y => some (.int k (if y > x then y else x))
  | _, _ => none
def hfold (f : Value → Value → Option Value) : Value → List Value → Option Value
  | x, [] => some x
  | x, y :: ys => (f x y).bind fun z => hfold f z ys

theorem hmin2_flat {x y v x' y' : Value} (h : hmin2 x y = some v) (hx : VRel μ x x') (hy : VRel μ y y') : (Builtin.min2 x' y').run P w = .ok v w ∧ VRel μ v v := by
  unfold hmin2 at h
  split at h
  · cases h; cases hx; cases hy; exact ⟨by simp [Builtin.min2], .int _ _⟩
  · cases h
theorem hmax2_flat {x y v x' y' : Value} (h : hmax2 x y = some v) (hx : VRel μ x x') (hy : VRel μ y y') : (Builtin.max2 x' y').run P w = .ok v w ∧ VRel μ v v := by
  unfold hmax2 at h
  split at h
  · cases h; cases hx; cases hy; exact ⟨by simp [Builtin.max2], .int _ _⟩
  · cases h

theorem fold_of {f : Value → Value → Option Value} {g : Value → Value → Sem Value} (hfg : ∀ x y v x' y', f x y = some v → VRel μ x x' → VRel μ y y' → (g x' y').run P w = .ok v w ∧ VRel μ v v) :
    ∀ (ys ys' : List Value) (x x' v : Value), VRels μ ys ys' → VRel μ x x' → hfold f x ys = some v → ∃ v', (ys'.foldlM g x').run P w = .ok v' w ∧ VRel μ v v'
  | _, _, x, x', v, .nil, hx, h => by simp [hfold] at h; subst h; exact ⟨x', rfl, hx⟩
  | _, _, x, x', v, .cons y y' ys ys' hy hs, hx, h => by
    simp only [hfold, Option.bind_eq_some_iff] at h
    obtain ⟨z, hz, h⟩ := h
    obtain ⟨h1, h2⟩ := hfg x y z x' y' hz hx hy
    obtain ⟨v', h3, h4⟩ := fold_of hfg ys ys' z z v hs h2 h
    exact ⟨v', by simp [List.foldlM, h1, h3], h4⟩

def hconvert (P : Program) (s d : TypeId) (x : Value) : Option Value :=
  match P.underlying s, P.underlying d, x with
  | some (.int _), some (.int k), .int _ n => some (.int k (k.wrap n))
  | some .string, some .string, .string s => some (.string s)
  | some (.int _), some .string, .int _ n => some (.string (Utf8.encode n))
  | _, _, _ => none

theorem sim_convert {s d : TypeId} {x x' v : Value} (hl : hconvert P s d x = some v) (hx : VRel μ x x') : (convert s d x').run P w = .ok v w ∧ VRel μ v v := by
  unfold hconvert at hl
  split at hl
  · rename_i hs hd; cases hl; cases hx
    exact ⟨by simp [convert, run_underlying hs, run_underlying hd, Conv.intToInt], .int _ _⟩
  · rename_i hs hd; cases hl; cases hx
    exact ⟨by simp [convert, run_underlying hs, run_underlying hd], .string _⟩
  · rename_i hs hd; cases hl; cases hx
    exact ⟨by simp [convert, run_underlying hs, run_underlying hd, Conv.intToString], .string _⟩
  · cases hl


/-- Operands of a row, all there. -/
def hevs (fr : HFrame) : List Operand → Option (List Value)
  | [] => some []
  | x :: xs => (hev fr x).bind fun v => (hevs fr xs).map fun vs => v :: vs

theorem hevs_rel {fr : HFrame} {a : Act} (h : FRel D μ fr a) : ∀ (xs : List Operand) (vs : List Value), hevs fr xs = some vs → VRels μ vs (xs.map a.eval)
  | [], vs, e => by simp [hevs] at e; subst e; exact .nil
  | x :: xs, vs, e => by
    simp only [hevs, Option.bind_eq_some_iff, Option.map_eq_some_iff] at e
    obtain ⟨v, hv, vs', hvs, e⟩ := e
    subst e
    exact .cons _ _ _ _ (hev_rel h hv) (hevs_rel h xs vs' hvs)

def hparts (fr : HFrame) : List (Nat × Operand) → Option (List (Nat × Value))
  | [] => some []
  | (i, x) :: xs => (hev fr x).bind fun v => (hparts fr xs).map fun vs => (i, v) :: vs

theorem hparts_rel {fr : HFrame} {a : Act} (h : FRel D μ fr a) : ∀ (xs : List (Nat × Operand)) (vs : List (Nat × Value)), hparts fr xs = some vs → PRels μ vs (xs.map fun (i, x) => (i, a.eval x))
  | [], vs, e => by simp [hparts] at e; subst e; exact .nil
  | (i, x) :: xs, vs, e => by
    simp only [hparts, Option.bind_eq_some_iff, Option.map_eq_some_iff] at e
    obtain ⟨v, hv, vs', hvs, e⟩ := e
    subst e
    exact .cons _ _ _ _ _ (hev_rel h hv) (hparts_rel h xs vs' hvs)

/-- An operand that may be missing. -/
def hopt (fr : HFrame) : Option Operand → Option (Option Value)
  | none => some none
  | some x => match hev fr x with
    | some (.int k n) => some (some (.int k n))
    | _ => none

theorem hopt_rel {fr : HFrame} {a : Act} (h : FRel D μ fr a) {x : Option Operand} {v : Option Value} (e : hopt fr x = some v) : x.map a.eval = v := by
  cases x with
  | none => simp [hopt] at e; subst e; rfl
  | some x =>
    simp only [hopt] at e
    split at e <;> cases e
    rename_i k n hv
    have hr := hev_rel h hv
    have : a.eval x = .int k n := by generalize a.eval x = z at hr; cases hr; rfl
    simp [this]

/-- A block that the heap does not write is another's: what it holds may change, so long as its kind stays. -/
theorem Rel.other {B : Nat} {μ : Mu} {H : HHeap} {w w' : World} (h : Rel B μ H w) {k : Nat} (hk : B ≤ k) (hno : ¬ Owned μ H k) (hh : ∀ g, g ≠ k → w'.heap[g]? = w.heap[g]?) (hs : w.heap.size ≤ w'.heap.size)
    (ht : ∀ arr e fz, w.heap[k]? = some (.cells arr e fz) → ∃ arr' fz', w'.heap[k]? = some (.cells arr' e fz') ∧ arr'.size = arr.size) : Rel B μ H w' := by
  have hcell : ∀ a : Addr, a.block ≠ k → w'.cell? a = w.cell? a ∧ w'.frozen? a = w.frozen? a := by
    intro a ha
    unfold World.cell? World.frozen?
    rw [hh _ ha]
    exact ⟨rfl, rfl⟩
  refine ⟨Nat.le_trans h.hB hs, h.bound, fun x p hp => Nat.lt_of_lt_of_le (h.real x p hp) hs, fun x cs rw' hx => ?_, fun x es hx => ?_, h.apart, h.tabs.keep (Nat.le_refl _) fun g hg => hh g (by omega), fun x t i hx => ?_, fun x e n c hx => ?_⟩
  · obtain ⟨p, hp, hl, hc, hw, hr⟩ := h.cells x cs rw' hx
    have hne : p.g ≠ k := by
      cases rw' with
      | true => exact fun e => hno ⟨x, _, p, hx, rfl, hp, e⟩
      | false => have := hr rfl; omega
    refine ⟨p, hp, hl, fun i v hv => ?_, fun hrw => ⟨(hw hrw).1, fun i hi => ?_⟩, hr⟩
    · obtain ⟨h1, v', h2, h3⟩ := hc i v hv
      exact ⟨h1, v', by rw [(hcell ⟨p.g, p.d + i, none⟩ hne).1]; exact h2, h3⟩
    · rw [(hcell ⟨p.g, p.d + i, none⟩ hne).1, (hcell ⟨p.g, p.d + i, none⟩ hne).2]; exact (hw hrw).2 i hi
  · obtain ⟨p, clock, es', hp, hB, hh', he⟩ := h.maps x es hx
    have hne : p.g ≠ k := fun e => hno ⟨x, _, p, hx, rfl, hp, e⟩
    exact ⟨p, clock, es', hp, hB, by rw [hh _ hne]; exact hh', he⟩
  · obtain ⟨p, hp, hd, hB, hh'⟩ := h.iters x t i hx
    have hne : p.g ≠ k := fun e => hno ⟨x, _, p, hx, rfl, hp, e⟩
    exact ⟨p, hp, hd, hB, by rw [hh _ hne]; exact hh'⟩
  · obtain ⟨p, arr, fz, hp, hc, hd, hh', hz⟩ := h.tags x e n c hx
    by_cases hne : p.g = k
    · obtain ⟨arr', fz', h1, h2⟩ := ht arr e fz (by rw [← hne]; exact hh')
      exact ⟨p, arr', fz', hp, hc, hd, by rw [hne]; exact h1, fun hn => h2.trans (hz hn)⟩
    · exact ⟨p, arr, fz, hp, hc, hd, by rw [hh _ hne]; exact hh', hz⟩
theorem not_owned_kill {B : Nat} {μ : Mu} {H : HHeap} {w : World} (h : Rel B μ H w) {b : Nat} {o : HObj} (hb : H.get b = some o) (ho : o.wr = true) {p : Place} (hp : μ b = some p) : ¬ Owned μ (H.kill b) p.g := by
  rintro ⟨c, x, q, hc, hw, hq, hg⟩
  rw [HHeap.get_kill] at hc
  split at hc
  · cases hc
  · rename_i hne
    exact h.apart b c o x p q (fun e => hne e.symm) hb hc ho hw hp hq hg.symm
/-- A text is made of a row of bytes, which is given up. -/
theorem Rel.freezeKill {B : Nat} {μ : Mu} {H : HHeap} {w : World} (h : Rel B μ H w) {b : Nat} {cs : List Value} (hb : H.get b = some (.cells cs true)) {p : Place} (hp : μ b = some p) (o n : Nat) : Step B μ H w μ (H.kill b) (w.freeze ⟨p.g, o, none⟩ n) := by
  have hno := not_owned_kill h hb rfl hp
  have hB : B ≤ p.g := h.owned_ge ⟨b, _, p, hb, rfl, hp, rfl⟩
  have hoth : ∀ g, g ≠ p.g → (w.freeze ⟨p.g, o, none⟩ n).heap[g]? = w.heap[g]? := by
    intro g hg
    unfold World.freeze
    split
    · rfl
    · simp only [Array.getElem?_modify]; rw [if_neg (fun e => hg e.symm)]
  have hsz : (w.freeze ⟨p.g, o, none⟩ n).heap.size = w.heap.size := by
    unfold World.freeze
    split
    · rfl
    · simp
  have hr := (h.kill b).other (w' := w.freeze ⟨p.g, o, none⟩ n) hB hno hoth (by rw [hsz]; exact Nat.le_refl _) (fun arr e fz hh => by
    unfold World.freeze
    split
    · exact ⟨arr, fz, hh, rfl⟩
    · simp only [Array.getElem?_modify, if_true, hh, Option.map_some]
      obtain ⟨lo, hi⟩ := fz
      exact ⟨arr, _, rfl, rfl⟩)
  have hfr : (w.freeze ⟨p.g, o, none⟩ n).os = w.os ∧ (w.freeze ⟨p.g, o, none⟩ n).tape = w.tape ∧ (w.freeze ⟨p.g, o, none⟩ n).output = w.output := by
    unfold World.freeze; split <;> exact ⟨rfl, rfl, rfl⟩
  have sk := Step.kill h b
  exact ⟨Sub.refl μ, hr, hfr.1, hfr.2.1, hfr.2.2, by rw [hsz]; exact Nat.le_refl _, fun g _ ho => hoth g (fun e => ho ⟨b, _, p, hb, rfl, hp, e.symm⟩), sk.own, sk.next, sk.dead, fun _ _ => rfl⟩
/-- An iterator is moved on. -/
theorem Rel.moveIter {B : Nat} {μ : Mu} {H : HHeap} {w : World} (h : Rel B μ H w) {b : Nat} {s : ByteArray} {pos : Nat} (hb : H.get b = some (.iter s pos)) {p : Place} (hp : μ b = some p) (pos' : Nat) : Step B μ H w μ (H.set b (.iter s pos')) (w.iterAt p.g s pos') := by
  obtain ⟨q, hq, hd, hB, hh⟩ := h.iters b s pos hb
  rw [hp] at hq; cases hq
  have hno := not_owned_kill h hb rfl hp
  have hsz := Lib.iterAt_size w p.g s pos'
  have hr := (h.kill b).other (w' := w.iterAt p.g s pos') hB hno (fun g hg => Lib.iterAt_other w p.g g s pos' hg) (by rw [hsz]; exact Nat.le_refl _) (fun arr e fz hx => by rw [hh] at hx; cases hx)
  have old : ∀ c x, c ≠ b → (H.set b (.iter s pos')).get c = some x → (H.kill b).get c = some x := fun c x hc hx => by
    rw [HHeap.get_kill, if_neg hc]; simpa [HHeap.get_set, hc] using hx
  have new : ∀ x, (H.set b (.iter s pos')).get b = some x → x = .iter s pos' := fun x hx => by simpa [HHeap.get_set] using hx.symm
  have getw : ∀ c x, (H.set b (.iter s pos')).get c = some x → x.wr = true → ∃ z, H.get c = some z ∧ z.wr = true := fun c x hc hx => by
    by_cases hcb : c = b
    · subst hcb; exact ⟨_, hb, rfl⟩
    · exact ⟨x, by simpa [HHeap.get_set, hcb] using hc, hx⟩
  refine ⟨Sub.refl μ, ⟨by rw [hsz]; exact h.hB, h.bound, hr.real, fun c cs rw' hg => ?_, fun c es hg => ?_, fun c c' x x' q q' hne hg hg' hx hx' hq hq' => ?_, hr.tabs, fun c t i hg => ?_, fun c e n d hg => ?_⟩, rfl, rfl, rfl, by rw [hsz]; exact Nat.le_refl _, fun g _ ho => Lib.iterAt_other w p.g g s pos' (fun e => ho ⟨b, _, p, hb, rfl, hp, e.symm⟩), ?_, Nat.le_refl _, fun c hc hn => ?_, fun _ _ => rfl⟩
  · by_cases hcb : c = b
    · subst hcb; cases new _ hg
    · exact hr.cells c cs rw' (old _ _ hcb hg)
  · by_cases hcb : c = b
    · subst hcb; cases new _ hg
    · exact hr.maps c es (old _ _ hcb hg)
  · obtain ⟨z, k1, k2⟩ := getw _ _ hg hx
    obtain ⟨z', k1', k2'⟩ := getw _ _ hg' hx'
    exact h.apart c c' z z' q q' hne k1 k1' k2 k2' hq hq'
  · by_cases hcb : c = b
    · subst hcb
      cases new _ hg
      exact ⟨p, hp, hd, hB, Lib.iterAt_heap w p.g s pos pos' hh⟩
    · exact hr.iters c t i (old _ _ hcb hg)
  · by_cases hcb : c = b
    · subst hcb; cases new _ hg
    · exact hr.tags c e n d (old _ _ hcb hg)
  · rintro g ⟨c, x, q, hc, hx, hq, rfl⟩
    obtain ⟨z, k1, k2⟩ := getw _ _ hc hx
    exact .inl ⟨c, z, q, k1, k2, hq, rfl⟩
  · have : c ≠ b := by rintro rfl; rw [hb] at hn; cases hn
    simpa [HHeap.get_set, this] using hn

def rngStr (P : Program) (t : TypeId) : Bool := match P.underlying t with | some .string => true | _ => false
/-- A text is ranged over. -/
def hrange (P : Program) (H : HHeap) (t : TypeId) (v : Value) : Option (Value × HHeap) :=
  match v with
  | .string s => if rngStr P t then some (.pointer (some ⟨H.next, 0, none⟩), H.push (.iter s 0)) else none
  | _ => none
def hnext (H : HHeap) (v : Value) : Option (Value × HHeap) :=
  match v with
  | .pointer (some ⟨b, 0, none⟩) =>
    match H.get b with
    | some (.iter s pos) => if pos < s.size then some (.tuple #[.bool true, .int .i64 pos, .int .i32 (Utf8.decode s pos).1], H.set b (.iter s (pos + (Utf8.decode s pos).2))) else some (.tuple #[.bool false], H.kill b)
    | _ => none
  | _ => none
theorem sim_range (h : Rel B μ H w) {t : TypeId} {v v' u : Value} {H' : HHeap} (hl : hrange P H t v = some (u, H')) (hv : VRel μ v v') : ∃ μ' w' u', (Instr.range t v').run P w = .ok u' w' ∧ Step B μ H w μ' H' w' ∧ VRel μ' u u' := by
  unfold hrange at hl
  split at hl
  · rename_i s
    split at hl <;> cases hl
    rename_i hs
    cases hv
    have ht : P.underlying t = some .string := by
      unfold rngStr at hs
      split at hs
      · assumption
      · cases hs
    exact ⟨_, _, _, run_range_string w t s ht, h.allocIter s 0, .ptr _ 0 ⟨w.heap.size, 0, 0⟩ (by simp [Mu.add])⟩
  · cases hl
theorem sim_next (h : Rel B μ H w) {ty : TypeId} {v v' u : Value} {H' : HHeap} (hl : hnext H v = some (u, H')) (hv : VRel μ v v') : ∃ w', (Instr.next v' true ty).run P w = .ok u w' ∧ Step B μ H w μ H' w' ∧ VRel μ u u := by
  unfold hnext at hl
  split at hl
  · rename_i b
    split at hl
    · rename_i s pos hb
      obtain ⟨p, hp, hd, hB, hh⟩ := h.iters b s pos hb
      cases hv with
      | ptr _ _ q hq =>
      rw [hp] at hq; cases hq
      rw [hd]
      split at hl <;> cases hl
      · rename_i hlt
        exact ⟨_, Lib.run_next_any_at w p.g s pos ty hh hlt, h.moveIter hb hp _, .of_flat (by rfl)⟩
      · rename_i hlt
        exact ⟨w, Lib.run_next_end_at w p.g s pos ty hh hlt, Step.kill h b, .of_flat (by rfl)⟩
    · cases hl
  · cases hl

/-- The place where a row begins. -/
def hsliceData (v : Value) : Option Value :=
  match v with
  | .slice none 0 0 => some (.pointer none)
  | .slice (some ⟨b, o, _⟩) len _ => if 0 < len then some (.pointer (some ⟨b, o, none⟩)) else none
  | _ => none
theorem sim_sliceData {v v' u : Value} (ts : Array TypeId) (ty : TypeId) (hl : hsliceData v = some u) (hv : VRel μ v v') : ∃ u', (Builtin.unsafeSliceData_ ts ty #[v']).run P w = .ok u' w ∧ VRel μ u u' := by
  unfold hsliceData at hl
  split at hl
  · cases hl
    cases hv
    exact ⟨_, Lib.run_unsafeSliceData_nil w ts ty 0 0, .nilPtr⟩
  · rename_i b o sp len c
    split at hl <;> cases hl
    rename_i h0
    cases hv with
    | slice _ _ _ _ p hp hle => exact ⟨_, Lib.run_unsafeSliceData_row w ts ty _ _ _ (by omega), .ptr _ _ p hp⟩
    | grown _ _ _ _ _ _ p hp hle hc _ => exact ⟨_, Lib.run_unsafeSliceData_row w ts ty _ _ _ (by omega), .ptr _ _ p hp⟩
    | hole => omega
    | void => omega
  · cases hl
def hbyteOf (v : Value) : Option UInt8 := match v with | .int .u8 (.ofNat z) => if z < 256 then some (UInt8.ofNat z) else none | _ => none
def hbytesOf : List Value → Option (List UInt8)
  | [] => some []
  | v :: vs => (hbyteOf v).bind fun b => (hbytesOf vs).map fun bs => b :: bs
theorem hbytesOf_eq : ∀ {vs : List Value} {bs : List UInt8}, hbytesOf vs = some bs → vs = bs.map (fun b => Value.int .u8 b.toNat)
  | [], bs, h => by simp [hbytesOf] at h; subst h; rfl
  | v :: vs, bs, h => by
    simp only [hbytesOf, Option.bind_eq_some_iff, Option.map_eq_some_iff] at h
    obtain ⟨b, hb, bs', hbs, rfl⟩ := h
    rw [hbytesOf_eq hbs, List.map_cons]
    congr 1
    unfold hbyteOf at hb
    split at hb
    · split at hb <;> cases hb
      rename_i z hz
      simp; omega
    · cases hb
/-- Bytes turned into a text. -/
def bytesStr (P : Program) (s d : TypeId) : Bool :=
  match P.underlying s, P.underlying d with
  | some (.slice e), some .string => (match P.underlying e with | some (.int .u8) => true | _ => false)
  | _, _ => false
theorem bytesStr_spec {s d : TypeId} (h : bytesStr P s d = true) : ∃ e, P.underlying s = some (.slice e) ∧ P.underlying d = some .string ∧ P.underlying e = some (.int .u8) := by
  unfold bytesStr at h
  split at h
  · rename_i e hs hd
    split at h
    · exact ⟨e, hs, hd, ‹_›⟩
    · cases h
  · cases h
def hbb (ob : Option HObj) (o n : Nat) : Option Value :=
  match ob with
  | some (.cells cs _) => if 0 < n ∧ o + n ≤ cs.length then (hbytesOf ((cs.drop o).take n)).map fun bs => .string ⟨bs.toArray⟩ else none
  | _ => none
def hb2s (P : Program) (H : HHeap) (s d : TypeId) (v : Value) : Option Value :=
  match v with
  | .slice (some ⟨b, o, _⟩) n _ => if bytesStr P s d then hbb (H.get b) o n else none
  | _ => none
theorem foldl_row : ∀ (bs : List UInt8) (s : ByteArray), (bs.map (fun b => (b.toNat : Int))).foldl (fun (r : ByteArray) (n : Int) => r.push (UInt8.ofNat n.toNat)) s = ⟨⟨s.data.toList ++ bs⟩⟩
  | [], s => by obtain ⟨⟨l⟩⟩ := s; simp
  | z :: zs, s => by
    simp only [List.map_cons, List.foldl_cons]
    rw [foldl_row zs]
    obtain ⟨⟨l⟩⟩ := s
    simp [ByteArray.push]
theorem sim_b2s (h : Rel B μ H w) {s d : TypeId} {v v' u : Value} (hl : hb2s P H s d v = some u) (hv : VRel μ v v') : (convert s d v').run P w = .ok u w ∧ VRel μ u u := by
  unfold hb2s at hl
  split at hl
  · rename_i b o sp n c
    split at hl
    · rename_i hb
      obtain ⟨e, hs, hd, he⟩ := bytesStr_spec hb
      unfold hbb at hl
      split at hl
      · rename_i cs rw' hg
        split at hl
        · rename_i hc
          obtain ⟨h0, hfit⟩ := hc
          simp only [Option.map_eq_some_iff] at hl
          obtain ⟨bs, hbs, rfl⟩ := hl
          refine ⟨?_, .string _⟩
          have hx : ∃ p c', μ b = some p ∧ v' = .slice (some ⟨p.g, p.d + o, none⟩) n c' := by
            cases hv with
            | slice _ _ _ _ p hp hl => exact ⟨p, _, hp, rfl⟩
            | grown _ _ _ _ _ _ p hp _ _ _ => exact ⟨p, _, hp, rfl⟩
            | hole => omega
            | void => omega
          obtain ⟨p, c', hp, rfl⟩ := hx
          obtain ⟨vs', g1, g2, g3⟩ := h.cellsAt hg hp o n hfit
          rw [hbytesOf_eq hbs] at g1
          have g4 : vs' = bs.map (fun b => Value.int .u8 (b.toNat : Int)) := g1.flat1_eq (by rw [List.all_eq_true]; intro v hv; obtain ⟨z, _, rfl⟩ := List.mem_map.1 hv; rfl)
          have hload := run_loadCells_list (P := P) w ⟨p.g, p.d + o, none⟩ vs' g3
          rw [g2] at hload
          have hrun := run_bytesToString (P := P) w ⟨p.g, p.d + o, none⟩ n c' (bs.map (fun b => (b.toNat : Int))) (by rw [hload, g4]; simp)
          rw [run_convert_bytes_string w s d e _ _ _ hs he hd, hrun, foldl_row]
          rfl
        · cases hl
      · cases hl
    · cases hl
  · cases hl
def ptrElem (P : Program) (t : TypeId) : Option TypeId := match P.underlying t with | some (.pointer e) => some e | _ => none
/-- unsafe.String, over a row of bytes whose type is known; the row is given up. -/
def hunsafeV (P : Program) (H : HHeap) (pt : TypeId) (p n : Value) : Option (List UInt8 × Option Nat) :=
  match p, n with
  | .pointer none, .int .i64 (.ofNat 0) => some ([], none)
  | .pointer (some ⟨b, 0, none⟩), .int .i64 (.ofNat m) =>
    match H.get b, H.get (b + 1) with
    | some (.cells cs true), some (.tag e _ c) =>
      if c = b ∧ ptrElem P pt = some e ∧ P.cellsOf e = 1 ∧ 0 < m ∧ m ≤ cs.length ∧ m ≤ 9223372036854775807 then (hbytesOf (cs.take m)).map fun bs => (bs, some b) else none
    | _, _ => none
  | _, _ => none
def hgive (H : HHeap) : Option Nat → HHeap
  | none => H
  | some b => H.kill b
def hunsafeStr (P : Program) (H : HHeap) (pt : TypeId) (p n : Value) : Option (Value × HHeap) := (hunsafeV P H pt p n).map fun r => (.string ⟨r.1.toArray⟩, hgive H r.2)
theorem sim_unsafeStr (h : Rel B μ H w) {pt it ty : TypeId} {p p' n n' u : Value} {H' : HHeap} (hl : hunsafeStr P H pt p n = some (u, H')) (hp : VRel μ p p') (hn : VRel μ n n') :
    ∃ w', (Builtin.unsafeString_ #[pt, it] ty #[p', n']).run P w = .ok u w' ∧ Step B μ H w μ H' w' ∧ VRel μ u u := by
  unfold hunsafeStr at hl
  simp only [Option.map_eq_some_iff] at hl
  obtain ⟨r, hl, he⟩ := hl
  cases he
  unfold hunsafeV at hl
  split at hl
  · cases hl
    cases hp; cases hn
    exact ⟨w, Lib.run_unsafeString_none w pt it ty none, Step.refl h, .string _⟩
  · rename_i b m
    split at hl
    · rename_i cs e tn c hb ht
      split at hl
      · rename_i hc
        obtain ⟨rfl, hpe, hce, h0, hm, h63⟩ := hc
        simp only [Option.map_eq_some_iff] at hl
        obtain ⟨bs, hbs, hl⟩ := hl
        cases hl
        cases hn
        cases hp with
        | ptr _ _ q hq =>
        obtain ⟨q1, arr, fz, t1, t2, td, th, _⟩ := h.tags _ e tn _ ht
        rw [hq] at t2; cases t2
        have hbe := hbytesOf_eq hbs
        have hbl : bs.length = m := by
          have := congrArg List.length hbe
          rw [List.length_take, List.length_map] at this; omega
        have hpu : P.underlying pt = some (.pointer e) := by
          unfold ptrElem at hpe
          split at hpe
          · cases hpe; assumption
          · cases hpe
        obtain ⟨q2, hq2, hl2, hc2, _⟩ := h.cells _ cs true hb
        rw [hq] at hq2; cases hq2
        obtain ⟨vs', g1, g2, g3⟩ := h.cellsAt hb hq 0 m (by omega)
        rw [List.drop_zero, hbe] at g1
        have g4 : vs' = bs.map (fun b => Value.int .u8 b.toNat) := g1.flat1_eq (by rw [List.all_eq_true]; intro v hv; obtain ⟨z, _, rfl⟩ := List.mem_map.1 hv; rfl)
        have hsh : w.shape? q.g = some (e, arr.size) := by unfold World.shape?; rw [th]
        have hcell : ∀ j x, bs[j]? = some x → w.cell? ((⟨q.g, 0, none⟩ : Addr).add j) = some (.int .u8 x.toNat) := by
          intro j x hx
          have := g3 j (.int .u8 x.toNat) (by rw [g4, List.getElem?_map, hx]; rfl)
          rwa [td] at this
        have hlen : bs.length ≤ arr.size := by
          obtain ⟨x, hx⟩ : ∃ x, bs[bs.length - 1]? = some x := ⟨_, List.getElem?_eq_getElem (by omega)⟩
          have := hcell _ x hx
          rw [add_cell] at this
          unfold World.cell? at this
          rw [th] at this
          simp only [Nat.zero_add] at this
          have hlt := (Array.getElem?_eq_some_iff.1 this).1
          omega
        have hrun := Lib.run_unsafeString_row (P := P) (w := w) pt it ty e hpu hce q.g arr.size hsh bs (by rintro rfl; simp at hbl; omega) hlen (by omega) hcell
        rw [hbl] at hrun
        rw [td]
        exact ⟨_, hrun, h.freezeKill hb hq 0 m, .string _⟩
      · cases hl
    · cases hl
  · cases hl

/-- A conversion. -/
def hcv (P : Program) (H : HHeap) (s d : TypeId) (v : Value) : Option Value := match hconvert P s d v with | some u => some u | none => hb2s P H s d v
theorem hcv_some {s d : TypeId} {v u : Value} (h : hconvert P s d v = some u) (H : HHeap) : hcv P H s d v = some u := by unfold hcv; rw [h]
theorem hcv_int (s d : TypeId) (k : IntKind) (n : Int) : hcv P H s d (.int k n) = hconvert P s d (.int k n) := by
  unfold hcv; cases hconvert P s d (.int k n) <;> rfl
theorem hcv_string (s d : TypeId) (t : ByteArray) : hcv P H s d (.string t) = hconvert P s d (.string t) := by
  unfold hcv; cases hconvert P s d (.string t) <;> rfl
theorem hcv_bytes {s d : TypeId} (hb : bytesStr P s d = true) (b o : Nat) (sp : Option Nat) (n c : Nat) : hcv P H s d (.slice (some ⟨b, o, sp⟩) n c) = hbb (H.get b) o n := by
  have e : hconvert P s d (.slice (some ⟨b, o, sp⟩) n c) = none := by
    unfold hconvert; split <;> first | rfl | (rename_i h; cases h)
  unfold hcv; rw [e]
  simp only [hb2s, hb, if_true]
theorem hbb_one (z : Nat) (hz : z < 256) (rw' : Bool) : hbb (some (.cells [.int .u8 (z : Int)] rw')) 0 1 = some (.string ⟨#[UInt8.ofNat z]⟩) := by
  have e : hbyteOf (.int .u8 (z : Int)) = some (UInt8.ofNat z) := by
    show (if z < 256 then some (UInt8.ofNat z) else none) = _
    rw [if_pos hz]
  simp [hbb, hbytesOf, e]

def hbuiltin (P : Program) (H : HHeap) (b : Builtin) (ts : List TypeId) (vs : List Value) : Option (Value × HHeap) :=
  match b, ts, vs with
  | .len, [t], [x] => (hlen P H t x).map fun v => (v, H)
  | .append, [t, u], [s, x] => happend P H t u s x
  | .copy, [t, _], [d, x] => hcopy P H t d x
  | .min, _, x :: xs => (hfold hmin2 x xs).map fun v => (v, H)
  | .max, _, x :: xs => (hfold hmax2 x xs).map fun v => (v, H)
  | .unsafeSliceData, _, [x] => (hsliceData x).map fun v => (v, H)
  | .unsafeString, [pt, _], [p, n] => hunsafeStr P H pt p n
  | _, _, _ => none

/-- AN OPERATION that is no call of a function: its value, and the heap behind it. -/
def hop (P : Program) (fr : HFrame) (H : HHeap) (op : Op) : Option (Value × HHeap) :=
  match op with
  | .move x | .assign x => (hev fr x).map fun v => (v, H)
  | .pick c a b => match hev fr c with
    | some (.bool true) => (hev fr a).map fun v => (v, H)
    | some (.bool false) => (hev fr b).map fun v => (v, H)
    | _ => none
  | .alloc t => halloc P H t
  | .box _ x => (hev fr x).bind fun v => hbox H v
  | .build t ps => (hparts fr ps.toList).bind fun vs => (hbuild P t vs).map fun v => (v, H)
  | .buildSlice t n ps => (hparts fr ps.toList).bind fun vs => hbuildSlice P H t n vs
  | .load t a => (hev fr a).bind fun p => (hload P H t p).map fun v => (v, H)
  | .store t a x => (hev fr a).bind fun p => (hev fr x).bind fun v => (hstore P H t p v).map fun H' => (undef, H')
  | .nilCheck x => match hev fr x with
    | some (.pointer (some a)) => some (.pointer (some a), H)
    | some (.func (.func f) a b) => some (.func (.func f) a b, H)
    | _ => none
  | .binOp op t x y _ => (hev fr x).bind fun a => (hev fr y).bind fun b => (hbin P op t a b).map fun v => (v, H)
  | .unOp op _ x => (hev fr x).bind fun a => (hunary op a).map fun v => (v, H)
  | .convert s d x => (hev fr x).bind fun a => (hcv P H s d a).map fun v => (v, H)
  | .makeInterface t x => if kindOf P t = 5 then none else if (P.underlying t).isSome then (hev fr x).map fun v => (.iface t v, H) else none
  | .makeFunc fn first captured => (hevs fr first.toList).bind fun fs => (hevs fr captured.toList).map fun vs => (.func fn fs.toArray vs.toArray, H)
  | .makeMap _ none => some (.map (some H.next), H.push (.map []))
  | .makeSlice t l c => match hev fr l, hev fr c with
    | some (.int k l), some (.int k' c) => hmakeSlice P H t (.int k l) (.int k' c)
    | _, _ => none
  | .slice t x lo hi mx => (hev fr x).bind fun v => (hopt fr lo).bind fun lo => (hopt fr hi).bind fun hi => (hopt fr mx).bind fun mx => (hslice P t v lo hi mx).map fun v => (v, H)
  | .fieldAddr s x f => (hev fr x).bind fun p => (hfieldAt P s p f).map fun v => (v, H)
  | .field t x f => (hev fr x).bind fun p => (hfield P t p f).map fun v => (v, H)
  | .indexAddr t x i => (hev fr x).bind fun p => match hev fr i with
    | some (.int k n) => (hindexAt P t p (.int k n)).map fun v => (v, H)
    | _ => none
  | .index t x i => (hev fr x).bind fun p => match hev fr i with
    | some (.int k n) => (hindex P t p (.int k n)).map fun v => (v, H)
    | _ => none
  | .lookup t m k ok => (hev fr m).bind fun p => (hev fr k).bind fun k => (hlookup P H t p k ok).map fun v => (v, H)
  | .mapUpdate t m k x | .insert t m k x => (hev fr m).bind fun p => (hev fr k).bind fun k => (hev fr x).bind fun x => (hmapUpdate P H t p k x).map fun H' => (undef, H')
  | .extract t i => match hev fr t with
    | some (.tuple vs) => (vs.toList[i]?).map fun v => (v, H)
    | _ => none
  | .call { callee := .builtin b, args, argTypes } => (hevs fr args.toList).bind fun vs => hbuiltin P H b argTypes.toList vs
  | .range t x => (hev fr x).bind fun v => hrange P H t v
  | .next it true => (hev fr it).bind fun v => hnext H v
  | _ => none

/-- What the model's operation comes to: a value that meets it, or, of a store, none. -/
def OpMeets (P : Program) (B : Nat) (μ : Mu) (H : HHeap) (w : World) (r : Result Next) (v : Value) (H' : HHeap) : Prop :=
  ∃ μ' w' v', Step B μ H w μ' H' w' ∧ VRel μ' v v' ∧ (r = .ok (.value v') w' ∨ (r = .ok .skip w' ∧ v' = undef))

theorem hlookup_key {m k v : Value} {t : TypeId} {ok : Bool} (hl : hlookup P H t m k ok = some v) : flat1 k = true := by
  unfold hlookup at hl
  split at hl
  · simp only [Option.bind_eq_some_iff] at hl
    obtain ⟨es, _, hl⟩ := hl
    split at hl
    · exact plainKey_flat (by rename_i h; exact h.1)
    · cases hl
  · cases hl

theorem hmapUpdate_key {m k x : Value} {t : TypeId} {H' : HHeap} (hl : hmapUpdate P H t m k x = some H') : flat1 k = true := by
  unfold hmapUpdate at hl
  split at hl
  · split at hl
    · split at hl
      · exact plainKey_flat (by rename_i h; exact h.1)
      · cases hl
    · cases hl
  · cases hl

theorem sim_hop (h : Rel B μ H w) {fr : HFrame} {a : Act} (hf : FRel D μ fr a) {o : Oper} {v : Value} {H' : HHeap} (hl : hop P fr H o.op = some (v, H')) :
    OpMeets P B μ H w ((execOp a.eval o).run P w) v H' := by
  have pureV : ∀ {u : Value} {s : Sem Value}, (∃ u', s.run P w = .ok u' w ∧ VRel μ u u') → (v, H') = (u, H) → (execOp a.eval o).run P w = ((do pure (.value (← s)) : Sem Next).run P w) → OpMeets P B μ H w ((execOp a.eval o).run P w) v H' := by
    intro u s ⟨u', h1, h2⟩ he hx
    cases he
    exact ⟨μ, w, u', Step.refl h, h2, .inl (by rw [hx]; simp [h1])⟩
  unfold hop at hl
  split at hl
  · -- move
    rename_i x ho
    simp only [Option.map_eq_some_iff] at hl
    obtain ⟨u, hu, hl⟩ := hl
    cases hl
    exact ⟨μ, w, _, Step.refl h, hev_rel hf hu, .inl (by simp [execOp, ho])⟩
  · rename_i x ho
    simp only [Option.map_eq_some_iff] at hl
    obtain ⟨u, hu, hl⟩ := hl
    cases hl
    exact ⟨μ, w, _, Step.refl h, hev_rel hf hu, .inl (by simp [execOp, ho])⟩
  · -- pick
    rename_i c x y ho
    split at hl
    · rename_i hc
      simp only [Option.map_eq_some_iff] at hl
      obtain ⟨u, hu, hl⟩ := hl
      cases hl
      have hcr := hev_rel hf hc
      have : a.eval c = .bool true := by generalize a.eval c = z at hcr; cases hcr; rfl
      exact ⟨μ, w, _, Step.refl h, hev_rel hf hu, .inl (by simp [execOp, ho, this, asBool])⟩
    · rename_i hc
      simp only [Option.map_eq_some_iff] at hl
      obtain ⟨u, hu, hl⟩ := hl
      cases hl
      have hcr := hev_rel hf hc
      have : a.eval c = .bool false := by generalize a.eval c = z at hcr; cases hcr; rfl
      exact ⟨μ, w, _, Step.refl h, hev_rel hf hu, .inl (by simp [execOp, ho, this, asBool])⟩
    · cases hl
  · -- alloc
    rename_i t ho
    obtain ⟨μ', w', v', r1, r2, r3⟩ := sim_alloc h hl
    exact ⟨μ', w', v', r2, r3, .inl (by simp [execOp, ho, r1])⟩
  · -- box
    rename_i t x ho
    simp only [Option.bind_eq_some_iff] at hl
    obtain ⟨u, hu, hl⟩ := hl
    obtain ⟨μ', w', v', r1, r2, r3⟩ := sim_box (P := P) h t hl (hev_rel hf hu)
    exact ⟨μ', w', v', r2, r3, .inl (by simp [execOp, ho, r1])⟩
  · -- build
    rename_i t ps ho
    simp only [Option.bind_eq_some_iff, Option.map_eq_some_iff] at hl
    obtain ⟨vs, hvs, u, hu, hl⟩ := hl
    obtain ⟨v', h1, h2⟩ := sim_build (P := P) (w := w) hu (hparts_rel hf _ _ hvs)
    refine pureV (u := u) ⟨v', h1, h2⟩ hl.symm ?_
    rw [List.map_toArray.symm]; simp [execOp, ho]
  · -- buildSlice
    rename_i t n ps ho
    simp only [Option.bind_eq_some_iff] at hl
    obtain ⟨vs, hvs, hl⟩ := hl
    obtain ⟨μ', w', v', r1, r2, r3⟩ := sim_buildSlice (P := P) h hl (hparts_rel hf _ _ hvs)
    refine ⟨μ', w', v', r2, r3, .inl ?_⟩
    have : (ps.map fun (i, x) => (i, a.eval x)) = (ps.toList.map fun (i, x) => (i, a.eval x)).toArray := by apply Array.ext'; simp
    simp [execOp, ho, this, r1]
  · -- load
    rename_i t x ho
    simp only [Option.bind_eq_some_iff, Option.map_eq_some_iff] at hl
    obtain ⟨p, hp, u, hu, hl⟩ := hl
    exact pureV (sim_load h hu (hev_rel hf hp)) hl.symm (by simp [execOp, ho])
  · -- store
    rename_i t x y ho
    simp only [Option.bind_eq_some_iff, Option.map_eq_some_iff] at hl
    obtain ⟨p, hp, u, hu, H2, hs, hl⟩ := hl
    cases hl
    obtain ⟨w', r1, r2⟩ := sim_store (P := P) h hs (hev_rel hf hp) (hev_rel hf hu)
    exact ⟨μ, w', undef, r2, .of_flat rfl, .inr ⟨by simp [execOp, ho, r1], rfl⟩⟩
  · -- nilCheck
    rename_i x ho
    split at hl
    · rename_i ad hx
      cases hl
      have hr := hev_rel hf hx
      refine ⟨μ, w, _, Step.refl h, hr, .inl ?_⟩
      have : ∃ ad', a.eval x = .pointer (some ad') := by generalize a.eval x = z at hr; cases hr; exact ⟨_, rfl⟩
      obtain ⟨ad', hz⟩ := this
      simp [execOp, ho, hz]
    · rename_i f c1 c2 hx
      cases hl
      have hr := hev_rel hf hx
      refine ⟨μ, w, _, Step.refl h, hr, .inl ?_⟩
      have : ∃ d1 d2, a.eval x = .func (.func f) d1 d2 := by generalize a.eval x = z at hr; cases hr; exact ⟨_, _, rfl⟩
      obtain ⟨d1, d2, hz⟩ := this
      simp [execOp, ho, hz]
    · cases hl
  · -- binOp
    rename_i op t x y t2 ho
    simp only [Option.bind_eq_some_iff, Option.map_eq_some_iff] at hl
    obtain ⟨p, hp, q, hq, u, hu, hl⟩ := hl
    obtain ⟨h1, h2⟩ := sim_bin (P := P) (w := w) x y hu (hev_rel hf hp) (hev_rel hf hq)
    exact pureV ⟨u, h1, h2⟩ hl.symm (by simp only [execOp, ho])
  · -- unOp
    rename_i op t x ho
    simp only [Option.bind_eq_some_iff, Option.map_eq_some_iff] at hl
    obtain ⟨p, hp, u, hu, hl⟩ := hl
    obtain ⟨h1, h2⟩ := sim_unary (P := P) (w := w) hu (hev_rel hf hp)
    exact pureV ⟨u, h1, h2⟩ hl.symm (by simp [execOp, ho])
  · -- convert
    rename_i s d x ho
    simp only [Option.bind_eq_some_iff, Option.map_eq_some_iff] at hl
    obtain ⟨p, hp, u, hu, hl⟩ := hl
    unfold hcv at hu
    split at hu
    · rename_i u' hc
      cases hu
      obtain ⟨h1, h2⟩ := sim_convert (P := P) (w := w) hc (hev_rel hf hp)
      exact pureV ⟨u, h1, h2⟩ hl.symm (by simp [execOp, ho])
    · obtain ⟨h1, h2⟩ := sim_b2s (P := P) h hu (hev_rel hf hp)
      exact pureV ⟨u, h1, h2⟩ hl.symm (by simp [execOp, ho])
  · -- makeInterface
    rename_i t x ho
    split at hl
    · cases hl
    split at hl
    · rename_i hk hs
      simp only [Option.map_eq_some_iff] at hl
      obtain ⟨u, hu, hl⟩ := hl
      have hc : P.concrete t = true := by
        unfold Program.concrete
        unfold kindOf at hk
        cases hd : P.underlying t with
        | none => simp [hd] at hs
        | some d => cases d <;> simp [hd] at hk ⊢
      exact pureV ⟨_, run_makeInterface w t (a.eval x) hc, .iface t _ _ (hev_rel hf hu)⟩ hl.symm (by simp [execOp, ho])
    · cases hl
  · -- makeFunc
    rename_i fn first captured ho
    simp only [Option.bind_eq_some_iff, Option.map_eq_some_iff] at hl
    obtain ⟨fs, hfs, vs, hvs, hl⟩ := hl
    have hr0 := hevs_rel hf _ _ hfs
    have hr := hevs_rel hf _ _ hvs
    refine pureV (s := Instr.makeFunc fn (first.map a.eval) (captured.map a.eval)) ⟨.func fn (first.toList.map a.eval).toArray (captured.toList.map a.eval).toArray, ?_, .func fn fs _ vs _ hr0 hr⟩ hl.symm (by simp [execOp, ho])
    have hca : captured.map a.eval = (captured.toList.map a.eval).toArray := by apply Array.ext'; simp
    have hfa : first.map a.eval = (first.toList.map a.eval).toArray := by apply Array.ext'; simp
    simp [Instr.makeFunc, hfa, hca]
  · -- makeMap
    rename_i t ho
    cases hl
    have s := h.allocMap
    refine ⟨_, _, .map (some w.heap.size), s, .map _ ⟨w.heap.size, 0, 0⟩ (by simp [Mu.add]), .inl ?_⟩
    simp [execOp, ho, Instr.makeMap]
  · -- makeSlice
    rename_i t l c ho
    split at hl
    · rename_i k l' k' c' h1 h2
      have hl1 := hev_rel hf h1
      have hc1 := hev_rel hf h2
      have e1 : a.eval l = .int k l' := by generalize a.eval l = z at hl1; cases hl1; rfl
      have e2 : a.eval c = .int k' c' := by generalize a.eval c = z at hc1; cases hc1; rfl
      obtain ⟨μ', w', v', r1, r2, r3⟩ := sim_makeSlice (P := P) h hl
      exact ⟨μ', w', v', r2, r3, .inl (by simp [execOp, ho, e1, e2, r1])⟩
    · cases hl
  · -- slice
    rename_i t x lo hi mx ho
    simp only [Option.bind_eq_some_iff, Option.map_eq_some_iff] at hl
    obtain ⟨p, hp, lo', hlo, hi', hhi, mx', hmx, u, hu, hl⟩ := hl
    have e1 := hopt_rel hf hlo
    have e2 := hopt_rel hf hhi
    have e3 := hopt_rel hf hmx
    exact pureV (sim_slice (P := P) (w := w) hu (hev_rel hf hp)) hl.symm (by simp [execOp, ho, e1, e2, e3])
  · -- fieldAddr
    rename_i s x f ho
    simp only [Option.bind_eq_some_iff, Option.map_eq_some_iff] at hl
    obtain ⟨p, hp, u, hu, hl⟩ := hl
    exact pureV (sim_fieldAt (P := P) (w := w) hu (hev_rel hf hp)) hl.symm (by simp [execOp, ho])
  · -- field
    rename_i s x f ho
    simp only [Option.bind_eq_some_iff, Option.map_eq_some_iff] at hl
    obtain ⟨p, hp, u, hu, hl⟩ := hl
    exact pureV (sim_field (P := P) (w := w) hu (hev_rel hf hp)) hl.symm (by simp [execOp, ho])
  · -- indexAddr
    rename_i t x i ho
    simp only [Option.bind_eq_some_iff] at hl
    obtain ⟨p, hp, hl⟩ := hl
    split at hl
    · rename_i k n hi
      simp only [Option.map_eq_some_iff] at hl
      obtain ⟨u, hu, hl⟩ := hl
      have hi1 := hev_rel hf hi
      have e1 : a.eval i = .int k n := by generalize a.eval i = z at hi1; cases hi1; rfl
      exact pureV (sim_indexAt (P := P) (w := w) hu (hev_rel hf hp)) hl.symm (by simp [execOp, ho, e1])
    · cases hl
  · -- index
    rename_i t x i ho
    simp only [Option.bind_eq_some_iff] at hl
    obtain ⟨p, hp, hl⟩ := hl
    split at hl
    · rename_i k n hi
      simp only [Option.map_eq_some_iff] at hl
      obtain ⟨u, hu, hl⟩ := hl
      have hi1 := hev_rel hf hi
      have e1 : a.eval i = .int k n := by generalize a.eval i = z at hi1; cases hi1; rfl
      exact pureV (sim_index (P := P) (w := w) hu (hev_rel hf hp)) hl.symm (by simp [execOp, ho, e1])
    · cases hl
  · -- lookup
    rename_i t m k ok ho
    simp only [Option.bind_eq_some_iff, Option.map_eq_some_iff] at hl
    obtain ⟨p, hp, k', hk, u, hu, hl⟩ := hl
    have hk1 := (hev_rel hf hk).flat1_eq (hlookup_key hu)
    exact pureV (sim_lookup (P := P) h hu (hev_rel hf hp)) hl.symm (by simp [execOp, ho, hk1])
  · -- mapUpdate
    rename_i t m k x ho
    simp only [Option.bind_eq_some_iff, Option.map_eq_some_iff] at hl
    obtain ⟨p, hp, k', hk, x', hx, H2, hu, hl⟩ := hl
    cases hl
    have hk1 := (hev_rel hf hk).flat1_eq (hmapUpdate_key hu)
    obtain ⟨w', r1, r2⟩ := sim_mapUpdate (P := P) h hu (hev_rel hf hp) (hev_rel hf hx)
    exact ⟨μ, w', undef, r2, .of_flat rfl, .inr ⟨by simp [execOp, ho, hk1, r1], rfl⟩⟩
  · rename_i t m k x ho
    simp only [Option.bind_eq_some_iff, Option.map_eq_some_iff] at hl
    obtain ⟨p, hp, k', hk, x', hx, H2, hu, hl⟩ := hl
    cases hl
    have hk1 := (hev_rel hf hk).flat1_eq (hmapUpdate_key hu)
    obtain ⟨w', r1, r2⟩ := sim_mapUpdate (P := P) h hu (hev_rel hf hp) (hev_rel hf hx)
    exact ⟨μ, w', undef, r2, .of_flat rfl, .inr ⟨by simp [execOp, ho, hk1, r1], rfl⟩⟩
  · -- extract
    rename_i t i ho
    split at hl
    · rename_i vs ht
      simp only [Option.map_eq_some_iff] at hl
      obtain ⟨u, hu, hl⟩ := hl
      have hr := hev_rel hf ht
      generalize hz : a.eval t = z at hr
      cases hr with
      | tuple cs cs' hc =>
      obtain ⟨u', h1, h2⟩ := hc.get i u (by simpa using hu)
      exact pureV (s := Instr.extract (.tuple cs'.toArray) i) ⟨u', by simp [Instr.extract, h1], h2⟩ hl.symm (by simp [execOp, ho, hz])
    · cases hl
  · -- builtins
    rename_i b args ts ho
    simp only [Option.bind_eq_some_iff] at hl
    obtain ⟨vs, hvs, hl⟩ := hl
    have hr := hevs_rel hf _ _ hvs
    have hargs : args.map a.eval = (args.toList.map a.eval).toArray := by apply Array.ext'; simp
    generalize args.toList.map a.eval = vs' at hr hargs
    unfold hbuiltin at hl
    split at hl
    · rename_i t x hts
      simp only [Option.map_eq_some_iff] at hl
      obtain ⟨u, hu, hl⟩ := hl
      have ht0 : ts[0]? = some t := by rw [← Array.getElem?_toList, hts]; rfl
      cases hr with
      | cons _ x' _ _ hx hn => cases hn with
        | nil =>
        obtain ⟨h1, h2⟩ := sim_len (P := P) (ty := o.type) h ht0 hu hx
        exact pureV ⟨u, h1, h2⟩ hl.symm (by simp [execOp, ho, resolve, invoke, builtin, hargs])
    · rename_i t u' s x hts
      have hta : ts = #[t, u'] := by apply Array.ext'; exact hts
      cases hr with
      | cons _ s' _ _ hs hn => cases hn with
        | cons _ x' _ _ hx hn => cases hn with
          | nil =>
          obtain ⟨μ', w', v', r1, r2, r3⟩ := sim_append (P := P) (ty := o.type) h hl hs hx
          exact ⟨μ', w', v', r2, r3, .inl (by simp [execOp, ho, resolve, invoke, builtin, hargs, hta, r1])⟩
    · rename_i t u' d x hts
      have hta : ts[0]? = some t := by rw [← Array.getElem?_toList, hts]; rfl
      cases hr with
      | cons _ d' _ _ hd hn => cases hn with
        | cons _ x' _ _ hx hn => cases hn with
          | nil =>
          obtain ⟨μ', w', v', r1, r2, r3⟩ := sim_copy (P := P) (ty := o.type) h hta hl hd hx
          exact ⟨μ', w', v', r2, r3, .inl (by simp [execOp, ho, resolve, invoke, builtin, hargs, r1])⟩
    · rename_i x xs
      simp only [Option.map_eq_some_iff] at hl
      obtain ⟨u, hu, hl⟩ := hl
      cases hr with
      | cons _ x' _ xs' hx hn =>
        obtain ⟨v', r1, r2⟩ := fold_of (P := P) (w := w) (fun x y v x' y' => hmin2_flat) xs xs' x x' u hn hx hu
        exact pureV ⟨v', r1, r2⟩ hl.symm (by simp [execOp, ho, resolve, invoke, builtin, hargs, Builtin.min_])
    · rename_i x xs
      simp only [Option.map_eq_some_iff] at hl
      obtain ⟨u, hu, hl⟩ := hl
      cases hr with
      | cons _ x' _ xs' hx hn =>
        obtain ⟨v', r1, r2⟩ := fold_of (P := P) (w := w) (fun x y v x' y' => hmax2_flat) xs xs' x x' u hn hx hu
        exact pureV ⟨v', r1, r2⟩ hl.symm (by simp [execOp, ho, resolve, invoke, builtin, hargs, Builtin.max_])
    · rename_i x
      simp only [Option.map_eq_some_iff] at hl
      obtain ⟨u, hu, hl⟩ := hl
      cases hr with
      | cons _ x' _ _ hx hn => cases hn with
        | nil =>
        obtain ⟨u', h1, h2⟩ := sim_sliceData (P := P) (w := w) ts o.type hu hx
        exact pureV ⟨u', h1, h2⟩ hl.symm (by simp [execOp, ho, resolve, invoke, builtin, hargs])
    · rename_i pt it p n hts
      have hta : ts = #[pt, it] := by apply Array.ext'; exact hts
      cases hr with
      | cons _ p' _ _ hp hn => cases hn with
        | cons _ n' _ _ hn hz => cases hz with
          | nil =>
          obtain ⟨w', r1, r2, r3⟩ := sim_unsafeStr (P := P) (it := it) (ty := o.type) h hl hp hn
          exact ⟨μ, w', v, r2, r3, .inl (by simp [execOp, ho, resolve, invoke, builtin, hargs, hta, r1])⟩
    · cases hl
  · -- range
    rename_i t x ho
    simp only [Option.bind_eq_some_iff] at hl
    obtain ⟨u, hu, hl⟩ := hl
    obtain ⟨μ', w', v', r1, r2, r3⟩ := sim_range (P := P) h hl (hev_rel hf hu)
    exact ⟨μ', w', v', r2, r3, .inl (by simp [execOp, ho, r1])⟩
  · -- next
    rename_i it ho
    simp only [Option.bind_eq_some_iff] at hl
    obtain ⟨u, hu, hl⟩ := hl
    obtain ⟨w', r1, r2, r3⟩ := sim_next (P := P) (ty := o.type) h hl (hev_rel hf hu)
    exact ⟨μ, w', v, r2, r3, .inl (by simp [execOp, ho, r1])⟩
  · cases hl

end Go.HL
/-
  A high level over the model, part 9: code: what a function's body comes to at the high level, and that the model's run of it meets that.
-/
namespace Go.HL
open Go.RowKit

variable {P : Program} {D : List Deferred}

/-- A CONTRACT: called with values that meet these, over any world that meets this heap, the function returns a value, and there is a heap, of which R is said. -/
def HCalls (P : Program) (f : FuncId) (args : List Value) (H : HHeap) (R : Value → HHeap → Prop) : Prop :=
  ∀ B μ w args', Rel B μ H w → VRels μ args args' →
    Calls P f args'.toArray w fun e w' => ∃ μ' v H' v', e = .returned v' ∧ R v H' ∧ VRel μ' v v' ∧ Step B μ H w μ' H' w'

theorem HCalls.mono {f : FuncId} {args : List Value} {H : HHeap} {R R' : Value → HHeap → Prop} (h : HCalls P f args H R) (hr : ∀ v H', R v H' → R' v H') : HCalls P f args H R' :=
  fun B μ w args' hR hv => (h B μ w args' hR hv).mono fun _ _ ⟨μ', v, H', v', e, r, x, s⟩ => ⟨μ', v, H', v', e, hr _ _ r, x, s⟩

/-- All blocks have been given. -/
def HHeap.Ok (H : HHeap) : Prop := ∀ b o, H.get b = some o → b < H.next
theorem Rel.ok {B : Nat} {μ : Mu} {H : HHeap} {w : World} (h : Rel B μ H w) : H.Ok := by
  intro b o hb
  cases o with
  | cells cs rw =>
    obtain ⟨p, hp, _⟩ := h.cells b cs rw hb
    exact h.bound b p hp
  | map es =>
    obtain ⟨p, _, _, hp, _⟩ := h.maps b es hb
    exact h.bound b p hp
  | iter t pos =>
    obtain ⟨p, hp, _⟩ := h.iters b t pos hb
    exact h.bound b p hp
  | tag e n c =>
    obtain ⟨p, _, _, hp, _⟩ := h.tags b e n c hb
    exact h.bound b p hp
theorem HCalls.ok {f : FuncId} {args : List Value} {H : HHeap} {R : Value → HHeap → Prop} (h : H.Ok → HCalls P f args H R) : HCalls P f args H R :=
  fun B μ w args' hR hv => h hR.ok B μ w args' hR hv
theorem HCalls.gotOk {f : FuncId} {args : List Value} {H : HHeap} {R : Value → HHeap → Prop} (h : HCalls P f args H fun v H' => H'.Ok → H.next ≤ H'.next → R v H') : HCalls P f args H R :=
  fun B μ w args' hR hv => (h B μ w args' hR hv).mono fun _ _ ⟨μ', v, H', v', e, r, x, s⟩ => ⟨μ', v, H', v', e, r s.rel.ok s.next, x, s⟩

/-- A function that has a body. -/
def isGo (P : Program) (f : FuncId) : Bool :=
  match P.funcs[f]? with
  | some fn => fn.body.isSome && fn.name != "runtime.NumGoroutine"
  | none => false

/-- The function that an operation calls, and what with. -/
def hcallee (P : Program) (fr : HFrame) (op : Op) : Option (FuncId × List Value) :=
  match op with
  | .call { callee := .value x, args, .. } =>
    match hev fr x, hevs fr args.toList with
    | some (.func (.func f) first captured), some vs =>
      if isGo P f then some (f, first.toList ++ (vs ++ captured.toList)) else none
    | _, _ => none
  | _ => none

theorem callee_run {μ : Mu} {fr : HFrame} {a : Act} (hf : FRel D μ fr a) {o : Oper} {f : FuncId} {args : List Value} (h : hcallee P fr o.op = some (f, args)) (w : World) :
    ∃ args', VRels μ args args' ∧ (execOp a.eval o).run P w = .ok (.enter f args'.toArray) w := by
  unfold hcallee at h
  split at h
  · rename_i x as ts ho
    split at h
    · rename_i g first captured vs hx hvs
      split at h <;> cases h
      rename_i hb
      have hr := hev_rel hf hx
      have hvr := hevs_rel hf _ _ hvs
      have hargs : as.map a.eval = (as.toList.map a.eval).toArray := by apply Array.ext'; simp
      generalize hq : a.eval x = q at hr
      cases hr with
      | func _ fs fs' cs cs' hfs hcs =>
      refine ⟨fs' ++ (as.toList.map a.eval ++ cs'), hfs.append (hvr.append hcs), ?_⟩
      cases hfn : P.funcs[f]? with
      | none => simp [isGo, hfn] at hb
      | some fn =>
        simp only [isGo, hfn, Bool.and_eq_true, bne_iff_ne, ne_eq] at hb
        have hbn : fn.body ≠ none := by
          cases hbb : fn.body <;> simp [hbb] at hb ⊢
        simp [execOp, ho, resolve, hq, Deferred.ofValue, invoke, callFunc, hfn, hb.2, hbn, hargs]
    · cases h
  · cases h

/-- A test on what an operation is guarded by. -/
def hwanted (ops : Array Oper) (fr : HFrame) (o : Oper) : Option Bool :=
  match o.guard with
  | none => some true
  | some (j, want) =>
    match ((ops[j]?).bind (·.dst)).bind fr.get with
    | some (.bool b) => some (b == want)
    | some (.tuple _) => some false
    | _ => none

theorem wanted_of {μ : Mu} {fr : HFrame} {a : Act} (hf : FRel D μ fr a) {ops : Array Oper} {o : Oper} {b : Bool} (h : hwanted ops fr o = some b) : Region.wanted o (yielded ops a.tmps) = b := by
  unfold hwanted at h
  unfold Region.wanted
  split at h
  · rename_i hg; cases h; simp [hg]
  · rename_i j want hg
    split at h
    · rename_i b' hb
      cases h
      simp only [Option.bind_eq_some_iff] at hb
      obtain ⟨d, hd, hv⟩ := hb
      obtain ⟨o', ho', hd'⟩ := hd
      obtain ⟨v', hv', hr⟩ := hf.vals d _ hv
      cases hr
      have : a.tmps[d]? = some (.bool b') := hv'
      have hy : yielded ops a.tmps j = some b' := by simp [yielded, ho', hd', this]
      simp only [hg, hy]
      cases b' <;> cases want <;> rfl
    · rename_i cs hb
      cases h
      simp only [Option.bind_eq_some_iff] at hb
      obtain ⟨d, hd, hv⟩ := hb
      obtain ⟨o', ho', hd'⟩ := hd
      obtain ⟨v', hv', hr⟩ := hf.vals d _ hv
      have hy : yielded ops a.tmps j = none := by
        have : a.tmps[d]? = some v' := hv'
        cases hr
        simp [yielded, ho', hd', this]
      simp only [hg, hy]
      rfl
    · cases h

/-- A row of operations, in the order of the text. -/
def HOps (P : Program) (ops : Array Oper) : List Oper → HFrame → HHeap → (HFrame → HHeap → Prop) → Prop
  | [], fr, H, K => K fr H
  | o :: rest, fr, H, K =>
    (hwanted ops fr o = some false ∧ HOps P ops rest (hput fr o.dst undef) H K) ∨
    (hwanted ops fr o = some true ∧
      ((∃ v H', hop P fr H o.op = some (v, H') ∧ HOps P ops rest (hput fr o.dst v) H' K) ∨
       (∃ f args, hcallee P fr o.op = some (f, args) ∧ HCalls P f args H fun v H' => HOps P ops rest (hput fr o.dst v) H' K)))

/-- What a run leaves, said of a world. -/
def Lift (D : List Deferred) (B : Nat) (μ : Mu) (H : HHeap) (w : World) (Q : Exit → HFrame → HHeap → Prop) : Exit → Act → World → Prop :=
  fun e a' w' => ∃ fr' H' μ', Q e fr' H' ∧ FRel D μ' fr' a' ∧ Step B μ H w μ' H' w'

theorem Lift.mono {B : Nat} {μ : Mu} {H : HHeap} {w : World} {Q Q' : Exit → HFrame → HHeap → Prop} (h : ∀ e fr H, Q e fr H → Q' e fr H) {e : Exit} {a : Act} {w' : World} : Lift D B μ H w Q e a w' → Lift D B μ H w Q' e a w' :=
  fun ⟨fr, H', μ', q, f, s⟩ => ⟨fr, H', μ', h _ _ _ q, f, s⟩

theorem Lift.trans {B : Nat} {μ μ1 : Mu} {H H1 : HHeap} {w w1 : World} {Q : Exit → HFrame → HHeap → Prop} (s : Step B μ H w μ1 H1 w1) {e : Exit} {a : Act} {w' : World} : Lift D B μ1 H1 w1 Q e a w' → Lift D B μ H w Q e a w' :=
  fun ⟨fr, H', μ', q, f, s'⟩ => ⟨fr, H', μ', q, f, s.trans s'⟩

/-- One operation of the model, by what it comes to at the high level. -/
theorem oper_wp {B : Nat} {μ : Mu} {H : HHeap} {w : World} (h : Rel B μ H w) {fr : HFrame} {a : Act} (hf : FRel D μ fr a) {o : Oper} {next : Act → World → Prop} {Q : Exit → Act → World → Prop}
    (hh : (∃ v H', hop P fr H o.op = some (v, H') ∧ ∀ μ' w' v', Step B μ H w μ' H' w' → VRel μ' v v' → next (a.put o.dst v') w') ∨
       (∃ f args R, hcallee P fr o.op = some (f, args) ∧ HCalls P f args H R ∧ ∀ v H' μ' w' v', R v H' → Step B μ H w μ' H' w' → VRel μ' v v' → next (a.put o.dst v') w')) : o.wp P a w next Q := by
  unfold Oper.wp
  rcases hh with ⟨v, H', h1, h2⟩ | ⟨f, args, R, h1, h2, h3⟩
  · obtain ⟨μ', w', v', s, hv, hr⟩ := sim_hop h hf h1
    rcases hr with hr | ⟨hr, hu⟩
    · rw [hr]; exact h2 μ' w' v' s hv
    · rw [hr]; subst hu; exact h2 μ' w' undef s hv
  · obtain ⟨args', ha, hr⟩ := callee_run hf h1 w
    rw [hr]
    refine (h2 B μ w args' h ha).mono fun e w' ⟨μ', v, H', v', he, r, hv, s⟩ => ?_
    subst he
    exact h3 v H' μ' w' v' r s hv

theorem hops_sound {ops : Array Oper} {Q : Exit → HFrame → HHeap → Prop} : ∀ (l : List Oper) (fr : HFrame) (H : HHeap), HOps P ops l fr H (Q .normal) → ∀ (B : Nat) (μ0 : Mu) (H0 : HHeap) (w0 : World) (μ : Mu) (w : World) (a : Act),
    Step B μ0 H0 w0 μ H w → FRel D μ fr a → wpList P ops (Lift D B μ0 H0 w0 Q) l a w
  | [], fr, H, h, B, μ0, H0, w0, μ, w, a, s, hf => ⟨fr, H, μ, h, hf, s⟩
  | o :: rest, fr, H, h, B, μ0, H0, w0, μ, w, a, s, hf => by
    unfold wpList
    rcases h with ⟨hw, h⟩ | ⟨hw, h⟩
    · rw [if_neg (by rw [wanted_of hf hw]; simp)]
      exact hops_sound rest _ H h B μ0 H0 w0 μ w _ s (hf.put _ (.of_flat rfl))
    · rw [if_pos (wanted_of hf hw)]
      refine .inl (oper_wp s.rel hf ?_)
      rcases h with ⟨v, H', h1, h2⟩ | ⟨f, args, h1, h2⟩
      · exact .inl ⟨v, H', h1, fun μ' w' v' s' hv => hops_sound rest _ H' h2 B μ0 H0 w0 μ' w' _ (s.trans s') ((hf.mono s'.sub).put _ hv)⟩
      · exact .inr ⟨f, args, _, h1, h2, fun v H' μ' w' v' r s' hv => hops_sound rest _ H' r B μ0 H0 w0 μ' w' _ (s.trans s') ((hf.mono s'.sub).put _ hv)⟩

/-- Code, over any world that meets the heap. -/
def Hwp (P : Program) (c : Code) (Q : Exit → HFrame → HHeap → Prop) (fr : HFrame) (H : HHeap) : Prop :=
  ∀ D B μ w a, Rel B μ H w → FRel D μ fr a → c.wp P (Lift D B μ H w Q) a w

def HThen (next : HFrame → HHeap → Prop) (Q : Exit → HFrame → HHeap → Prop) : Exit → HFrame → HHeap → Prop
  | .normal, fr, H => next fr H
  | e, fr, H => Q e fr H

def HBlock (id : Nat) (Q : Exit → HFrame → HHeap → Prop) : Exit → HFrame → HHeap → Prop
  | .exit id', fr, H => if id' = id then Q .normal fr H else Q (.exit id') fr H
  | e, fr, H => Q e fr H

theorem Hwp.mono {c : Code} {Q Q' : Exit → HFrame → HHeap → Prop} {fr : HFrame} {H : HHeap} (hq : ∀ e fr H, Q e fr H → Q' e fr H) (h : Hwp P c Q fr H) : Hwp P c Q' fr H :=
  fun D B μ w a hR hf => wp_mono (h D B μ w a hR hf) fun _ _ _ => Lift.mono hq

theorem Hwp.ok {c : Code} {Q : Exit → HFrame → HHeap → Prop} {fr : HFrame} {H : HHeap} (h : H.Ok → Hwp P c Q fr H) : Hwp P c Q fr H :=
  fun D B μ w a hR hf => h hR.ok D B μ w a hR hf

theorem Hwp.seq {x y : Code} {Q : Exit → HFrame → HHeap → Prop} {fr : HFrame} {H : HHeap} (h : Hwp P x (HThen (Hwp P y Q) Q) fr H) : Hwp P (.seq x y) Q fr H := by
  intro D B μ w a hR hf
  refine wp_seq (wp_mono (h D B μ w a hR hf) ?_)
  rintro e a' w' ⟨fr', H', μ', q, f, s⟩
  cases e with
  | normal => exact wp_mono (q D B μ' w' a' s.rel f) fun _ _ _ => Lift.trans s
  | _ => exact ⟨fr', H', μ', q, f, s⟩

theorem Hwp.block {id : Nat} {c : Code} {Q : Exit → HFrame → HHeap → Prop} {fr : HFrame} {H : HHeap} (h : Hwp P c (HBlock id Q) fr H) : Hwp P (.block id c) Q fr H := by
  intro D B μ w a hR hf
  refine wp_block (wp_mono (h D B μ w a hR hf) ?_)
  rintro e a' w' ⟨fr', H', μ', q, f, s⟩
  cases e with
  | exit id' =>
    simp only [Exit.inBlock, HBlock] at q ⊢
    split at q
    · rw [if_pos ‹_›]; exact ⟨fr', H', μ', q, f, s⟩
    · rw [if_neg ‹_›]; exact ⟨fr', H', μ', q, f, s⟩
  | _ => exact ⟨fr', H', μ', q, f, s⟩

theorem Hwp.cond {c : Operand} {x y : Code} {Q : Exit → HFrame → HHeap → Prop} {fr : HFrame} {H : HHeap} {b : Bool} (hb : hev fr c = some (.bool b)) (h1 : b = true → Hwp P x Q fr H) (h2 : b = false → Hwp P y Q fr H) : Hwp P (.cond c x y) Q fr H := by
  intro D B μ w a hR hf
  have hr := hev_rel hf hb
  have he : a.eval c = .bool b := by generalize a.eval c = z at hr; cases hr; rfl
  exact wp_cond_split he (fun e => h1 e D B μ w a hR hf) (fun e => h2 e D B μ w a hR hf)

theorem Hwp.region {id : Nat} {ops : Array Oper} {Q : Exit → HFrame → HHeap → Prop} {fr : HFrame} {H : HHeap} (h : HOps P ops ops.toList fr H (Q .normal)) : Hwp P (.region id ops false) Q fr H :=
  fun D B μ w a hR hf => wp_region_list (hops_sound ops.toList fr H h B μ H w μ w a (Step.refl hR) hf)

/-- A measure by which a loop ends need not be a function of the frame. -/
theorem wp_loop_rel {c : Code} {Q : Exit → Act → World → Prop} {a : Act} {w : World} (I : Nat → Act → World → Prop) (n : Nat) (h0 : I n a w)
    (round : ∀ n a w, I n a w → c.wp P (Exit.then (fun a' w' => ∃ m, m < n ∧ I m a' w') Q) a w) : (Code.loop c).wp P Q a w := by
  have least : ∀ a w, (∃ n, I n a w) → ∃ n, I n a w ∧ ∀ m, m < n → ¬ I m a w := by
    intro a w ⟨n, hn⟩
    induction n using Nat.strongRecOn with
    | _ n ih =>
      by_cases hm : ∃ m, m < n ∧ I m a w
      · obtain ⟨m, hm1, hm2⟩ := hm; exact ih m hm1 hm2
      · exact ⟨n, hn, fun m h1 h2 => hm ⟨m, h1, h2⟩⟩
  let ms : Act → World → Nat := fun a w => open Classical in if h : ∃ n, I n a w then Classical.choose (least a w h) else 0
  have hms : ∀ a w (h : ∃ n, I n a w), I (ms a w) a w ∧ ∀ m, I m a w → ms a w ≤ m := by
    intro a w h
    have hd : ms a w = Classical.choose (least a w h) := by simp only [ms, dif_pos h]
    have hs := Classical.choose_spec (least a w h)
    rw [hd]
    exact ⟨hs.1, fun m hm => Nat.le_of_not_lt fun hlt => hs.2 m hlt hm⟩
  refine wp_loop (fun a w => ∃ n, I n a w) ms ⟨n, h0⟩ fun a w hI => ?_
  obtain ⟨k1, k2⟩ := hms a w hI
  refine wp_mono (round _ a w k1) ?_
  intro e a' w' q
  cases e with
  | normal =>
    obtain ⟨m, hm, hI'⟩ := q
    exact ⟨⟨m, hI'⟩, Nat.lt_of_le_of_lt ((hms a' w' ⟨m, hI'⟩).2 m hI') hm⟩
  | _ => exact q

/-- A loop: what holds at each head, and a number that goes down. -/
theorem Hwp.loop {c : Code} {Q : Exit → HFrame → HHeap → Prop} {fr : HFrame} {H : HHeap} (I : Nat → HFrame → HHeap → Prop) (n : Nat) (h0 : I n fr H)
    (round : ∀ n fr H, I n fr H → Hwp P c (HThen (fun fr' H' => ∃ m, m < n ∧ I m fr' H') Q) fr H) : Hwp P (.loop c) Q fr H := by
  intro D B μ w a hR hf
  refine wp_loop_rel (fun n a' w' => ∃ fr' H' μ', I n fr' H' ∧ FRel D μ' fr' a' ∧ Step B μ H w μ' H' w') n ⟨fr, H, μ, h0, hf, Step.refl hR⟩ ?_
  rintro n a' w' ⟨fr', H', μ', hI, hf', s⟩
  refine wp_mono (round n fr' H' hI D B μ' w' a' s.rel hf') ?_
  rintro e a2 w2 ⟨fr2, H2, μ2, q, f2, s2⟩
  cases e with
  | normal =>
    obtain ⟨m, hm, hI2⟩ := q
    exact ⟨m, hm, fr2, H2, μ2, hI2, f2, s.trans s2⟩
  | _ => exact ⟨fr2, H2, μ2, q, f2, s.trans s2⟩

/-- The results of a function. -/
def hresult (P : Program) (fr : HFrame) (H : HHeap) : ResultVar → Option Value
  | .tmp t => fr.get t
  | .cell a t => match fr.get a with
    | some p => hload P H t p
    | none => none

def hresults (P : Program) (fr : HFrame) (H : HHeap) : List ResultVar → Option (List Value)
  | [] => some []
  | r :: rs => (hresult P fr H r).bind fun v => (hresults P fr H rs).map fun vs => v :: vs

def htuple : List Value → Value
  | [v] => v
  | vs => .tuple vs.toArray

/-- How the model reads one result. -/
def resVar (tmps : Array Value) : ResultVar → Sem Value
  | .tmp t => pure (tmps.getD t undef)
  | .cell a t => do loadVar t (← asAddr (tmps.getD a undef))

theorem results_eq (fn : Func) (tmps : Array Value) : results fn tmps = (do let vs ← fn.results.mapM (resVar tmps); pure (if h : vs.size = 1 then vs[0] else .tuple vs)) := by
  rfl

theorem run_results {B : Nat} {μ : Mu} {H : HHeap} {w : World} (h : Rel B μ H w) {fr : HFrame} {a : Act} (hf : FRel D μ fr a) : ∀ (rs : List ResultVar) (vs : List Value), hresults P fr H rs = some vs →
    ∃ vs', VRels μ vs vs' ∧ (rs.mapM (m := Sem) (resVar a.tmps)).run P w = .ok vs' w
  | [], vs, e => by simp [hresults] at e; subst e; exact ⟨[], .nil, rfl⟩
  | r :: rs, vs, e => by
    simp only [hresults, Option.bind_eq_some_iff, Option.map_eq_some_iff] at e
    obtain ⟨v, hv, vs1, hvs, e⟩ := e
    subst e
    obtain ⟨vs', h1, h2⟩ := run_results h hf rs vs1 hvs
    have hget : ∀ (t : Nat) (u : Value), fr.get t = some u → VRel μ u (a.tmps.getD t undef) := fun t u e => by
      have := hev_rel hf (x := .tmp t) (v := u) e
      exact this
    cases r with
    | tmp t =>
      refine ⟨a.tmps.getD t undef :: vs', .cons _ _ _ _ (hget t v hv) h1, ?_⟩
      simp only [List.mapM_cons, resVar, Sem.run_bind, Sem.run_pure, Result.andThen_ok, h2]
    | cell ad t =>
      simp only [hresult] at hv
      split at hv
      · rename_i p hp
        have hr := hget ad p hp
        obtain ⟨u', k1, k2⟩ := sim_load (P := P) h hv hr
        have hpq : ∃ x, a.tmps.getD ad undef = .pointer (some x) := by
          generalize a.tmps.getD ad undef = q at hr
          unfold hload at hv
          split at hv
          · cases hr; exact ⟨_, rfl⟩
          · cases hv
        obtain ⟨x, hx⟩ := hpq
        have k1' : (loadVar t x).run P w = .ok u' w := by simpa [Instr.loadAt, Instr.sureAddr, hx] using k1
        have ka : (asAddr (a.tmps.getD ad undef)).run P w = .ok x w := by rw [hx]; rfl
        refine ⟨u' :: vs', .cons _ _ _ _ k2 h1, ?_⟩
        simp only [List.mapM_cons, resVar, Sem.run_bind, Sem.run_pure, Result.andThen_ok, ka, k1', h2]
      · cases hv

/-- The frame at a function's head: its arguments. -/
def hframe0 (args : List Value) (n : Nat) : HFrame := ⟨args.length + (n - args.length), fun t => args[t]?⟩

/-- A FUNCTION, BY ITS BODY. -/
theorem HCalls.of_body {f : FuncId} {fn : Func} {c : Code} {args : List Value} {H : HHeap} {R : Value → HHeap → Prop} (hfn : P.funcs[f]? = some fn) (hc : fn.body = some c)
    (h : Hwp P c (fun e fr H' => (match e with | .normal | .ret => True | _ => False) ∧ ∃ vs, hresults P fr H' fn.results.toList = some vs ∧ R (htuple vs) H')
      (hframe0 args fn.ntmps) H) : HCalls P f args H R := by
  intro B μ w args' hR hv
  refine calls_of_wp hfn hc ?_
  have hf : FRel [] μ (hframe0 args fn.ntmps) { tmps := args'.toArray ++ Array.replicate (fn.ntmps - args'.toArray.size) undef, defers := [] } := by
    have hl := hv.length
    refine ⟨by simp [hframe0, hl], fun t v e => ?_, rfl⟩
    obtain ⟨v', h1, h2⟩ := hv.get t v e
    refine ⟨v', ?_, h2⟩
    have hlt : t < args'.length := by
      rcases Nat.lt_or_ge t args'.length with hh | hh
      · exact hh
      · rw [List.getElem?_eq_none hh] at h1; cases h1
    rw [Array.getElem?_append_left (by simpa using hlt)]
    simpa using h1
  refine wp_mono (h [] B μ w _ hR hf) ?_
  rintro e a' w' ⟨fr', H', μ', ⟨q1, vs, q2, q3⟩, f', s⟩
  obtain ⟨vs', k1, k2⟩ := run_results s.rel f' _ _ q2
  have hres : (results fn a'.tmps).run P w' = .ok (htuple vs') w' := by
    rw [results_eq, Sem.run_bind, Array.mapM_eq_mapM_toList, Sem.run_map]
    rw [k2]
    simp only [Result.andThen_ok, Sem.run_pure]
    cases vs' with
    | nil => rfl
    | cons x xs => cases xs with
      | nil => rfl
      | cons y ys => simp [htuple]
  have hrel : VRel μ' (htuple vs) (htuple vs') := by
    cases k1 with
    | nil => exact .tuple [] [] .nil
    | cons _ _ _ _ h1 h2 => cases h2 with
      | nil => exact h1
      | cons _ _ _ _ h3 h4 => exact .tuple _ _ (.cons _ _ _ _ h1 (.cons _ _ _ _ h3 h4))
  cases e with
  | normal => exact ⟨f'.defers, _, hres, μ', _, H', _, rfl, q3, hrel, s⟩
  | ret => exact ⟨f'.defers, _, hres, μ', _, H', _, rfl, q3, hrel, s⟩
  | _ => exact absurd q1 (by simp)

end Go.HL
