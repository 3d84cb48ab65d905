/-
  A high level over the model, part 8: copies, maps, lengths; and all operations under one name.
-/
import Derived.Test.YtakjligkeplohaaGreatDoorH7
namespace Go.HL
set_option linter.unusedSimpArgs false
set_option linter.unusedVariables false
open Go.RowKit

variable {P : Program} {B : Nat} {μ : Mu} {H : HHeap} {w : World}

/-- copy. -/
def hcopy (P : Program) (H : HHeap) (dt : TypeId) (d x : Value) : Option (Value × HHeap) :=
  match P.underlying dt with
  | some (.slice u) => (helem P u).bind fun e =>
    match d with
    | .slice none 0 0 => (hsource H e.size x).map fun _ => (.int .i64 0, H)
    | .slice (some ⟨b, o, _⟩) len _ =>
      (hsource H e.size x).bind fun (vs, n) =>
      if min n len = 0 then some (.int .i64 0, H) else
      match H.get b with
      | some (.cells cs true) =>
        if o + min n len * e.size ≤ cs.length ∧ min n len * e.size ≤ vs.length then some (.int .i64 (min n len : Nat), H.set b (.cells (splice cs o (vs.take (min n len * e.size))) true)) else none
      | _ => none
    | _ => none
  | _ => none

theorem hsource_min {size : Nat} {x x' : Value} {vs : List Value} {n : Nat} (h : Rel B μ H w) (hl : hsource H size x = some (vs, n)) (hx : VRel μ x x') (m : Nat) (hm : m ≤ n) :
    ∃ vs', VRels μ (vs.take (m * size)) vs' ∧ (Builtin.firstCells size m x').run P w = .ok vs'.toArray w := by
  unfold hsource at hl
  split at hl
  · cases hl; cases hx
    have : m = 0 := by omega
    subst this
    exact ⟨[], by simpa using VRels.nil, by simp [Builtin.firstCells]⟩
  · rename_i b o s n' c
    split at hl
    · rename_i hn; cases hl; subst hn
      have : m = 0 := by omega
      subst this
      have : ∃ a c', x' = .slice (some a) 0 c' := by cases hx <;> exact ⟨_, _, rfl⟩
      obtain ⟨a, c', rfl⟩ := this
      exact ⟨[], by simpa using VRels.nil, by simp [Builtin.firstCells, loadCells, loadCellsFrom]⟩
    · rename_i hn
      split at hl
      · rename_i cs rw' hb
        split at hl <;> cases hl
        rename_i hlen
        have hmn : m * size ≤ n * size := Nat.mul_le_mul_right _ hm
        have key : ∀ (p : Place) (c' : Nat), μ b = some p → ∃ vs', VRels μ (((cs.drop o).take (n * size)).take (m * size)) vs' ∧ (Builtin.firstCells size m (.slice (some ⟨p.g, p.d + o, none⟩) n c')).run P w = .ok vs'.toArray w := by
          intro p c' hp
          obtain ⟨vs', h1, h2, h3⟩ := h.cellsAt hb hp o (m * size) (by omega)
          refine ⟨vs', ?_, run_firstCells_some (P := P) w size _ _ _ _ vs' h2 h3⟩
          rw [List.take_take, Nat.min_eq_left hmn]; exact h1
        cases hx with
        | slice _ _ _ _ p hp _ => exact key p _ hp
        | grown _ _ _ _ _ _ p hp _ _ _ => exact key p _ hp
        | hole => exact absurd rfl hn
        | void => exact absurd rfl hn
      · cases hl
  · rename_i s
    split at hl <;> cases hl
    rename_i hs
    subst hs
    cases hx
    refine ⟨_, .of_flat1 (vs := (s.data.toList.map (fun b => Value.int .u8 b.toNat)).take (m * 1)) ?_, ?_⟩
    · rw [List.all_eq_true]; intro v hv
      obtain ⟨b, _, rfl⟩ := List.mem_map.1 (List.mem_of_mem_take hv); rfl
    · simp [Builtin.firstCells]
      apply Array.ext'; simp
  · cases hl

theorem sim_copy (h : Rel B μ H w) {dt ty : TypeId} {ts : Array TypeId} {d d' x x' v : Value} {H' : HHeap} (hts : ts[0]? = some dt) (hl : hcopy P H dt d x = some (v, H')) (hd : VRel μ d d') (hx : VRel μ x x') :
    ∃ μ' w' v', (Builtin.copy_ ts ty #[d', x']).run P w = .ok v' w' ∧ Step B μ H w μ' H' w' ∧ VRel μ' v v' := by
  unfold hcopy at hl
  split at hl
  case h_2 => cases hl
  rename_i u hu
  simp only [Option.bind_eq_some_iff] at hl
  obtain ⟨e, he, hl⟩ := hl
  obtain ⟨i, z, hi, hz, hze, hsz, hby, hf, hzl⟩ := helem_spec he
  split at hl
  · simp only [Option.map_eq_some_iff] at hl
    obtain ⟨⟨vs, n⟩, hsrc, hl⟩ := hl
    cases hl; cases hd
    obtain ⟨h1, _, _, _⟩ := sim_source (P := P) h hsrc hx
    obtain ⟨vs', h2, h3⟩ := hsource_min (P := P) h hsrc hx 0 (Nat.zero_le _)
    refine ⟨μ, w, .int .i64 0, ?_, Step.refl h, .int _ _⟩
    simp [Builtin.copy_, hts, run_underlying hu, h1, sizeOf, typeInfo, hi, hsz, h3, goInt]
  · rename_i b o s len cap
    simp only [Option.bind_eq_some_iff] at hl
    obtain ⟨⟨vs, n⟩, hsrc, hl⟩ := hl
    dsimp only at hl
    obtain ⟨h1, hvl, hv1, _⟩ := sim_source (P := P) h hsrc hx
    obtain ⟨vs', h2, h3⟩ := hsource_min (P := P) h hsrc hx (min n len) (Nat.min_le_left _ _)
    have hds : (∃ p o2 cap', μ b = some p ∧ d' = .slice (some ⟨p.g, p.d + o2, none⟩) len cap' ∧ (len ≠ 0 → o2 = o)) ∨ (len = 0 ∧ ∃ ad, d' = .slice (some ad) 0 0) := by
      cases hd with
      | slice _ _ _ _ p hp _ => exact .inl ⟨p, o, _, hp, rfl, fun _ => rfl⟩
      | grown _ _ _ _ _ _ p hp _ _ _ => exact .inl ⟨p, o, _, hp, rfl, fun _ => rfl⟩
      | hole _ _ o2 _ _ p hp _ => exact .inl ⟨p, o2, _, hp, rfl, fun hh => absurd rfl hh⟩
      | void _ _ ad => exact .inr ⟨rfl, ad, rfl⟩
    rcases hds with hds | ⟨hl0, ad, rfl⟩
    case inr =>
      subst hl0
      have hz0 : min n 0 = 0 := Nat.min_zero n
      rw [hz0] at h2 h3 hl
      simp only [if_true] at hl
      cases hl
      have : vs' = [] := by have := h2.length; simp at this; exact this
      subst this
      refine ⟨μ, w, .int .i64 0, ?_, Step.refl h, .int _ _⟩
      have hm : Nat.min n 0 = 0 := hz0
      simp [Builtin.copy_, hts, run_underlying hu, h1, sizeOf, typeInfo, hi, hsz, h3, goInt, storeCells]
    obtain ⟨p, o2, cap', hp, rfl, ho⟩ := hds
    split at hl
    · rename_i hz0
      cases hl
      rw [hz0] at h2 h3
      have : vs' = [] := by have := h2.length; simp at this; exact this
      subst this
      refine ⟨μ, w, .int .i64 0, ?_, Step.refl h, .int _ _⟩
      have hm : Nat.min n len = 0 := hz0
      simp [Builtin.copy_, hts, run_underlying hu, h1, sizeOf, typeInfo, hi, hsz, h3, goInt, hm, storeCells]
    · rename_i hz0
      split at hl
      · rename_i cs hb
        split at hl <;> cases hl
        rename_i hc
        have hlen0 : len ≠ 0 := by intro e; subst e; simp at hz0
        have := ho hlen0
        subst this
        have hlt : (vs.take (min n len * e.size)).length = min n len * e.size := by simp; omega
        have hq := h.cells b cs true hb
        obtain ⟨q, hq, hl', _⟩ := hq
        rw [hp] at hq; cases hq
        have hv1' : ∀ v ∈ vs.take (min n len * e.size), v.oneCell' = true := fun v hv => hv1 v (List.mem_of_mem_take hv)
        have hrun := h.run_store P hb hp o2 _ _ h2 hv1' (by omega)
        refine ⟨μ, _, _, ?_, h.store hb hp o2 _ _ h2 hv1' (by omega), .int _ _⟩
        have hm : Nat.min n len = min n len := rfl
        simp [Builtin.copy_, hts, run_underlying hu, h1, sizeOf, typeInfo, hi, hsz, hm, h3, hrun, goInt]
      · cases hl
  · cases hl

/-- Are two keys the same? -/
def keyEq : Value → Value → Bool
  | .int _ a, .int _ b => a == b
  | .string a, .string b => a == b
  | .bool a, .bool b => a == b
  | _, _ => false

/-- A key that can be looked for at once: a whole number, a string, a bool. -/
def plainKey (P : Program) (t : TypeId) (k : Value) : Bool :=
  match P.underlying t, k with
  | some (.int k'), .int k'' _ => k' == k''
  | some .string, .string _ => true
  | some .bool, .bool _ => true
  | _, _ => false

/-- The place of a key among a map's entries, and what it holds. -/
def hfind (k : Value) : List (Value × Value) → Option (Nat × Value)
  | [] => none
  | (k', v) :: es => if keyEq k k' then some (0, v) else (hfind k es).map fun r => (r.1 + 1, r.2)

theorem sameNow_of {t : TypeId} {d : TypeDesc} (hd : P.underlying t = some d) {k k' : Value} (h : plainKey P t k = true) (h' : plainKey P t k' = true) : Instr.sameNow d k k' = some (keyEq k k') := by
  unfold plainKey at h h'
  rw [hd] at h h'
  cases d <;> cases k <;> simp at h <;> cases k' <;> simp at h' <;> simp [Instr.sameNow, keyEq]
  subst h; simpa using h'

theorem findNow_of {t : TypeId} {d : TypeDesc} (hd : P.underlying t = some d) {k : Value} (h : plainKey P t k = true) : ∀ {es : List (Value × Value)} {es' : List MapEntry} (i : Nat), ERels μ es es' → es.all (fun e => plainKey P t e.1) = true →
    ∃ r, Instr.findNow d k es' i = some r ∧ (hfind k es = none → r = none) ∧ (∀ j v, hfind k es = some (j, v) → ∃ v', r = some (i + j, v') ∧ VRel μ v v' ∧ ∃ e, es'[j]? = some e ∧ keyEq k e.key = true)
  | _, _, i, .nil, _ => ⟨none, rfl, fun _ => rfl, fun j v e => by simp [hfind] at e⟩
  | _, _, i, .cons k' v e es es' hk hf hv hs, ha => by
    simp only [List.all_cons, Bool.and_eq_true] at ha
    subst hk
    have hsame := sameNow_of hd h ha.1
    simp only [Instr.findNow, hsame, hfind]
    by_cases hkk : keyEq k e.key = true
    · simp only [hkk, if_true]
      refine ⟨_, rfl, fun hh => by simp at hh, fun j u hh => ?_⟩
      simp at hh; obtain ⟨rfl, rfl⟩ := hh
      exact ⟨_, rfl, hv, e, by simp, hkk⟩
    · have hkf : keyEq k e.key = false := by simpa using hkk
      obtain ⟨r, h1, h2, h3⟩ := findNow_of hd h (i + 1) hs ha.2
      simp only [hkf]
      refine ⟨r, h1, fun hh => h2 (by simpa using hh), fun j u hh => ?_⟩
      simp only [Bool.false_eq_true, if_false, Option.map_eq_some_iff] at hh
      obtain ⟨⟨j', u'⟩, hh, he⟩ := hh
      simp at he; obtain ⟨rfl, rfl⟩ := he
      obtain ⟨v', e1, e2, e3⟩ := h3 j' u' hh
      exact ⟨v', by rw [e1]; simp; omega, e2, by simpa using e3⟩

theorem run_checkKey {b : Bool} {t : TypeId} {k : Value} (h : plainKey P t k = true) (n : Nat) (w : World) : (Instr.checkKey b (n + 1) t k).run P w = .ok () w := by
  unfold plainKey at h
  split at h
  · simp [Instr.checkKey, run_underlying ‹P.underlying t = _›]
  · simp [Instr.checkKey, run_underlying ‹P.underlying t = _›]
  · simp [Instr.checkKey, run_underlying ‹P.underlying t = _›]
  · cases h

theorem plainKey_desc {t : TypeId} {k : Value} (h : plainKey P t k = true) : ∃ d, P.underlying t = some d := by
  unfold plainKey at h
  split at h <;> first | exact ⟨_, ‹_›⟩ | cases h

theorem plainKey_flat {t : TypeId} {k : Value} (h : plainKey P t k = true) : flat1 k = true := by
  unfold plainKey at h
  split at h <;> first | rfl | cases h

def hzero (P : Program) (t : TypeId) : Option Value :=
  match P.info? t with
  | some i => match i.zero with
    | some z => if flat z then some z else none
    | none => none
  | none => none

theorem run_hzero {t : TypeId} {z : Value} (h : hzero P t = some z) (w : World) : (zeroValue t).run P w = .ok z w ∧ VRel μ z z := by
  unfold hzero at h
  split at h
  · rename_i i hi
    split at h
    · rename_i z hz
      split at h <;> cases h
      exact ⟨by simp [zeroValue, typeInfo, hi, hz], .of_flat ‹_›⟩
    · cases h
  · cases h

def hentries (H : HHeap) (m : Value) : Option (List (Value × Value)) :=
  match m with
  | .map none => some []
  | .map (some b) => match H.get b with
    | some (.map es) => some es
    | _ => none
  | _ => none

def hlookup (P : Program) (H : HHeap) (t : TypeId) (m k : Value) (ok : Bool) : Option Value :=
  match P.underlying t with
  | some (.map kt et) =>
    (hentries H m).bind fun es =>
    if plainKey P kt k ∧ es.all (fun e => plainKey P kt e.1) then
      match hfind k es with
      | some (_, v) => some (if ok then .tuple #[v, .bool true] else v)
      | none => (hzero P et).map fun z => if ok then .tuple #[z, .bool false] else z
    else none
  | _ => none

theorem sim_lookup (h : Rel B μ H w) {t : TypeId} {m m' k v : Value} {ok : Bool} (hl : hlookup P H t m k ok = some v) (hm : VRel μ m m') :
    ∃ v', (Instr.lookup t m' k ok).run P w = .ok v' w ∧ VRel μ v v' := by
  unfold hlookup at hl
  split at hl
  case h_2 => cases hl
  rename_i kt et ht
  simp only [Option.bind_eq_some_iff] at hl
  obtain ⟨es, hes, hl⟩ := hl
  split at hl
  case isFalse => cases hl
  rename_i hc
  obtain ⟨d, hd⟩ := plainKey_desc hc.1
  have fin : ∀ (es' : Array MapEntry), ERels μ es es'.toList → ∃ v', (do
      Instr.checkKey es'.isEmpty 10000 kt k
      let (v, ok') ← match ← Instr.findKey kt k es'.toList with
        | some (_, v) => pure (v, true)
        | none => pure (← zeroValue et, false)
      pure (if ok then Value.tuple #[v, .bool ok'] else v) : Sem Value).run P w = .ok v' w ∧ VRel μ v v' := by
    intro es' he
    obtain ⟨r, h1, h2, h3⟩ := findNow_of (P := P) hd hc.1 0 he hc.2
    have hck := run_checkKey (P := P) (b := es'.isEmpty) hc.1 9999 w
    split at hl
    · rename_i j u hf
      cases hl
      obtain ⟨v', e1, e2, _⟩ := h3 j u hf
      subst e1
      cases ok
      · exact ⟨v', by simp [hck, Instr.findKey, run_underlying hd, h1], e2⟩
      · exact ⟨.tuple #[v', .bool true], by simp [hck, Instr.findKey, run_underlying hd, h1], .tuple [_, _] [_, _] (.cons _ _ _ _ e2 (.cons _ _ _ _ (.bool _) .nil))⟩
    · rename_i hf
      simp only [Option.map_eq_some_iff] at hl
      obtain ⟨z, hz, hl⟩ := hl
      have := h2 hf
      subst this
      obtain ⟨z1, z2⟩ := run_hzero (μ := μ) hz w
      cases ok
      · simp at hl; subst hl
        exact ⟨_, by simp [hck, Instr.findKey, run_underlying hd, h1, z1], z2⟩
      · simp at hl; subst hl
        exact ⟨.tuple #[_, .bool false], by simp [hck, Instr.findKey, run_underlying hd, h1, z1], .tuple [_, _] [_, _] (.cons _ _ _ _ z2 (.cons _ _ _ _ (.bool _) .nil))⟩
  unfold hentries at hes
  split at hes
  · cases hes; cases hm
    obtain ⟨v', f1, f2⟩ := fin #[] .nil
    refine ⟨v', ?_, f2⟩
    simp only [Instr.lookup, Sem.run_bind, run_underlying ht, Result.andThen_ok, Sem.run_pure] at f1 ⊢
    exact f1
  · rename_i b
    split at hes <;> cases hes
    rename_i hb
    cases hm with
    | map _ p hp =>
    obtain ⟨q, clock, es', hq, _, hh, he⟩ := h.maps b _ hb
    rw [hp] at hq; cases hq
    obtain ⟨v', f1, f2⟩ := fin es' he
    refine ⟨v', ?_, f2⟩
    have hgo : (getObj p.g).run P w = .ok (.map es' clock) w := by simp [getObj, Sem.run, hh]
    simp only [Instr.lookup, Sem.run_bind, run_underlying ht, Result.andThen_ok, Sem.run_pure, hgo] at f1 ⊢
    exact f1
  · cases hes

def hmapUpdate (P : Program) (H : HHeap) (t : TypeId) (m k x : Value) : Option HHeap :=
  match P.underlying t, m with
  | some (.map kt _), .map (some b) =>
    match H.get b with
    | some (.map es) =>
      if plainKey P kt k ∧ es.all (fun e => plainKey P kt e.1) then
        match hfind k es with
        | some (j, _) => some (H.set b (.map (es.set j (k, x))))
        | none => some (H.set b (.map (es ++ [(k, x)])))
      else none
    | _ => none
  | _, _ => none

theorem ERels.append : ∀ {a b : List (Value × Value)} {a' b' : List MapEntry}, ERels μ a a' → ERels μ b b' → ERels μ (a ++ b) (a' ++ b')
  | _, _, _, _, .nil, h => h
  | _, _, _, _, .cons k v e es es' hk hf hv hs, h => .cons k v e _ _ hk hf hv (hs.append h)

theorem ERels.set : ∀ {a : List (Value × Value)} {a' : List MapEntry} (j : Nat) (k v : Value) (f : MapEntry → MapEntry), ERels μ a a' → (∀ e, (f e).key = k) → (∀ e, VRel μ v (f e).val) → flat1 k = true → ERels μ (a.set j (k, v)) (a'.modify j f)
  | _, _, _, _, _, _, .nil, _, _, _ => by simpa using ERels.nil
  | _, _, 0, k, v, f, .cons k0 v0 e es es' hk hf hv hs, h1, h2, h3 => by
    simp only [List.set_cons_zero, List.modify_zero_cons]
    exact .cons k v (f e) _ _ (h1 e) h3 (h2 e) hs
  | _, _, j + 1, k, v, f, .cons k0 v0 e es es' hk hf hv hs, h1, h2, h3 => by
    simp only [List.set_cons_succ, List.modify_succ_cons]
    exact .cons k0 v0 e _ _ hk hf hv (hs.set j k v f h1 h2 h3)

theorem ba_eq {a b : ByteArray} : (a == b) = true ↔ a = b := by
  constructor
  · intro h
    have h' : (a.data == b.data) = true := h
    cases a; cases b; congr; exact eq_of_beq h'
  · rintro rfl
    show (a.data == a.data) = true
    simp

theorem sameBits_of {t : TypeId} {k k' : Value} (h : plainKey P t k = true) (h' : plainKey P t k' = true) (he : keyEq k k' = true) (n : Nat) : Instr.sameBits n k' k = true := by
  unfold plainKey at h h'
  cases k <;> simp only [keyEq, Bool.false_eq_true] at he <;> cases k' <;> simp only [Bool.false_eq_true] at he
  · have := eq_of_beq he; subst this; simp [Instr.sameBits]
  · have := eq_of_beq he; subst this
    split at h <;> simp at * <;> simp_all [Instr.sameBits]
  · have := ba_eq.1 he; subst this; simp [Instr.sameBits, ba_eq]

theorem ERels.plain {t : TypeId} : ∀ {a : List (Value × Value)} {a' : List MapEntry}, ERels μ a a' → a.all (fun e => plainKey P t e.1) = true → ∀ (j : Nat) (e : MapEntry), a'[j]? = some e → plainKey P t e.key = true
  | _, _, .nil, _, j, e, h => by simp at h
  | _, _, .cons k v e es es' hk hf hv hs, ha, 0, e', h => by
    simp at h; subst h; simp at ha; rw [hk]; exact ha.1
  | _, _, .cons k v e es es' hk hf hv hs, ha, j + 1, e', h => by
    simp only [List.all_cons, Bool.and_eq_true] at ha
    exact hs.plain ha.2 j e' (by simpa using h)

theorem sim_mapUpdate (h : Rel B μ H w) {t : TypeId} {m m' k x x' : Value} {H' : HHeap} (hl : hmapUpdate P H t m k x = some H') (hm : VRel μ m m') (hx : VRel μ x x') :
    ∃ w', (Instr.mapUpdate t m' k x').run P w = .ok () w' ∧ Step B μ H w μ H' w' := by
  unfold hmapUpdate at hl
  split at hl
  case h_2 => cases hl
  rename_i kt et b ht
  split at hl
  case h_2 => cases hl
  rename_i es hb
  split at hl
  case isFalse => cases hl
  rename_i hc
  cases hm with
  | map _ p hp =>
  obtain ⟨q, clock, es', hq, _, hh, he⟩ := h.maps b _ hb
  rw [hp] at hq; cases hq
  obtain ⟨d, hd⟩ := plainKey_desc hc.1
  obtain ⟨r, h1, h2, h3⟩ := findNow_of (P := P) hd hc.1 0 he hc.2
  have hck := run_checkKey (P := P) (b := false) hc.1 9999 w
  have hkf := plainKey_flat hc.1
  have hset : ∀ o, (setObj p.g o).run P w = .ok () { w with heap := w.heap.setIfInBounds p.g o } := fun o => by simp [setObj, Sem.run, hh]
  split at hl
  · rename_i j u hf
    cases hl
    obtain ⟨v', e1, e2, e, e3, e4⟩ := h3 j u hf
    subst e1
    have hpe := he.plain hc.2 j e e3
    have hsb := sameBits_of hc.1 hpe e4 10000
    have e3' : es'[j]? = some e := by simpa using e3
    refine ⟨{ w with heap := w.heap.setIfInBounds p.g (.map (es'.modify j fun e => { e with key := k, val := x' }) clock) }, ?_, h.setMap hb hp _ _ _ ?_⟩
    · simp [Instr.mapUpdate, run_underlying ht, getObj, Sem.run, hh, hck, Instr.findKey, run_underlying hd, h1, e3', Instr.keyThatStays, hsb, hset]
    · rw [Array.toList_modify]
      exact he.set j k x _ (fun _ => rfl) (fun _ => hx) hkf
  · rename_i hf
    cases hl
    have := h2 hf
    subst this
    refine ⟨{ w with heap := w.heap.setIfInBounds p.g (.map (es'.push { key := k, val := x', born := clock }) (clock + 1)) }, ?_, h.setMap hb hp _ _ _ ?_⟩
    · simp [Instr.mapUpdate, run_underlying ht, getObj, Sem.run, hh, hck, Instr.findKey, run_underlying hd, h1, hset]
    · rw [Array.toList_push]
      exact he.append (.cons k x _ [] [] rfl hkf hx .nil)

def hlen (P : Program) (H : HHeap) (t : TypeId) (x : Value) : Option Value :=
  match P.underlying t, x with
  | some .string, .string s => some (.int .i64 s.size)
  | some (.slice _), .slice _ n _ => some (.int .i64 n)
  | some (.array n _), _ => some (.int .i64 n)
  | some (.map _ _), m => (hentries H m).map fun es => .int .i64 es.length
  | _, _ => none

theorem ERels.length : ∀ {a : List (Value × Value)} {a' : List MapEntry}, ERels μ a a' → a'.length = a.length
  | _, _, .nil => rfl
  | _, _, .cons _ _ _ _ _ _ _ _ hs => by simp [hs.length]

theorem sim_len (h : Rel B μ H w) {t ty : TypeId} {ts : Array TypeId} {x x' v : Value} (hts : ts[0]? = some t) (hl : hlen P H t x = some v) (hx : VRel μ x x') :
    (Builtin.len_ ts ty #[x']).run P w = .ok v w ∧ VRel μ v v := by
  unfold hlen at hl
  split at hl
  · cases hl; cases hx; exact ⟨by simp [Builtin.len_, hts, run_underlying ‹P.underlying t = _›, goInt], .int _ _⟩
  · rename_i n _ ht
    cases hl
    have : ∃ a c, x' = .slice a n c := by cases hx <;> exact ⟨_, _, rfl⟩
    obtain ⟨a, c, rfl⟩ := this
    exact ⟨by simp [Builtin.len_, hts, run_underlying ht, goInt], .int _ _⟩
  · cases hl; exact ⟨by simp [Builtin.len_, hts, run_underlying ‹P.underlying t = _›, goInt], .int _ _⟩
  · rename_i m ht
    simp only [Option.map_eq_some_iff] at hl
    obtain ⟨es, hes, hl⟩ := hl
    subst hl
    unfold hentries at hes
    split at hes
    · cases hes; cases hx; exact ⟨by simp [Builtin.len_, hts, run_underlying ‹P.underlying t = _›, goInt], .int _ _⟩
    · rename_i b
      split at hes <;> cases hes
      rename_i hb
      cases hx with
      | map _ p hp =>
      obtain ⟨q, clock, es', hq, _, hh, he⟩ := h.maps b _ hb
      rw [hp] at hq; cases hq
      have hlen := he.length
      have hl2 : es'.size = es.length := by simpa using hlen
      exact ⟨by simp [Builtin.len_, hts, run_underlying ‹P.underlying t = _›, goInt, getObj, Sem.run, hh, hl2], .int _ _⟩
    · cases hes
  · cases hl

def hmin2 : Value → Value → Option Value
  | .int k x, .int _ y => some (.int k (if y < x then y else x))
  | _, _ => none
def hmax2 : Value → Value → Option Value
  | .int k x, .int _ y => some (.int k (if y > x then y else x))
  | _, _ => none
def hfold (f : Value → Value → Option Value) : Value → List Value → Option Value
  | x, [] => some x
  | x, y :: ys => (f x y).bind fun z => hfold f z ys

theorem hmin2_flat {x y v x' y' : Value} (h : hmin2 x y = some v) (hx : VRel μ x x') (hy : VRel μ y y') : (Builtin.min2 x' y').run P w = .ok v w ∧ VRel μ v v := by
  unfold hmin2 at h
  split at h
  · cases h; cases hx; cases hy; exact ⟨by simp [Builtin.min2], .int _ _⟩
  · cases h
theorem hmax2_flat {x y v x' y' : Value} (h : hmax2 x y = some v) (hx : VRel μ x x') (hy : VRel μ y y') : (Builtin.max2 x' y').run P w = .ok v w ∧ VRel μ v v := by
  unfold hmax2 at h
  split at h
  · cases h; cases hx; cases hy; exact ⟨by simp [Builtin.max2], .int _ _⟩
  · cases h

theorem fold_of {f : Value → Value → Option Value} {g : Value → Value → Sem Value} (hfg : ∀ x y v x' y', f x y = some v → VRel μ x x' → VRel μ y y' → (g x' y').run P w = .ok v w ∧ VRel μ v v) :
    ∀ (ys ys' : List Value) (x x' v : Value), VRels μ ys ys' → VRel μ x x' → hfold f x ys = some v → ∃ v', (ys'.foldlM g x').run P w = .ok v' w ∧ VRel μ v v'
  | _, _, x, x', v, .nil, hx, h => by simp [hfold] at h; subst h; exact ⟨x', rfl, hx⟩
  | _, _, x, x', v, .cons y y' ys ys' hy hs, hx, h => by
    simp only [hfold, Option.bind_eq_some_iff] at h
    obtain ⟨z, hz, h⟩ := h
    obtain ⟨h1, h2⟩ := hfg x y z x' y' hz hx hy
    obtain ⟨v', h3, h4⟩ := fold_of hfg ys ys' z z v hs h2 h
    exact ⟨v', by simp [List.foldlM, h1, h3], h4⟩

def hconvert (P : Program) (s d : TypeId) (x : Value) : Option Value :=
  match P.underlying s, P.underlying d, x with
  | some (.int _), some (.int k), .int _ n => some (.int k (k.wrap n))
  | some .string, some .string, .string s => some (.string s)
  | some (.int _), some .string, .int _ n => some (.string (Utf8.encode n))
  | _, _, _ => none

theorem sim_convert {s d : TypeId} {x x' v : Value} (hl : hconvert P s d x = some v) (hx : VRel μ x x') : (convert s d x').run P w = .ok v w ∧ VRel μ v v := by
  unfold hconvert at hl
  split at hl
  · rename_i hs hd; cases hl; cases hx
    exact ⟨by simp [convert, run_underlying hs, run_underlying hd, Conv.intToInt], .int _ _⟩
  · rename_i hs hd; cases hl; cases hx
    exact ⟨by simp [convert, run_underlying hs, run_underlying hd], .string _⟩
  · rename_i hs hd; cases hl; cases hx
    exact ⟨by simp [convert, run_underlying hs, run_underlying hd, Conv.intToString], .string _⟩
  · cases hl

/-- Operands of a row, all there. -/
def hevs (fr : HFrame) : List Operand → Option (List Value)
  | [] => some []
  | x :: xs => (hev fr x).bind fun v => (hevs fr xs).map fun vs => v :: vs

theorem hevs_rel {fr : HFrame} {a : Act} (h : FRel μ fr a) : ∀ (xs : List Operand) (vs : List Value), hevs fr xs = some vs → VRels μ vs (xs.map a.eval)
  | [], vs, e => by simp [hevs] at e; subst e; exact .nil
  | x :: xs, vs, e => by
    simp only [hevs, Option.bind_eq_some_iff, Option.map_eq_some_iff] at e
    obtain ⟨v, hv, vs', hvs, e⟩ := e
    subst e
    exact .cons _ _ _ _ (hev_rel h hv) (hevs_rel h xs vs' hvs)

def hparts (fr : HFrame) : List (Nat × Operand) → Option (List (Nat × Value))
  | [] => some []
  | (i, x) :: xs => (hev fr x).bind fun v => (hparts fr xs).map fun vs => (i, v) :: vs

theorem hparts_rel {fr : HFrame} {a : Act} (h : FRel μ fr a) : ∀ (xs : List (Nat × Operand)) (vs : List (Nat × Value)), hparts fr xs = some vs → PRels μ vs (xs.map fun (i, x) => (i, a.eval x))
  | [], vs, e => by simp [hparts] at e; subst e; exact .nil
  | (i, x) :: xs, vs, e => by
    simp only [hparts, Option.bind_eq_some_iff, Option.map_eq_some_iff] at e
    obtain ⟨v, hv, vs', hvs, e⟩ := e
    subst e
    exact .cons _ _ _ _ _ (hev_rel h hv) (hparts_rel h xs vs' hvs)

/-- An operand that may be missing. -/
def hopt (fr : HFrame) : Option Operand → Option (Option Value)
  | none => some none
  | some x => match hev fr x with
    | some (.int k n) => some (some (.int k n))
    | _ => none

theorem hopt_rel {fr : HFrame} {a : Act} (h : FRel μ fr a) {x : Option Operand} {v : Option Value} (e : hopt fr x = some v) : x.map a.eval = v := by
  cases x with
  | none => simp [hopt] at e; subst e; rfl
  | some x =>
    simp only [hopt] at e
    split at e <;> cases e
    rename_i k n hv
    have hr := hev_rel h hv
    have : a.eval x = .int k n := by generalize a.eval x = z at hr; cases hr; rfl
    simp [this]

def hbuiltin (P : Program) (H : HHeap) (b : Builtin) (ts : List TypeId) (vs : List Value) : Option (Value × HHeap) :=
  match b, ts, vs with
  | .len, [t], [x] => (hlen P H t x).map fun v => (v, H)
  | .append, [t, u], [s, x] => happend P H t u s x
  | .copy, [t, _], [d, x] => hcopy P H t d x
  | .min, _, x :: xs => (hfold hmin2 x xs).map fun v => (v, H)
  | .max, _, x :: xs => (hfold hmax2 x xs).map fun v => (v, H)
  | _, _, _ => none

/-- AN OPERATION that is no call of a function: its value, and the heap behind it. -/
def hop (P : Program) (fr : HFrame) (H : HHeap) (op : Op) : Option (Value × HHeap) :=
  match op with
  | .move x | .assign x => (hev fr x).map fun v => (v, H)
  | .pick c a b => match hev fr c with
    | some (.bool true) => (hev fr a).map fun v => (v, H)
    | some (.bool false) => (hev fr b).map fun v => (v, H)
    | _ => none
  | .alloc t => halloc P H t
  | .box _ x => (hev fr x).bind fun v => hbox H v
  | .build t ps => (hparts fr ps.toList).bind fun vs => (hbuild P t vs).map fun v => (v, H)
  | .buildSlice t n ps => (hparts fr ps.toList).bind fun vs => hbuildSlice P H t n vs
  | .load t a => (hev fr a).bind fun p => (hload P H t p).map fun v => (v, H)
  | .store t a x => (hev fr a).bind fun p => (hev fr x).bind fun v => (hstore P H t p v).map fun H' => (undef, H')
  | .nilCheck x => match hev fr x with
    | some (.pointer (some a)) => some (.pointer (some a), H)
    | some (.func (.func f) a b) => some (.func (.func f) a b, H)
    | _ => none
  | .binOp op t x y _ => (hev fr x).bind fun a => (hev fr y).bind fun b => (hbin P op t a b).map fun v => (v, H)
  | .unOp op _ x => (hev fr x).bind fun a => (hunary op a).map fun v => (v, H)
  | .convert s d x => (hev fr x).bind fun a => (hconvert P s d a).map fun v => (v, H)
  | .makeInterface t x => if kindOf P t = 5 then none else if (P.underlying t).isSome then (hev fr x).map fun v => (.iface t v, H) else none
  | .makeFunc fn first captured => if first.size = 0 then (hevs fr captured.toList).map fun vs => (.func fn #[] vs.toArray, H) else none
  | .makeMap _ none => some (.map (some H.next), H.push (.map []))
  | .makeSlice t l c => match hev fr l, hev fr c with
    | some (.int k l), some (.int k' c) => hmakeSlice P H t (.int k l) (.int k' c)
    | _, _ => none
  | .slice t x lo hi mx => (hev fr x).bind fun v => (hopt fr lo).bind fun lo => (hopt fr hi).bind fun hi => (hopt fr mx).bind fun mx => (hslice P t v lo hi mx).map fun v => (v, H)
  | .fieldAddr s x f => (hev fr x).bind fun p => (hfieldAt P s p f).map fun v => (v, H)
  | .field t x f => (hev fr x).bind fun p => (hfield P t p f).map fun v => (v, H)
  | .indexAddr t x i => (hev fr x).bind fun p => match hev fr i with
    | some (.int k n) => (hindexAt P t p (.int k n)).map fun v => (v, H)
    | _ => none
  | .index t x i => (hev fr x).bind fun p => match hev fr i with
    | some (.int k n) => (hindex P t p (.int k n)).map fun v => (v, H)
    | _ => none
  | .lookup t m k ok => (hev fr m).bind fun p => (hev fr k).bind fun k => (hlookup P H t p k ok).map fun v => (v, H)
  | .mapUpdate t m k x | .insert t m k x => (hev fr m).bind fun p => (hev fr k).bind fun k => (hev fr x).bind fun x => (hmapUpdate P H t p k x).map fun H' => (undef, H')
  | .extract t i => match hev fr t with
    | some (.tuple vs) => (vs.toList[i]?).map fun v => (v, H)
    | _ => none
  | .call { callee := .builtin b, args, argTypes } => (hevs fr args.toList).bind fun vs => hbuiltin P H b argTypes.toList vs
  | _ => none

/-- What the model's operation comes to: a value that meets it, or, of a store, none. -/
def OpMeets (P : Program) (B : Nat) (μ : Mu) (H : HHeap) (w : World) (r : Result Next) (v : Value) (H' : HHeap) : Prop :=
  ∃ μ' w' v', Step B μ H w μ' H' w' ∧ VRel μ' v v' ∧ (r = .ok (.value v') w' ∨ (r = .ok .skip w' ∧ v' = undef))

theorem hlookup_key {m k v : Value} {t : TypeId} {ok : Bool} (hl : hlookup P H t m k ok = some v) : flat1 k = true := by
  unfold hlookup at hl
  split at hl
  · simp only [Option.bind_eq_some_iff] at hl
    obtain ⟨es, _, hl⟩ := hl
    split at hl
    · exact plainKey_flat (by rename_i h; exact h.1)
    · cases hl
  · cases hl

theorem hmapUpdate_key {m k x : Value} {t : TypeId} {H' : HHeap} (hl : hmapUpdate P H t m k x = some H') : flat1 k = true := by
  unfold hmapUpdate at hl
  split at hl
  · split at hl
    · split at hl
      · exact plainKey_flat (by rename_i h; exact h.1)
      · cases hl
    · cases hl
  · cases hl

theorem sim_hop (h : Rel B μ H w) {fr : HFrame} {a : Act} (hf : FRel μ fr a) {o : Oper} {v : Value} {H' : HHeap} (hl : hop P fr H o.op = some (v, H')) :
    OpMeets P B μ H w ((execOp a.eval o).run P w) v H' := by
  have pureV : ∀ {u : Value} {s : Sem Value}, (∃ u', s.run P w = .ok u' w ∧ VRel μ u u') → (v, H') = (u, H) → (execOp a.eval o).run P w = ((do pure (.value (← s)) : Sem Next).run P w) → OpMeets P B μ H w ((execOp a.eval o).run P w) v H' := by
    intro u s ⟨u', h1, h2⟩ he hx
    cases he
    exact ⟨μ, w, u', Step.refl h, h2, .inl (by rw [hx]; simp [h1])⟩
  unfold hop at hl
  split at hl
  · -- move
    rename_i x ho
    simp only [Option.map_eq_some_iff] at hl
    obtain ⟨u, hu, hl⟩ := hl
    cases hl
    exact ⟨μ, w, _, Step.refl h, hev_rel hf hu, .inl (by simp [execOp, ho])⟩
  · rename_i x ho
    simp only [Option.map_eq_some_iff] at hl
    obtain ⟨u, hu, hl⟩ := hl
    cases hl
    exact ⟨μ, w, _, Step.refl h, hev_rel hf hu, .inl (by simp [execOp, ho])⟩
  · -- pick
    rename_i c x y ho
    split at hl
    · rename_i hc
      simp only [Option.map_eq_some_iff] at hl
      obtain ⟨u, hu, hl⟩ := hl
      cases hl
      have hcr := hev_rel hf hc
      have : a.eval c = .bool true := by generalize a.eval c = z at hcr; cases hcr; rfl
      exact ⟨μ, w, _, Step.refl h, hev_rel hf hu, .inl (by simp [execOp, ho, this, asBool])⟩
    · rename_i hc
      simp only [Option.map_eq_some_iff] at hl
      obtain ⟨u, hu, hl⟩ := hl
      cases hl
      have hcr := hev_rel hf hc
      have : a.eval c = .bool false := by generalize a.eval c = z at hcr; cases hcr; rfl
      exact ⟨μ, w, _, Step.refl h, hev_rel hf hu, .inl (by simp [execOp, ho, this, asBool])⟩
    · cases hl
  · -- alloc
    rename_i t ho
    obtain ⟨μ', w', v', r1, r2, r3⟩ := sim_alloc h hl
    exact ⟨μ', w', v', r2, r3, .inl (by simp [execOp, ho, r1])⟩
  · -- box
    rename_i t x ho
    simp only [Option.bind_eq_some_iff] at hl
    obtain ⟨u, hu, hl⟩ := hl
    obtain ⟨μ', w', v', r1, r2, r3⟩ := sim_box (P := P) h t hl (hev_rel hf hu)
    exact ⟨μ', w', v', r2, r3, .inl (by simp [execOp, ho, r1])⟩
  · -- build
    rename_i t ps ho
    simp only [Option.bind_eq_some_iff, Option.map_eq_some_iff] at hl
    obtain ⟨vs, hvs, u, hu, hl⟩ := hl
    obtain ⟨v', h1, h2⟩ := sim_build (P := P) (w := w) hu (hparts_rel hf _ _ hvs)
    refine pureV (u := u) ⟨v', h1, h2⟩ hl.symm ?_
    rw [List.map_toArray.symm]; simp [execOp, ho]
  · -- buildSlice
    rename_i t n ps ho
    simp only [Option.bind_eq_some_iff] at hl
    obtain ⟨vs, hvs, hl⟩ := hl
    obtain ⟨μ', w', v', r1, r2, r3⟩ := sim_buildSlice (P := P) h hl (hparts_rel hf _ _ hvs)
    refine ⟨μ', w', v', r2, r3, .inl ?_⟩
    have : (ps.map fun (i, x) => (i, a.eval x)) = (ps.toList.map fun (i, x) => (i, a.eval x)).toArray := by apply Array.ext'; simp
    simp [execOp, ho, this, r1]
  · -- load
    rename_i t x ho
    simp only [Option.bind_eq_some_iff, Option.map_eq_some_iff] at hl
    obtain ⟨p, hp, u, hu, hl⟩ := hl
    exact pureV (sim_load h hu (hev_rel hf hp)) hl.symm (by simp [execOp, ho])
  · -- store
    rename_i t x y ho
    simp only [Option.bind_eq_some_iff, Option.map_eq_some_iff] at hl
    obtain ⟨p, hp, u, hu, H2, hs, hl⟩ := hl
    cases hl
    obtain ⟨w', r1, r2⟩ := sim_store (P := P) h hs (hev_rel hf hp) (hev_rel hf hu)
    exact ⟨μ, w', undef, r2, .of_flat rfl, .inr ⟨by simp [execOp, ho, r1], rfl⟩⟩
  · -- nilCheck
    rename_i x ho
    split at hl
    · rename_i ad hx
      cases hl
      have hr := hev_rel hf hx
      refine ⟨μ, w, _, Step.refl h, hr, .inl ?_⟩
      have : ∃ ad', a.eval x = .pointer (some ad') := by generalize a.eval x = z at hr; cases hr; exact ⟨_, rfl⟩
      obtain ⟨ad', hz⟩ := this
      simp [execOp, ho, hz]
    · rename_i f c1 c2 hx
      cases hl
      have hr := hev_rel hf hx
      refine ⟨μ, w, _, Step.refl h, hr, .inl ?_⟩
      have : ∃ d1 d2, a.eval x = .func (.func f) d1 d2 := by generalize a.eval x = z at hr; cases hr; exact ⟨_, _, rfl⟩
      obtain ⟨d1, d2, hz⟩ := this
      simp [execOp, ho, hz]
    · cases hl
  · -- binOp
    rename_i op t x y t2 ho
    simp only [Option.bind_eq_some_iff, Option.map_eq_some_iff] at hl
    obtain ⟨p, hp, q, hq, u, hu, hl⟩ := hl
    obtain ⟨h1, h2⟩ := sim_bin (P := P) (w := w) x y hu (hev_rel hf hp) (hev_rel hf hq)
    exact pureV ⟨u, h1, h2⟩ hl.symm (by simp only [execOp, ho])
  · -- unOp
    rename_i op t x ho
    simp only [Option.bind_eq_some_iff, Option.map_eq_some_iff] at hl
    obtain ⟨p, hp, u, hu, hl⟩ := hl
    obtain ⟨h1, h2⟩ := sim_unary (P := P) (w := w) hu (hev_rel hf hp)
    exact pureV ⟨u, h1, h2⟩ hl.symm (by simp [execOp, ho])
  · -- convert
    rename_i s d x ho
    simp only [Option.bind_eq_some_iff, Option.map_eq_some_iff] at hl
    obtain ⟨p, hp, u, hu, hl⟩ := hl
    obtain ⟨h1, h2⟩ := sim_convert (P := P) (w := w) hu (hev_rel hf hp)
    exact pureV ⟨u, h1, h2⟩ hl.symm (by simp [execOp, ho])
  · -- makeInterface
    rename_i t x ho
    split at hl
    · cases hl
    split at hl
    · rename_i hk hs
      simp only [Option.map_eq_some_iff] at hl
      obtain ⟨u, hu, hl⟩ := hl
      have hc : P.concrete t = true := by
        unfold Program.concrete
        unfold kindOf at hk
        cases hd : P.underlying t with
        | none => simp [hd] at hs
        | some d => cases d <;> simp [hd] at hk ⊢
      exact pureV ⟨_, run_makeInterface w t (a.eval x) hc, .iface t _ _ (hev_rel hf hu)⟩ hl.symm (by simp [execOp, ho])
    · cases hl
  · -- makeFunc
    rename_i fn first captured ho
    split at hl
    · rename_i hz
      simp only [Option.map_eq_some_iff] at hl
      obtain ⟨vs, hvs, hl⟩ := hl
      have hr := hevs_rel hf _ _ hvs
      have h0 : first = #[] := by simpa using hz
      refine pureV (s := Instr.makeFunc fn (first.map a.eval) (captured.map a.eval)) ⟨.func fn #[] (captured.toList.map a.eval).toArray, ?_, .func fn vs _ hr⟩ hl.symm (by simp [execOp, ho])
      have hca : captured.map a.eval = (captured.toList.map a.eval).toArray := by apply Array.ext'; simp
      simp [Instr.makeFunc, h0, hca]
    · cases hl
  · -- makeMap
    rename_i t ho
    cases hl
    have s := h.allocMap
    refine ⟨_, _, .map (some w.heap.size), s, .map _ ⟨w.heap.size, 0, 0⟩ (by simp [Mu.add]), .inl ?_⟩
    simp [execOp, ho, Instr.makeMap]
  · -- makeSlice
    rename_i t l c ho
    split at hl
    · rename_i k l' k' c' h1 h2
      have hl1 := hev_rel hf h1
      have hc1 := hev_rel hf h2
      have e1 : a.eval l = .int k l' := by generalize a.eval l = z at hl1; cases hl1; rfl
      have e2 : a.eval c = .int k' c' := by generalize a.eval c = z at hc1; cases hc1; rfl
      obtain ⟨μ', w', v', r1, r2, r3⟩ := sim_makeSlice (P := P) h hl
      exact ⟨μ', w', v', r2, r3, .inl (by simp [execOp, ho, e1, e2, r1])⟩
    · cases hl
  · -- slice
    rename_i t x lo hi mx ho
    simp only [Option.bind_eq_some_iff, Option.map_eq_some_iff] at hl
    obtain ⟨p, hp, lo', hlo, hi', hhi, mx', hmx, u, hu, hl⟩ := hl
    have e1 := hopt_rel hf hlo
    have e2 := hopt_rel hf hhi
    have e3 := hopt_rel hf hmx
    exact pureV (sim_slice (P := P) (w := w) hu (hev_rel hf hp)) hl.symm (by simp [execOp, ho, e1, e2, e3])
  · -- fieldAddr
    rename_i s x f ho
    simp only [Option.bind_eq_some_iff, Option.map_eq_some_iff] at hl
    obtain ⟨p, hp, u, hu, hl⟩ := hl
    exact pureV (sim_fieldAt (P := P) (w := w) hu (hev_rel hf hp)) hl.symm (by simp [execOp, ho])
  · -- field
    rename_i s x f ho
    simp only [Option.bind_eq_some_iff, Option.map_eq_some_iff] at hl
    obtain ⟨p, hp, u, hu, hl⟩ := hl
    exact pureV (sim_field (P := P) (w := w) hu (hev_rel hf hp)) hl.symm (by simp [execOp, ho])
  · -- indexAddr
    rename_i t x i ho
    simp only [Option.bind_eq_some_iff] at hl
    obtain ⟨p, hp, hl⟩ := hl
    split at hl
    · rename_i k n hi
      simp only [Option.map_eq_some_iff] at hl
      obtain ⟨u, hu, hl⟩ := hl
      have hi1 := hev_rel hf hi
      have e1 : a.eval i = .int k n := by generalize a.eval i = z at hi1; cases hi1; rfl
      exact pureV (sim_indexAt (P := P) (w := w) hu (hev_rel hf hp)) hl.symm (by simp [execOp, ho, e1])
    · cases hl
  · -- index
    rename_i t x i ho
    simp only [Option.bind_eq_some_iff] at hl
    obtain ⟨p, hp, hl⟩ := hl
    split at hl
    · rename_i k n hi
      simp only [Option.map_eq_some_iff] at hl
      obtain ⟨u, hu, hl⟩ := hl
      have hi1 := hev_rel hf hi
      have e1 : a.eval i = .int k n := by generalize a.eval i = z at hi1; cases hi1; rfl
      exact pureV (sim_index (P := P) (w := w) hu (hev_rel hf hp)) hl.symm (by simp [execOp, ho, e1])
    · cases hl
  · -- lookup
    rename_i t m k ok ho
    simp only [Option.bind_eq_some_iff, Option.map_eq_some_iff] at hl
    obtain ⟨p, hp, k', hk, u, hu, hl⟩ := hl
    have hk1 := (hev_rel hf hk).flat1_eq (hlookup_key hu)
    exact pureV (sim_lookup (P := P) h hu (hev_rel hf hp)) hl.symm (by simp [execOp, ho, hk1])
  · -- mapUpdate
    rename_i t m k x ho
    simp only [Option.bind_eq_some_iff, Option.map_eq_some_iff] at hl
    obtain ⟨p, hp, k', hk, x', hx, H2, hu, hl⟩ := hl
    cases hl
    have hk1 := (hev_rel hf hk).flat1_eq (hmapUpdate_key hu)
    obtain ⟨w', r1, r2⟩ := sim_mapUpdate (P := P) h hu (hev_rel hf hp) (hev_rel hf hx)
    exact ⟨μ, w', undef, r2, .of_flat rfl, .inr ⟨by simp [execOp, ho, hk1, r1], rfl⟩⟩
  · rename_i t m k x ho
    simp only [Option.bind_eq_some_iff, Option.map_eq_some_iff] at hl
    obtain ⟨p, hp, k', hk, x', hx, H2, hu, hl⟩ := hl
    cases hl
    have hk1 := (hev_rel hf hk).flat1_eq (hmapUpdate_key hu)
    obtain ⟨w', r1, r2⟩ := sim_mapUpdate (P := P) h hu (hev_rel hf hp) (hev_rel hf hx)
    exact ⟨μ, w', undef, r2, .of_flat rfl, .inr ⟨by simp [execOp, ho, hk1, r1], rfl⟩⟩
  · -- extract
    rename_i t i ho
    split at hl
    · rename_i vs ht
      simp only [Option.map_eq_some_iff] at hl
      obtain ⟨u, hu, hl⟩ := hl
      have hr := hev_rel hf ht
      generalize hz : a.eval t = z at hr
      cases hr with
      | tuple cs cs' hc =>
      obtain ⟨u', h1, h2⟩ := hc.get i u (by simpa using hu)
      exact pureV (s := Instr.extract (.tuple cs'.toArray) i) ⟨u', by simp [Instr.extract, h1], h2⟩ hl.symm (by simp [execOp, ho, hz])
    · cases hl
  · -- builtins
    rename_i b args ts ho
    simp only [Option.bind_eq_some_iff] at hl
    obtain ⟨vs, hvs, hl⟩ := hl
    have hr := hevs_rel hf _ _ hvs
    have hargs : args.map a.eval = (args.toList.map a.eval).toArray := by apply Array.ext'; simp
    generalize args.toList.map a.eval = vs' at hr hargs
    unfold hbuiltin at hl
    split at hl
    · rename_i t x hts
      simp only [Option.map_eq_some_iff] at hl
      obtain ⟨u, hu, hl⟩ := hl
      have ht0 : ts[0]? = some t := by rw [← Array.getElem?_toList, hts]; rfl
      cases hr with
      | cons _ x' _ _ hx hn => cases hn with
        | nil =>
        obtain ⟨h1, h2⟩ := sim_len (P := P) (ty := o.type) h ht0 hu hx
        exact pureV ⟨u, h1, h2⟩ hl.symm (by simp [execOp, ho, resolve, invoke, builtin, hargs])
    · rename_i t u' s x hts
      have hta : ts = #[t, u'] := by apply Array.ext'; exact hts
      cases hr with
      | cons _ s' _ _ hs hn => cases hn with
        | cons _ x' _ _ hx hn => cases hn with
          | nil =>
          obtain ⟨μ', w', v', r1, r2, r3⟩ := sim_append (P := P) (ty := o.type) h hl hs hx
          exact ⟨μ', w', v', r2, r3, .inl (by simp [execOp, ho, resolve, invoke, builtin, hargs, hta, r1])⟩
    · rename_i t u' d x hts
      have hta : ts[0]? = some t := by rw [← Array.getElem?_toList, hts]; rfl
      cases hr with
      | cons _ d' _ _ hd hn => cases hn with
        | cons _ x' _ _ hx hn => cases hn with
          | nil =>
          obtain ⟨μ', w', v', r1, r2, r3⟩ := sim_copy (P := P) (ty := o.type) h hta hl hd hx
          exact ⟨μ', w', v', r2, r3, .inl (by simp [execOp, ho, resolve, invoke, builtin, hargs, r1])⟩
    · rename_i x xs
      simp only [Option.map_eq_some_iff] at hl
      obtain ⟨u, hu, hl⟩ := hl
      cases hr with
      | cons _ x' _ xs' hx hn =>
        obtain ⟨v', r1, r2⟩ := fold_of (P := P) (w := w) (fun x y v x' y' => hmin2_flat) xs xs' x x' u hn hx hu
        exact pureV ⟨v', r1, r2⟩ hl.symm (by simp [execOp, ho, resolve, invoke, builtin, hargs, Builtin.min_])
    · rename_i x xs
      simp only [Option.map_eq_some_iff] at hl
      obtain ⟨u, hu, hl⟩ := hl
      cases hr with
      | cons _ x' _ xs' hx hn =>
        obtain ⟨v', r1, r2⟩ := fold_of (P := P) (w := w) (fun x y v x' y' => hmax2_flat) xs xs' x x' u hn hx hu
        exact pureV ⟨v', r1, r2⟩ hl.symm (by simp [execOp, ho, resolve, invoke, builtin, hargs, Builtin.max_])
    · cases hl
  · cases hl

end Go.HL
