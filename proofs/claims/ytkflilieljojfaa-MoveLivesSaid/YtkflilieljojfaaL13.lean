/-
  Joined: E3.
-/
import Derived.Test.YtkflilieljojfaaL12
/-
  Maps from words to words.
-/
namespace Go.HL
open Go.RowKit

variable {P : Program} {H : HHeap}

def mapUU (m : List (Nat × Nat)) : List (Value × Value) := m.map fun p => (U p.1, U p.2)

theorem mapUU_plain {kt : TypeId} (hk : P.underlying kt = some (.int .u64)) (m : List (Nat × Nat)) : (mapUU m).all (fun e => plainKey P kt e.1) = true := by
  rw [List.all_eq_true]; intro e he
  obtain ⟨p, _, rfl⟩ := List.mem_map.1 he
  simp [plainKey, hk]
theorem keyEq_u (w k : Nat) : keyEq (U w) (U k) = decide (w = k) := by
  show ((w : Int) == (k : Int)) = decide (w = k)
  by_cases h : w = k
  · simp [h]
  · have : (w : Int) ≠ k := by omega
    simp [h, this]
theorem hfind_cons (w k : Nat) (v : Value) (es : List (Value × Value)) : hfind (U w) ((U k, v) :: es) = if w = k then some (0, v) else (hfind (U w) es).map fun r => (r.1 + 1, r.2) := by
  rw [hfind, keyEq_u]; by_cases h : w = k <;> simp [h]
theorem hfind_some : ∀ (m : List (Nat × Nat)) (w v : Nat), m.lookup w = some v → ∃ j, hfind (U w) (mapUU m) = some (j, U v)
  | [], w, v, h => by simp at h
  | (k, x) :: m, w, v, h => by
    simp only [mapUU, List.map_cons]
    rw [List.lookup_cons] at h
    by_cases hk : w = k
    · subst hk; simp only [beq_self_eq_true] at h
      cases h; exact ⟨0, by rw [hfind_cons, if_pos rfl]⟩
    · have h1 : (w == k) = false := by simp [hk]
      rw [h1] at h; simp only at h
      obtain ⟨j, hj⟩ := hfind_some m w v h
      refine ⟨j + 1, ?_⟩
      unfold mapUU at hj
      rw [hfind_cons, if_neg hk, hj]; rfl
theorem hfind_none : ∀ (m : List (Nat × Nat)) (w : Nat), m.lookup w = none → hfind (U w) (mapUU m) = none
  | [], w, h => rfl
  | (k, x) :: m, w, h => by
    simp only [mapUU, List.map_cons]
    rw [List.lookup_cons] at h
    by_cases hk : w = k
    · subst hk; simp at h
    · have h1 : (w == k) = false := by simp [hk]
      rw [h1] at h; simp only at h
      have := hfind_none m w h
      unfold mapUU at this
      rw [hfind_cons, if_neg hk, this]; rfl

theorem x_lookup_some {t kt et : TypeId} (hu : P.underlying t = some (.map kt et)) (hk : P.underlying kt = some (.int .u64)) {b : Nat} {m : List (Nat × Nat)} (hg : H.get b = some (.map (mapUU m))) {w v : Nat} (hl : m.lookup w = some v) :
    hlookup P H t (.map (some b)) (.int .u64 (w : Int)) true = some (.tuple #[.int .u64 (v : Int), .bool true]) := by
  obtain ⟨j, hj⟩ := hfind_some m w v hl
  unfold hlookup
  simp only [hu, hentries, hg, Option.bind_some]
  rw [if_pos ⟨by simp [plainKey, hk], mapUU_plain hk m⟩, hj]; rfl
theorem x_lookup_none {t kt et : TypeId} (hu : P.underlying t = some (.map kt et)) (hk : P.underlying kt = some (.int .u64)) {z : Value} (hz : hzero P et = some z) {b : Nat} {m : List (Nat × Nat)} (hg : H.get b = some (.map (mapUU m))) {w : Nat} (hl : m.lookup w = none) :
    hlookup P H t (.map (some b)) (.int .u64 (w : Int)) true = some (.tuple #[z, .bool false]) := by
  unfold hlookup
  simp only [hu, hentries, hg, Option.bind_some]
  rw [if_pos ⟨by simp [plainKey, hk], mapUU_plain hk m⟩, hfind_none m w hl]
  simp [hz]
theorem x_update_new {t kt et : TypeId} (hu : P.underlying t = some (.map kt et)) (hk : P.underlying kt = some (.int .u64)) {b : Nat} {m : List (Nat × Nat)} (hg : H.get b = some (.map (mapUU m))) {w : Nat} (hl : m.lookup w = none) (v : Nat) :
    hmapUpdate P H t (.map (some b)) (.int .u64 (w : Int)) (.int .u64 (v : Int)) = some (H.set b (.map (mapUU (m ++ [(w, v)])))) := by
  unfold hmapUpdate
  simp only [hu, hg]
  rw [if_pos ⟨by simp [plainKey, hk], mapUU_plain hk m⟩, hfind_none m w hl]
  simp [mapUU]
def mpu (H : HHeap) (b w v : Nat) (o : Option HObj) : Option HHeap :=
  match o with
  | some (.map es) => match hfind (U w) es with
    | some (j, _) => some (H.set b (.map (es.set j (U w, U v))))
    | none => some (H.set b (.map (es ++ [(U w, U v)])))
  | _ => none
theorem mpu_new {b w v : Nat} {m : List (Nat × Nat)} (hl : m.lookup w = none) : mpu H b w v (some (.map (mapUU m))) = some (H.set b (.map (mapUU (m ++ [(w, v)])))) := by
  unfold mpu; simp only; rw [hfind_none m w hl]; simp [mapUU]
theorem apo_grow1 (b len m : Nat) (vs cs : List Value) (h : 0 < m) (hl : cs.length = len) :
    apo H 1 b 0 (some 2) len len m vs (some (.cells cs true)) = some (.slice (some ⟨H.next, 0, some 2⟩) (len + m) (len + m), (H.kill b).push (.cells (cs ++ vs) true)) :=
  apo_grow 1 b len m vs cs (by omega) h (by omega)
end Go.HL
