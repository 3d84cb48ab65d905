/-
  What is kept of a row of things, as an arena: plain Lean.
-/
import Derived.Test.YtkflilieljojfaaA8
namespace Go.HL

theorem outT_chain {n k : Nat} {c : Bool} (hk : k < n) : outT (chT n c) (seqI n k (wantN n k c)) = (List.range (wantN n k c)).map fun j => ⟨1, [rnd n k j * 8, keptW n k c j]⟩ := by
  unfold outT
  conv => lhs; unfold seqI
  rw [List.map_map]
  apply List.map_congr_left
  intro j hj
  have hj' : j < wantN n k c := by simpa using hj
  have hwn := want_le (n := n) (k := k) (c := c)
  have hr := rnd_lt hk (show j < n by omega)
  show fullThing _ _ _ = _
  unfold fullThing
  rw [chainT_get hr]
  simp only [List.map_cons, List.map_nil]
  have h1 : tr (chT n c) (seqI n k (wantN n k c)) (rnd n k j * 8) = rnd n k j * 8 := by
    unfold tr; rw [findI_off (by omega)]; simp only; rw [if_neg (by omega)]
  have h2 := tr_chain (c := c) hk hj'
  unfold seqI at h1 h2
  rw [h1, h2]
/-- What is at the j-th of those that are kept. -/
def keptT (n k : Nat) (c : Bool) : Things := (List.range (wantN n k c)).map fun j => ⟨1, [rnd n k j * 8, keptW n k c j]⟩
theorem keptT_len (n k : Nat) (c : Bool) : (keptT n k c).length = wantN n k c := by simp [keptT]
theorem keptT_get {n k j : Nat} {c : Bool} (hj : j < wantN n k c) : (keptT n k c)[j]? = some ⟨1, [rnd n k j * 8, keptW n k c j]⟩ := by simp [keptT, hj]
theorem usedOf_three : ∀ (T : Things), (∀ t ∈ T, t.room = 3) → usedOf T = 3 * T.length
  | [], _ => rfl
  | t :: T, h => by rw [usedOf, usedOf_three T (fun x hx => h x (by simp [hx])), h t (by simp), List.length_cons]; omega
theorem keptT_used (n k : Nat) (c : Bool) : usedOf (keptT n k c) = 3 * wantN n k c := by
  rw [usedOf_three _ (fun t ht => ?_), keptT_len]
  obtain ⟨j, _, rfl⟩ := List.mem_map.1 ht
  rfl
theorem keptT_find {n k j : Nat} {c : Bool} (hj : j < wantN n k c) : findT (keptT n k c) (wordAt (3 * j)) = some ⟨1, [rnd n k j * 8, keptW n k c j]⟩ := by
  have hp : placeOf (keptT n k c) j = 3 * j := by
    unfold placeOf
    rw [usedOf_three _ (fun t ht => ?_), List.length_take, keptT_len, Nat.min_eq_left (by omega)]
    obtain ⟨i, _, rfl⟩ := List.mem_map.1 (List.mem_of_mem_take ht)
    rfl
  have := word_findI (T := keptT n k c) (i := j) (by rw [keptT_len]; exact hj)
  rw [hp] at this
  rw [findT_findI, this, Option.bind_some, keptT_get hj]
end Go.HL
