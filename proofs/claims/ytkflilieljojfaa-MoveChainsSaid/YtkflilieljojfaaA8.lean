/-
  What is kept of a row of things: plain Lean.
-/
import Derived.Test.YtkflilieljojfaaA7
namespace Go.HL

theorem chT_room {n : Nat} {c : Bool} {i : Nat} (h : i < n) : roomI (chT n c) i = 3 := by unfold roomI; rw [chainT_get h]; rfl
theorem chT_sum {n : Nat} {c : Bool} : ∀ (l : List Nat), (∀ x ∈ l, x < n) → sumR (chT n c) l = 3 * l.length
  | [], _ => rfl
  | x :: l, h => by
    have := chT_sum (n := n) (c := c) l (fun y hy => h y (by simp [hy]))
    unfold sumR at this ⊢
    rw [List.map_cons, List.sum_cons, this, chT_room (h x (by simp)), List.length_cons]; omega
theorem seqI_lt {n k m : Nat} (hk : k < n) (hm : m ≤ n) : ∀ x ∈ seqI n k m, x < n := by
  intro x hx
  obtain ⟨j, hj, rfl⟩ := List.mem_map.1 hx
  exact rnd_lt hk (by have : j < m := by simpa using hj
                      omega)
theorem want_le {n k : Nat} {c : Bool} : wantN n k c ≤ n := by unfold wantN; split <;> omega
theorem want_pos {n k : Nat} {c : Bool} (hk : k < n) : 0 < wantN n k c := by unfold wantN; split <;> omega
theorem reach_chain {n k : Nat} {c : Bool} (hk : k < n) : sumR (chT n c) (bfs (chT n c) [wordAt (3 * k)]) = 3 * wantN n k c := by
  rw [bfs_chain hk, chT_sum _ (seqI_lt hk want_le), seqI_length]
theorem place_chain {n k j : Nat} {c : Bool} (hk : k < n) (hj : j < wantN n k c) : placeIn (chT n c) (seqI n k (wantN n k c)) (rnd n k j) = 3 * j := by
  have hnd : (seqI n k (wantN n k c)).Nodup := by rw [← bfs_chain hk]; exact bfs_nodup _ _
  rw [placeIn_get (l := []) (by simp) hnd (seqI_get hj)]
  have e : (seqI n k (wantN n k c)).take j = seqI n k j := by
    unfold seqI; rw [← List.map_take, List.take_range, Nat.min_eq_left (by omega)]
  rw [e, chT_sum _ (seqI_lt hk (by have := want_le (n := n) (k := k) (c := c); omega)), seqI_length]
/-- What is kept. -/
def keptW (n k : Nat) (c : Bool) (j : Nat) : Nat := if j + 1 < wantN n k c then wordAt (3 * (j + 1)) else if c then 1 else 2
theorem tr_chain {n k j : Nat} {c : Bool} (hk : k < n) (hj : j < wantN n k c) : tr (chT n c) (seqI n k (wantN n k c)) (nxtW n c (rnd n k j)) = keptW n k c j := by
  have hwn := want_le (n := n) (k := k) (c := c)
  have hr := rnd_lt hk (show j < n by omega)
  unfold tr keptW
  rw [chT_next hr]
  by_cases h1 : j + 1 < wantN n k c
  · rw [if_pos h1]
    have e : (if rnd n k j + 1 < n then some (rnd n k j + 1) else if c then some 0 else none) = some (rnd n k (j + 1)) := by
      cases c with
      | true =>
        have hw : wantN n k true = n := rfl
        rw [hw] at h1 hj
        simp only [if_true]
        unfold rnd; (repeat' split) <;> simp <;> omega
      | false =>
        have hw : wantN n k false = n - k := rfl
        rw [hw] at h1 hj
        simp only [Bool.false_eq_true, if_false]
        unfold rnd; (repeat' split) <;> simp <;> omega
    rw [e]; simp only
    rw [place_chain hk h1]
  · rw [if_neg h1]
    cases c with
    | true =>
      have e : (if rnd n k j + 1 < n then some (rnd n k j + 1) else if true then some 0 else none) = some (rnd n k 0) := by
        have hw : wantN n k true = n := rfl
        rw [hw] at h1 hj
        simp only [if_true]
        unfold rnd; (repeat' split) <;> simp <;> omega
      rw [e]; simp only
      rw [place_chain hk (want_pos hk)]; rfl
    | false =>
      have e : (if rnd n k j + 1 < n then some (rnd n k j + 1) else if false then some 0 else none) = none := by
        have hw : wantN n k false = n - k := rfl
        rw [hw] at h1 hj
        simp only [Bool.false_eq_true, if_false]
        unfold rnd; (repeat' split) <;> simp <;> omega
      rw [e]; simp only
      unfold nxtW
      have : ¬ rnd n k j + 1 < n := by
        have hw : wantN n k false = n - k := rfl
        rw [hw] at h1 hj
        unfold rnd; split <;> omega
      rw [if_neg this]; rfl
end Go.HL
