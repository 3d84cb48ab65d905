/-
  What is reached of a row of things, in order: plain Lean.
-/
import Derived.Test.YtkflilieljojfaaA6
namespace Go.HL

/-- The j-th from k on, all round. -/
def rnd (n k j : Nat) : Nat := if k + j < n then k + j else k + j - n
def seqI (n k m : Nat) : List Nat := (List.range m).map (rnd n k)
def wantN (n k : Nat) (c : Bool) : Nat := if c then n else n - k
abbrev chT (n : Nat) (c : Bool) : Things := chainT n (nxtW n c)

theorem chT_words {n : Nat} {c : Bool} {i : Nat} (h : i < n) : wordsI (chT n c) i = [i * 8, nxtW n c i] := by unfold wordsI; rw [chainT_get h]
theorem chT_next {n : Nat} {c : Bool} {i : Nat} (h : i < n) : findI (chT n c) (nxtW n c i) = if i + 1 < n then some (i + 1) else if c then some 0 else none := by
  unfold nxtW
  by_cases h1 : i + 1 < n
  · rw [if_pos h1, if_pos h1]; exact chainT_find h1
  · rw [if_neg h1, if_neg h1]
    cases c with
    | true => simp only [if_true]; exact chainT_find (n := n) (i := 0) (by omega)
    | false => simp only [Bool.false_eq_true, if_false]; exact findI_off (by omega)
theorem chT_step {n : Nat} {c : Bool} {i : Nat} (h : i < n) (ord : List Nat) : stepAll (chT n c) ord (wordsI (chT n c) i) = stepO (chT n c) ord (nxtW n c i) := by
  rw [chT_words h]
  have : stepO (chT n c) ord (i * 8) = ord := by unfold stepO; rw [findI_off (by omega)]
  simp only [stepAll, List.foldl_cons, List.foldl_nil, this]
theorem seqI_succ (n k m : Nat) : seqI n k (m + 1) = seqI n k m ++ [rnd n k m] := by simp [seqI, List.range_succ]
theorem seqI_length (n k m : Nat) : (seqI n k m).length = m := by simp [seqI]
theorem seqI_get {n k m j : Nat} (h : j < m) : (seqI n k m)[j]? = some (rnd n k j) := by simp [seqI, h]
theorem rnd_lt {n k j : Nat} (hk : k < n) (hj : j < n) : rnd n k j < n := by unfold rnd; split <;> omega
theorem chT_more {n k p : Nat} {c : Bool} (hk : k < n) (hp : p < wantN n k c) :
    stepO (chT n c) (seqI n k (p + 1)) (nxtW n c (rnd n k p)) = if p + 1 < wantN n k c then seqI n k (p + 2) else seqI n k (p + 1) := by
  have hpn : p < n := by unfold wantN at hp; split at hp <;> omega
  have hr := rnd_lt hk hpn
  unfold stepO
  rw [chT_next hr]
  have key : ∀ x, x = rnd n k (p + 1) → p + 1 < n → x ∉ seqI n k (p + 1) := by
    rintro x rfl hp1 hm
    obtain ⟨j, hj, he⟩ := List.mem_map.1 hm
    have hj' : j < p + 1 := by simpa using hj
    unfold rnd at he; split at he <;> split at he <;> omega
  cases c with
  | true =>
    have hw : wantN n k true = n := rfl
    rw [hw] at hp ⊢
    by_cases h1 : rnd n k p + 1 < n
    · rw [if_pos h1]; simp only
      by_cases h2 : p + 1 < n
      · rw [if_pos h2, seqI_succ n k (p + 1)]
        have e : rnd n k p + 1 = rnd n k (p + 1) := by unfold rnd at h1 ⊢; split at h1 <;> (repeat' split) <;> omega
        rw [if_neg (key _ e h2), e]
      · rw [if_neg h2, if_pos]
        refine List.mem_map.2 ⟨0, by simp, ?_⟩
        unfold rnd at h1 ⊢; split at h1 <;> (repeat' split) <;> omega
    · rw [if_neg h1]; simp only [if_true]
      by_cases h2 : p + 1 < n
      · rw [if_pos h2, seqI_succ n k (p + 1)]
        have e : 0 = rnd n k (p + 1) := by unfold rnd at h1 ⊢; split at h1 <;> (repeat' split) <;> omega
        rw [if_neg (key _ e h2), e]
      · rw [if_neg h2, if_pos]
        refine List.mem_map.2 ⟨0, by simp, ?_⟩
        unfold rnd at h1 ⊢; split at h1 <;> (repeat' split) <;> omega
  | false =>
    have hw : wantN n k false = n - k := rfl
    rw [hw] at hp ⊢
    have e0 : rnd n k p = k + p := by unfold rnd; rw [if_pos (by omega)]
    rw [e0]
    by_cases h1 : k + p + 1 < n
    · rw [if_pos h1, if_pos (by omega), seqI_succ n k (p + 1)]; simp only
      have e : k + p + 1 = rnd n k (p + 1) := by unfold rnd; rw [if_pos (by omega)]; omega
      rw [if_neg (key _ e (by omega)), e]
    · rw [if_neg h1, if_neg (show ¬ p + 1 < n - k by omega)]; rfl
theorem scan_chain {n k : Nat} {c : Bool} (hk : k < n) : ∀ (f p : Nat), p < wantN n k c → wantN n k c ≤ f + p → scan (chT n c) f p (seqI n k (p + 1)) = seqI n k (wantN n k c) := by
  intro f
  induction f with
  | zero => intro p hp hf; omega
  | succ f ih =>
    intro p hp hf
    have hpn : p < n := by unfold wantN at hp; split at hp <;> omega
    rw [scan_step (seqI_get (by omega)), chT_step (rnd_lt hk hpn), chT_more hk hp]
    split
    · rename_i h1; exact ih (p + 1) h1 (by omega)
    · rename_i h1
      rw [scan_stop (by rw [seqI_length]; omega), show wantN n k c = p + 1 by omega]
theorem bfs_chain {n k : Nat} {c : Bool} (hk : k < n) : bfs (chT n c) [wordAt (3 * k)] = seqI n k (wantN n k c) := by
  unfold bfs
  have e : stepAll (chT n c) [] [wordAt (3 * k)] = seqI n k (0 + 1) := by
    simp only [stepAll, List.foldl_cons, List.foldl_nil, stepO]
    rw [chainT_find hk]
    simp [seqI, rnd, hk]
  rw [e, chainT_length]
  have hw : 0 < wantN n k c ∧ wantN n k c ≤ n := by unfold wantN; split <;> omega
  exact scan_chain hk (n + 1) 0 hw.1 (by omega)
end Go.HL
