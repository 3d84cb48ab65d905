/-
  Plain laws for the desk: words of a line; numbers as text; texts joined. No program in sight.
-/
import Derived.Lib.SplitLaws
import Derived.Lib.Join
import Derived.Lib.ItoaNum
set_option linter.unusedVariables false
set_option linter.unusedSimpArgs false
namespace Go.HL
set_option linter.unusedSimpArgs false
set_option linter.unusedVariables false

/-- A text cut at each space. -/
def cutW : List UInt8 → List (List UInt8)
  | [] => [[]]
  | b :: l => if b = 32 then [] :: cutW l else match cutW l with | [] => [[b]] | x :: xs => (b :: x) :: xs
theorem cutW_ne : ∀ l : List UInt8, cutW l ≠ []
  | [] => by simp [cutW]
  | b :: l => by
    unfold cutW
    split
    · simp
    · split <;> simp
/-- The last word gets one byte more, or a new one begins. -/
def snocW (ws : List (List UInt8)) (b : UInt8) : List (List UInt8) := if b = 32 then ws ++ [[]] else ws.dropLast ++ [(ws.getLast?.getD []) ++ [b]]
theorem snocW_cons (x : List UInt8) (ws : List (List UInt8)) (h : ws ≠ []) (b : UInt8) : snocW (x :: ws) b = x :: snocW ws b := by
  cases ws with
  | nil => exact absurd rfl h
  | cons y ws => unfold snocW; split <;> simp
theorem cutW_snoc : ∀ (l : List UInt8) (b : UInt8), cutW (l ++ [b]) = snocW (cutW l) b
  | [], b => by unfold snocW; simp [cutW]
  | c :: l, b => by
    have ih := cutW_snoc l b
    have hne := cutW_ne l
    simp only [List.cons_append]
    by_cases hc : c = 32
    · rw [cutW, if_pos hc, ih, cutW, if_pos hc, snocW_cons _ _ hne]
    · rw [cutW, if_neg hc, ih]
      conv => rhs; rw [cutW, if_neg hc]
      cases hl : cutW l with
      | nil => exact absurd hl hne
      | cons x xs =>
        cases xs with
        | nil => by_cases hb : b = 32 <;> simp [snocW, hb]
        | cons y ys =>
          rw [snocW_cons x (y :: ys) (by simp), snocW_cons (c :: x) (y :: ys) (by simp)]
theorem index_cons32 (b : UInt8) (l : List UInt8) : Lib.index (b :: l) [32] = if b = 32 then 0 else if Lib.index l [32] == -1 then -1 else Lib.index l [32] + 1 := by
  rw [Lib.index]
  by_cases h : b = 32
  · subst h; simp
  · have : ([32] : List UInt8).isPrefixOf (b :: l) = false := by simp [List.isPrefixOf]; exact fun e => h e.symm
    rw [this, if_neg h]; rfl
theorem splitK_cut : ∀ (l : List UInt8), Lib.splitK [32] 0 (l.count 32) l = cutW l
  | [] => rfl
  | b :: l => by
    have ih := splitK_cut l
    by_cases h : b = 32
    · subst h
      rw [cutW, if_pos rfl, List.count_cons_self, Lib.splitK, index_cons32, if_pos rfl]
      simp [ih]
    · rw [cutW, if_neg h, List.count_cons_of_ne (by simpa using h)]
      cases hc : l.count 32 with
      | zero =>
        rw [hc] at ih
        rw [← ih]; simp [Lib.splitK]
      | succ k =>
        rw [hc] at ih
        have hge := Lib.index_ge l [32]
        have hne : ¬ (Lib.index l [32] == -1) = true := by
          intro e
          have h0 := Lib.count_miss (by simpa using e)
          rw [Lib.count_one] at h0; omega
        rw [Lib.splitK, if_neg hne] at ih
        rw [Lib.splitK, index_cons32, if_neg h, if_neg hne, if_neg (by simp only [beq_iff_eq]; omega), ← ih]
        have e1 : (Lib.index l [32] + 1).toNat = (Lib.index l [32]).toNat + 1 := by
          have : Lib.index l [32] ≠ -1 := fun e => hne (by simpa using e)
          omega
        rw [e1]
        simp only [Nat.add_zero, List.take_succ_cons, List.length_cons, List.length_nil, Nat.zero_add, List.drop_succ_cons]
/-- strings.Split at a space. -/
theorem split_cut (l : List UInt8) : (Lib.splitB ⟨#[32]⟩ 0 (Lib.countB ⟨l.toArray⟩ ⟨#[32]⟩) ⟨l.toArray⟩).map (·.data.toList) = cutW l := by
  rw [Lib.splitB_data]
  show Lib.splitK [32] 0 (Lib.count l [32]) l = _
  rw [Lib.count_one, splitK_cut]

/-- A byte that may stand in a line. -/
def plainB (b : UInt8) : Bool := decide (32 ≤ b.toNat ∧ b.toNat ≤ 126)
/-- The words of a line. -/
def wordsF (l : List UInt8) : Option (List (List UInt8)) := if l.all plainB && (cutW l).all (fun w => !w.isEmpty) then some (cutW l) else none
theorem cutW_sum : ∀ l : List UInt8, (cutW l).length ≤ l.length + 1
  | [] => by simp [cutW]
  | b :: l => by
    have ih := cutW_sum l
    have hne := cutW_ne l
    unfold cutW
    split
    · simp; omega
    · split
      · simp
      · rename_i x xs e; rw [e] at ih; simp at ih ⊢; omega
theorem cutW_short : ∀ (l : List UInt8) (w : List UInt8), w ∈ cutW l → w.length ≤ l.length
  | [], w, h => by simp [cutW] at h; subst h; simp
  | b :: l, w, h => by
    have ih := cutW_short l
    unfold cutW at h
    split at h
    · rcases List.mem_cons.1 h with rfl | h
      · simp
      · have := ih w h; simp; omega
    · split at h
      · simp at h; subst h; simp
      · rename_i x xs e
        rcases List.mem_cons.1 h with rfl | h
        · have := ih x (by rw [e]; simp); simp; omega
        · have := ih w (by rw [e]; simp [h]); simp; omega

/-- The digits of a number, ahead of a text. -/
theorem digits_more (n : Nat) (s : List UInt8) (h : 9 < n) : Lib.decDigits n ++ s = Lib.decDigits (n / 10) ++ (UInt8.ofNat (48 + n % 10) :: s) := by
  rw [Lib.decDigits, dif_neg (by omega)]; simp
theorem digits_last (n : Nat) (s : List UInt8) (h : ¬ 9 < n) : Lib.decDigits n ++ s = UInt8.ofNat (48 + n) :: s := by
  rw [Lib.decDigits, dif_pos (by omega)]; rfl
theorem digits_len : ∀ (k n : Nat), n < 10 ^ (k + 1) → (Lib.decDigits n).length ≤ k + 1
  | 0, n, h => by rw [Lib.decDigits, dif_pos (by omega)]; simp
  | k + 1, n, h => by
    by_cases hn : n < 10
    · rw [Lib.decDigits, dif_pos hn]; simp
    · have := digits_len k (n / 10) (by rw [Nat.pow_succ] at h; omega)
      rw [Lib.decDigits, dif_neg hn]; simp; omega
theorem itoa_len (n : Int) (h0 : -9223372036854775808 ≤ n) (h1 : n ≤ 9223372036854775807) : (Lib.itoa n).length ≤ 20 := by
  unfold Lib.itoa
  split
  · have := digits_len 18 n.natAbs (by omega); simp; omega
  · have := digits_len 18 n.toNat (by omega); omega

/-- Texts with a separator ahead of each but the first, as the document's loop builds them. -/
def joinF (sep : List UInt8) : List (List UInt8) → List UInt8
  | [] => []
  | x :: xs => x ++ (xs.map (sep ++ ·)).flatten
theorem joinF_join (sep : List UInt8) (xs : List (List UInt8)) : Lib.join xs sep = joinF sep xs := by
  cases xs with
  | nil => rfl
  | cons x xs =>
    unfold Lib.join joinF
    induction xs generalizing x with
    | nil => simp [List.intercalate]
    | cons y ys ih => simp [List.intercalate] at ih ⊢; rw [ih]
theorem joinF_snoc (sep : List UInt8) (xs : List (List UInt8)) (y : List UInt8) : joinF sep (xs ++ [y]) = if xs = [] then y else joinF sep xs ++ (sep ++ y) := by
  cases xs with
  | nil => simp [joinF]
  | cons x xs => simp [joinF]
end Go.HL
