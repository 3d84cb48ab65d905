/-
  Joined: U13, U14.
-/
import Derived.Test.YtaghhialaplgoaaGreatDoorPFU12
import Derived.Test.YtaghhialaplgoaaGreatDoorPFU11
import Derived.Test.YtaghhialaplgoaaGreatDoorPFM5
import Derived.Test.YtaghhialaplgoaaGreatDoorPFU7
set_option linter.unusedVariables false
set_option linter.unusedSimpArgs false
/-
  Walks: words as text (no text that is too long).
-/
namespace Go.HL
open Go.RowKit Go.Proofs
set_option maxHeartbeats 4000000
set_option maxRecDepth 100000
set_option linter.unusedSimpArgs false
set_option linter.unusedVariables false
/-- A word that is no pair, as text; none: a name, a hand, or what is none. -/
def plainF (T : Things) (x : Nat) : Option (List UInt8) :=
  match toIntF x with
  | some n => some (Lib.itoa n)
  | none => if x = 2 then some [40, 41] else if x = 18 then some [35, 116] else if x = 10 then some [35, 102] else if x = 26 then some [35, 117]
    else if x % 8 = 1 ∧ 0 < kindN T x then some (35 :: Lib.itoa (kindN T x : Nat)) else none
/-- A word as text; the rest of a row as text. -/
def showF (T : Things) : Nat → Bool → Nat → Option (List UInt8)
  | 0, _, _ => none
  | n + 1, h, x =>
    if pairW T x then (showF T n true (gt T x 0)).bind fun a => (showF T n false (gt T x 1)).map fun r => (if h then 40 else 32) :: (a ++ r)
    else if h then plainF T x else if x = 2 then some [41] else (plainF T x).map fun p => [32, 46, 32] ++ (p ++ [41])
theorem decDigits_ne (n : Nat) : Lib.decDigits n ≠ [] := by
  rw [Lib.decDigits]
  split
  · simp
  · simp
theorem itoa_ne (n : Int) : Lib.itoa n ≠ [] := by
  unfold Lib.itoa
  split
  · simp
  · exact decDigits_ne _
theorem plainF_ne {T : Things} {x : Nat} {t : List UInt8} (h : plainF T x = some t) : t ≠ [] := by
  unfold plainF at h
  split at h
  · cases h; exact itoa_ne _
  · repeat' split at h
    all_goals cases h
    all_goals simp
theorem wr_Len {H : HHeap} {b : Nat} {gv nv : Value} {s : List UInt8} (hB : BAt H b gv nv s) (R : Value → HHeap → Prop) (hR : R (I (s.length : Nat)) H) : HCalls Tryz.prog 95 [ptr b 0] H R := by
  obtain ⟨htag, addr, sv, hg, hs⟩ := hB
  refine HCalls.of_hw Tryz.func95 rfl _ Tryz.ntmps95 _ (by rw [Tryz.results95]) ?_
  rw [hframe0_eq _ _ (by simp)]
  simp only [List.zipIdx_cons, List.zipIdx_nil, List.map_cons, List.map_nil, Nat.reduceAdd]
  rcases hs with ⟨rfl, rfl, _⟩ | ⟨_, _, c, _, rfl, _, _⟩
  · simp (disch := first | omega | (show allOne _ = true; simp [allOne, Value.oneCell', S]) | (simp only [qz]; first | done | omega)) only [go_sem, hg, ldc_cells]
    exact hR
  · simp (disch := first | omega | (show allOne _ = true; simp [allOne, Value.oneCell', S]) | (simp only [qz]; first | done | omega)) only [go_sem, hg, ldc_cells]
    exact hR
theorem show_put {H : HHeap} {b : Nat} {gv nv : Value} {s t : List UInt8} (hB : BAt H b gv nv s) (ht0 : t ≠ []) (hl : s.length + t.length ≤ 120) (R : Value → HHeap → Prop)
    (hR : ∀ H', BAt H' b gv nv (s ++ t) → Past b H H' → R (.tuple #[]) H') : HCalls Tryz.prog 81 [ptr b 0, S t] H R := by
  refine HCalls.ok fun hok => ?_
  refine HCalls.of_hw Tryz.func81 rfl _ Tryz.ntmps81 _ (by rw [Tryz.results81]) ?_
  rw [hframe0_eq _ _ (by simp)]
  simp only [List.zipIdx_cons, List.zipIdx_nil, List.map_cons, List.map_nil, Nat.reduceAdd]
  simp (disch := first | omega | (show allOne _ = true; simp [allOne, Value.oneCell', S]) | (simp only [qz]; first | done | omega)) only [go_sem]
  refine wr_WriteString hB hok ht0 (by omega) _ ?_
  intro H' h1 h2
  simp (disch := first | omega | (show allOne _ = true; simp [allOne, Value.oneCell', S]) | (simp only [qz]; first | done | omega)) only [go_sem]
  refine wr_Len h1 _ ?_
  simp (disch := first | omega | (show allOne _ = true; simp [allOne, Value.oneCell', S]) | (simp only [qz]; first | done | omega)) only [go_sem]
  exact hR H' h1 h2
section
variable {H : HHeap} {b g gw gh size : Nat} {T : Things} {nv : Value} {s : List UInt8}
theorem show_pair (hB : BAt H b (ptr g 0) nv s) (hA : AtA H g gw gh size T) (x : Nat) (hx : x < 18446744073709551616) (R : Value → HHeap → Prop)
    (h1 : pairW T x = true → R (.tuple #[U (gt T x 0), U (gt T x 1), .bool true]) H) (h2 : pairW T x = false → R (.tuple #[U 0, U 0, .bool false]) H) : HCalls Tryz.prog 80 [ptr b 0, U x] H R := by
  obtain ⟨htag, addr, sv, hg, hs⟩ := hB
  clear hs
  refine HCalls.of_hw Tryz.func80 rfl _ Tryz.ntmps80 _ (by rw [Tryz.results80]) ?_
  rw [hframe0_eq _ _ (by simp)]
  simp only [List.zipIdx_cons, List.zipIdx_nil, List.map_cons, List.map_nil, Nat.reduceAdd]
  simp (disch := first | omega | (show allOne _ = true; simp [allOne, Value.oneCell', S]) | (simp only [qz]; first | done | omega)) only [go_sem, hg, ldc_cells]
  refine arena_Kind _ _ _ _ _ _ hA x hx _ ?_
  by_cases hk : kindN T x = 1
  · simp (disch := first | omega | (show allOne _ = true; simp [allOne, Value.oneCell', S]) | (simp only [qz]; first | done | omega)) only [go_sem, hg, ldc_cells]
    refine arena_Len _ _ _ _ _ _ hA x hx _ ?_
    by_cases hl : lenN T x = 2
    · have h1 := h1 (by unfold pairW; rw [decide_eq_true ⟨hk, hl⟩])
      simp (disch := first | omega | (show allOne _ = true; simp [allOne, Value.oneCell', S]) | (simp only [qz]; first | done | omega)) only [go_sem, hg, ldc_cells, hl]
      refine arena_Get _ _ _ _ _ _ hA x hx _ _ ?_
      obtain ⟨e, he⟩ := getV_gt T x 0
      have he : getV T x 0 = .tuple #[U (gt T x 0), I (e : Nat)] := he
      rw [he]
      simp (disch := first | omega | (show allOne _ = true; simp [allOne, Value.oneCell', S]) | (simp only [qz]; first | done | omega)) only [go_sem, hg, ldc_cells]
      refine arena_Get _ _ _ _ _ _ hA x hx _ _ ?_
      obtain ⟨e', he'⟩ := getV_gt T x 1
      have he' : getV T x 1 = .tuple #[U (gt T x 1), I (e' : Nat)] := he'
      rw [he']
      simp (disch := first | omega | (show allOne _ = true; simp [allOne, Value.oneCell', S]) | (simp only [qz]; first | done | omega)) only [go_sem, hg, ldc_cells]
      exact h1
    · have h2 := h2 (by unfold pairW; rw [decide_eq_false (by omega)])
      simp (disch := first | omega | (show allOne _ = true; simp [allOne, Value.oneCell', S]) | (simp only [qz]; first | done | omega)) only [go_sem, hg, ldc_cells]
      exact h2
  · have h2 := h2 (by unfold pairW; rw [decide_eq_false (by omega)])
    simp (disch := first | omega | (show allOne _ = true; simp [allOne, Value.oneCell', S]) | (simp only [qz]; first | done | omega)) only [go_sem, hg, ldc_cells]
    exact h2
theorem show_truth (v : Bool) (H : HHeap) (R : Value → HHeap → Prop) (hR : R (S (if v then [35, 116] else [35, 102])) H) : HCalls Tryz.prog 97 [.bool v] H R := by
  refine HCalls.of_hw Tryz.func97 rfl _ Tryz.ntmps97 _ (by rw [Tryz.results97]) ?_
  rw [hframe0_eq _ _ (by simp)]
  simp only [List.zipIdx_cons, List.zipIdx_nil, List.map_cons, List.map_nil, Nat.reduceAdd]
  cases v with
  | true => simp (disch := first | omega | (show allOne _ = true; simp [allOne, Value.oneCell', S]) | (simp only [qz]; first | done | omega)) only [go_sem]; exact hR
  | false => simp (disch := first | omega | (show allOne _ = true; simp [allOne, Value.oneCell', S]) | (simp only [qz]; first | done | omega)) only [go_sem]; exact hR
theorem show_plain (hB : BAt H b (ptr g 0) nv s) (hA : AtA H g gw gh size T) (x : Nat) (hx : x < 18446744073709551616) (t : List UInt8) (ht : plainF T x = some t) (R : Value → HHeap → Prop) (hR : R (S t) H) : HCalls Tryz.prog 82 [ptr b 0, U x] H R := by
  obtain ⟨htag, addr, sv, hg, hs⟩ := hB
  clear hs
  unfold plainF at ht
  refine HCalls.of_hw Tryz.func82 rfl _ Tryz.ntmps82 _ (by rw [Tryz.results82]) ?_
  rw [hframe0_eq _ _ (by simp)]
  simp only [List.zipIdx_cons, List.zipIdx_nil, List.map_cons, List.map_nil, Nat.reduceAdd]
  simp (disch := first | omega | (show allOne _ = true; simp [allOne, Value.oneCell', S]) | (simp only [qz]; first | done | omega)) only [go_sem]
  refine word_ToInt x hx _ _ ?_
  unfold toIntV
  cases hi : toIntF x with
  | some n =>
    rw [hi] at ht
    cases ht
    have hn : -1099511627776 < n ∧ n < 1099511627776 := by
      unfold toIntF at hi
      split at hi
      · cases hi; omega
      · cases hi
    simp (disch := first | omega | (show allOne _ = true; simp [allOne, Value.oneCell', S]) | (simp only [qz]; first | done | omega)) only [go_sem]
    refine (strconv_Itoa n (by omega) (by omega) _).mono ?_
    rintro v H' ⟨rfl, rfl⟩
    simp (disch := first | omega | (show allOne _ = true; simp [allOne, Value.oneCell', S]) | (simp only [qz]; first | done | omega)) only [go_sem]
    exact hR
  | none =>
    rw [hi] at ht
    simp only at ht
    simp (disch := first | omega | (show allOne _ = true; simp [allOne, Value.oneCell', S]) | (simp only [qz]; first | done | omega)) only [go_sem]
    by_cases h1 : x = 2
    · subst h1
      cases ht
      simp (disch := first | omega | (show allOne _ = true; simp [allOne, Value.oneCell', S]) | (simp only [qz]; first | done | omega)) only [go_sem]
      exact hR
    rw [if_neg h1] at ht
    by_cases h2 : x = 18
    · subst h2
      cases ht
      simp (disch := first | omega | (show allOne _ = true; simp [allOne, Value.oneCell', S]) | (simp only [qz]; first | done | omega)) only [go_sem]
      refine show_truth true _ _ ?_
      simp (disch := first | omega | (show allOne _ = true; simp [allOne, Value.oneCell', S]) | (simp only [qz]; first | done | omega)) only [go_sem]
      exact hR
    rw [if_neg h2] at ht
    by_cases h3 : x = 10
    · subst h3
      cases ht
      simp (disch := first | omega | (show allOne _ = true; simp [allOne, Value.oneCell', S]) | (simp only [qz]; first | done | omega)) only [go_sem]
      refine show_truth false _ _ ?_
      simp (disch := first | omega | (show allOne _ = true; simp [allOne, Value.oneCell', S]) | (simp only [qz]; first | done | omega)) only [go_sem]
      exact hR
    rw [if_neg h3] at ht
    by_cases h4 : x = 26
    · subst h4
      cases ht
      simp (disch := first | omega | (show allOne _ = true; simp [allOne, Value.oneCell', S]) | (simp only [qz]; first | done | omega)) only [go_sem]
      exact hR
    rw [if_neg h4] at ht
    split at ht
    · rename_i h5
      cases ht
      simp (disch := first | omega | (show allOne _ = true; simp [allOne, Value.oneCell', S]) | (simp only [qz]; first | done | omega)) only [go_sem]
      refine word_ToK 3 (by omega) x hx _ _ ?_
      unfold toKV toF
      rw [if_neg (by omega)]
      simp (disch := first | omega | (show allOne _ = true; simp [allOne, Value.oneCell', S]) | (simp only [qz]; first | done | omega)) only [go_sem]
      refine word_ToK 4 (by omega) x hx _ _ ?_
      unfold toKV toF
      rw [if_neg (by omega)]
      simp (disch := first | omega | (show allOne _ = true; simp [allOne, Value.oneCell', S]) | (simp only [qz]; first | done | omega)) only [go_sem, hg, ldc_cells]
      refine arena_Kind _ _ _ _ _ _ hA x hx _ ?_
      simp (disch := first | omega | (show allOne _ = true; simp [allOne, Value.oneCell', S]) | (simp only [qz]; first | done | omega)) only [go_sem]
      have hk : kindN T x ≤ 9 := by
        unfold kindN
        split
        · rename_i t ht
          have := hA.ok t (by
            rw [findT_findI] at ht
            cases hf : findI T x with
            | none => rw [hf] at ht; cases ht
            | some i => rw [hf] at ht; exact List.mem_of_getElem? ht)
          exact this.k9
        · omega
      refine (strconv_Itoa (kindN T x : Nat) (by omega) (by omega) _).mono ?_
      rintro v H' ⟨rfl, rfl⟩
      rw [s_lit]
      have hlen := itoa_len (kindN T x : Nat) (by omega) (by omega)
      simp (disch := first | omega | (show allOne _ = true; simp [allOne, Value.oneCell', S]) | (simp only [qz]; first | done | omega)) only [go_sem, sadd_ok]
      exact hR
    · cases ht
end
end Go.HL
/-
  Walks: a word as text, whole.
-/
namespace Go.HL
open Go.RowKit Go.Proofs
set_option maxHeartbeats 4000000
set_option maxRecDepth 100000
set_option linter.unusedSimpArgs false
set_option linter.unusedVariables false
theorem AtA.past {b : Nat} {H H' : HHeap} {g gw gh size : Nat} {T : Things} (h : AtA H g gw gh size T) (hp : Past b H H') (hb : g < b ∧ gw < b ∧ gh < b) : AtA H' g gw gh size T :=
  h.frame fun x hx => hp.get x (by rcases hx with rfl | rfl | rfl <;> omega)
theorem show_word (n : Nat) : ∀ {H : HHeap} {b g gw gh size : Nat} {T : Things} {nv : Value} {s t : List UInt8} {x : Nat}, showF T n true x = some t → BAt H b (ptr g 0) nv s → AtA H g gw gh size T → (g < b ∧ gw < b ∧ gh < b) → x < 18446744073709551616 → s.length + t.length ≤ 120 →
    ∀ (R : Value → HHeap → Prop), (∀ H', BAt H' b (ptr g 0) nv (s ++ t) → Past b H H' → R (.tuple #[]) H') → HCalls Tryz.prog 55 [ptr b 0, U x] H R := by
  induction n using Nat.strongRecOn with
  | _ n ih =>
  intro H b g gw gh size T nv s t x ht hB hA hlt hx hl R hR
  cases n with
  | zero => cases ht
  | succ n =>
  rw [showF] at ht
  refine HCalls.of_hw Tryz.func55 rfl _ Tryz.ntmps55 _ (by rw [Tryz.results55]) ?_
  rw [hframe0_eq _ _ (by simp)]
  simp only [List.zipIdx_cons, List.zipIdx_nil, List.map_cons, List.map_nil, Nat.reduceAdd]
  simp (disch := first | omega | (show allOne _ = true; simp [allOne, Value.oneCell', S]) | (simp only [qz]; first | done | omega)) only [go_sem]
  refine show_pair hB hA x hx _ (fun hp => ?_) (fun hp => ?_)
  · rw [if_pos hp] at ht
    simp only [Option.bind_eq_some_iff, Option.map_eq_some_iff] at ht
    obtain ⟨ta, hta, tr, htr, het⟩ := ht
    simp only [if_true] at het
    have hlt' := congrArg List.length het
    simp only [List.length_cons, List.length_append] at hlt'
    simp (disch := first | omega | (show allOne _ = true; simp [allOne, Value.oneCell', S]) | (simp only [qz]; first | done | omega)) only [go_sem]
    refine show_put hB (t := [40]) (by simp) (by simp; omega) _ ?_
    intro H1 hB1 hP1
    have hA1 := hA.past hP1 hlt
    simp (disch := first | omega | (show allOne _ = true; simp [allOne, Value.oneCell', S]) | (simp only [qz]; first | done | omega)) only [go_sem]
    have g0 := gt_lt hA.ok x 0
    have g1 := gt_lt hA.ok x 1
    refine Hwp.loop (fun m fr K => ∃ (s' : List UInt8), BAt K b (ptr g 0) nv s' ∧ Past b H K ∧
      ((∃ n' a0 r0 ta tr, m = n' + 1 ∧ n' ≤ n ∧ a0 < 18446744073709551616 ∧ r0 < 18446744073709551616 ∧ showF T n' true a0 = some ta ∧ showF T n' false r0 = some tr ∧ s' ++ (ta ++ tr) = s ++ t ∧
        FLe (hfr 48 [(0, ptr b 0), (4, U a0), (5, U r0), (6, .bool true)]) fr) ∨
       (∃ y tr, m = 0 ∧ y < 18446744073709551616 ∧ (if y = 2 then some [41] else (plainF T y).map fun p => [32, 46, 32] ++ (p ++ [41])) = some tr ∧ s' ++ tr = s ++ t ∧
        FLe (hfr 48 [(0, ptr b 0), (1, U y), (6, .bool false)]) fr))) (n + 1) ?_ ?_
    · exact ⟨_, hB1, hP1, .inl ⟨n, _, _, ta, tr, rfl, Nat.le_refl _, g0, g1, hta, htr, by rw [← het]; simp, fle_of (by simp [flook])⟩⟩
    rintro m fr K ⟨s', hBK, hPK, ⟨n', a0, r0, ta', tr', rfl, hn', ha0, hr0, h1, h2, he, hle⟩ | ⟨y, tr', rfl, hy, h1, he, hle⟩⟩
    · refine Hwp.weaken hle (HW.sound _ _ _ _ ?_)
      have hle := congrArg List.length he
      simp only [List.length_append] at hle
      have hAK := hA.past hPK hlt
      simp (disch := first | omega | (show allOne _ = true; simp [allOne, Value.oneCell', S]) | (simp only [qz]; first | done | omega)) only [go_sem]
      refine ih n' (by omega) h1 hBK hAK hlt ha0 (by omega) _ ?_
      intro H2 hB2 hP2
      have hP02 := hPK.trans hP2
      have hA2 := hA.past hP02 hlt
      simp (disch := first | omega | (show allOne _ = true; simp [allOne, Value.oneCell', S]) | (simp only [qz]; first | done | omega)) only [go_sem]
      refine show_pair hB2 hA2 r0 hr0 _ (fun hp2 => ?_) (fun hp2 => ?_)
      · cases n' with
        | zero => cases h2
        | succ k =>
        rw [showF, if_pos hp2] at h2
        simp only [Option.bind_eq_some_iff, Option.map_eq_some_iff, Bool.false_eq_true, if_false] at h2
        obtain ⟨tb, htb, td, htd, hed⟩ := h2
        have hed' := congrArg List.length hed
        simp only [List.length_cons, List.length_append] at hed'
        simp (disch := first | omega | (show allOne _ = true; simp [allOne, Value.oneCell', S]) | (simp only [qz]; first | done | omega)) only [go_sem]
        refine show_put hB2 (t := [32]) (by simp) (by simp; omega) _ ?_
        intro H3 hB3 hP3
        simp (disch := first | omega | (show allOne _ = true; simp [allOne, Value.oneCell', S]) | (simp only [qz]; first | done | omega)) only [go_sem]
        refine ⟨_, ?_, _, hB3, hP02.trans hP3, .inl ⟨k, _, _, tb, td, rfl, by omega, gt_lt hA.ok r0 0, gt_lt hA.ok r0 1, htb, htd, by rw [← he, ← hed]; simp, fle_of (by simp [flook])⟩⟩
        omega
      · cases n' with
        | zero => cases h2
        | succ k =>
        rw [showF, if_neg (by simp [hp2])] at h2
        simp only [Bool.false_eq_true, if_false] at h2
        simp (disch := first | omega | (show allOne _ = true; simp [allOne, Value.oneCell', S]) | (simp only [qz]; first | done | omega)) only [go_sem]
        refine ⟨0, ?_, _, hB2, hP02, .inr ⟨r0, tr', rfl, hr0, h2, by rw [← he]; simp, fle_of (by simp [flook])⟩⟩
        omega
    · refine Hwp.weaken hle (HW.sound _ _ _ _ ?_)
      have hle := congrArg List.length he
      simp only [List.length_append] at hle
      have hAK := hA.past hPK hlt
      by_cases hy2 : y = 2
      · subst hy2
        rw [if_pos rfl] at h1
        cases h1
        simp only [List.length_cons, List.length_nil] at hle
        simp (disch := first | omega | (show allOne _ = true; simp [allOne, Value.oneCell', S]) | (simp only [qz]; first | done | omega)) only [go_sem]
        refine show_put hBK (t := [41]) (by simp) (by simp; omega) _ ?_
        intro H3 hB3 hP3
        simp (disch := first | omega | (show allOne _ = true; simp [allOne, Value.oneCell', S]) | (simp only [qz]; first | done | omega)) only [go_sem]
        rw [he] at hB3
        exact hR _ hB3 (hPK.trans hP3)
      · rw [if_neg hy2] at h1
        simp only [Option.map_eq_some_iff] at h1
        obtain ⟨p, hp1, hp2⟩ := h1
        have hp3 := congrArg List.length hp2
        simp only [List.length_append, List.length_cons, List.length_nil] at hp3
        simp (disch := first | omega | (show allOne _ = true; simp [allOne, Value.oneCell', S]) | (simp only [qz]; first | done | omega)) only [go_sem]
        refine show_plain hBK hAK y hy p hp1 _ ?_
        simp (disch := first | omega | (show allOne _ = true; simp [allOne, Value.oneCell', S]) | (simp only [qz]; first | done | omega)) only [go_sem, sadd_ok]
        refine show_put hBK (t := [32, 46, 32] ++ p) (by simp) (by simp; omega) _ ?_
        intro H3 hB3 hP3
        simp (disch := first | omega | (show allOne _ = true; simp [allOne, Value.oneCell', S]) | (simp only [qz]; first | done | omega)) only [go_sem]
        refine show_put hB3 (t := [41]) (by simp) (by simp; omega) _ ?_
        intro H4 hB4 hP4
        simp (disch := first | omega | (show allOne _ = true; simp [allOne, Value.oneCell', S]) | (simp only [qz]; first | done | omega)) only [go_sem]
        rw [show s' ++ ([32, 46, 32] ++ p) ++ [41] = s ++ t by rw [← he, ← hp2]; simp] at hB4
        exact hR _ hB4 ((hPK.trans hP3).trans hP4)
  · rw [if_neg (by simp [hp]), if_pos rfl] at ht
    simp (disch := first | omega | (show allOne _ = true; simp [allOne, Value.oneCell', S]) | (simp only [qz]; first | done | omega)) only [go_sem]
    refine show_plain hB hA x hx t ht _ ?_
    simp (disch := first | omega | (show allOne _ = true; simp [allOne, Value.oneCell', S]) | (simp only [qz]; first | done | omega)) only [go_sem]
    refine show_put hB (plainF_ne ht) hl _ ?_
    intro H' h1 h2
    simp (disch := first | omega | (show allOne _ = true; simp [allOne, Value.oneCell', S]) | (simp only [qz]; first | done | omega)) only [go_sem]
    exact hR H' h1 h2
end Go.HL
