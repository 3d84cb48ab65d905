/-
  Joined: KP, EC, ED.
-/
import Derived.Test.YtaghhialaplgoaaGreatDoorPFM1
import Derived.Test.YtaghhialaplgoaaGreatDoorPFA10
import Derived.Test.YtaghhialaplgoaaGreatDoorPFU14
import Derived.Test.YtaghhialaplgoaaGreatDoorPFM27
import Derived.Test.YtaghhialaplgoaaGreatDoorPFEA
set_option linter.unusedVariables false
set_option linter.unusedSimpArgs false
/-
  VmKeeps: what is kept, as plain data; what is shown of what was moved. No program in sight.
-/
namespace Go.HL
set_option linter.unusedSimpArgs false
set_option linter.unusedVariables false
section
variable {T : Things} {F : List Nat}
theorem moved_thing (hF : Closed T F) (hu : usedOf T ≤ 65536) {w : Nat} (hw : ∀ i, findI T w = some i → i ∈ F) :
    findT (outT T F) (tr T F w) = (findT T w).map fun t => ⟨t.kind, t.l.map (tr T F)⟩ := by
  rw [findT_findI, findT_findI, tr_find hF hu hw]
  cases h : findI T w with
  | none => rfl
  | some i =>
    have hi := hw i h
    rw [Option.map_some, Option.bind_some, Option.bind_some, outT_get (idxOf_mem hi)]
    unfold fullThing
    rw [List.getElem?_eq_getElem (hF.lt i hi)]; rfl
theorem moved_kind (hF : Closed T F) (hu : usedOf T ≤ 65536) {w : Nat} (hw : ∀ i, findI T w = some i → i ∈ F) : kindN (outT T F) (tr T F w) = kindN T w := by
  unfold kindN; rw [moved_thing hF hu hw]; cases findT T w <;> rfl
theorem moved_len (hF : Closed T F) (hu : usedOf T ≤ 65536) {w : Nat} (hw : ∀ i, findI T w = some i → i ∈ F) : lenN (outT T F) (tr T F w) = lenN T w := by
  unfold lenN; rw [moved_thing hF hu hw]; cases findT T w <;> simp
theorem moved_gt (hF : Closed T F) (hu : usedOf T ≤ 65536) {w i : Nat} (hw : ∀ i, findI T w = some i → i ∈ F) (hi : i < lenN T w) : gt (outT T F) (tr T F w) i = tr T F (gt T w i) := by
  unfold gt wordsN
  unfold lenN at hi
  rw [moved_thing hF hu hw]
  cases h : findT T w with
  | none => rw [h] at hi; simp at hi
  | some t =>
    rw [h] at hi
    simp only at hi
    simp [List.getD, hi]
theorem tr_plain {w : Nat} (h : w % 8 ≠ 1) : tr T F w = w := by
  unfold tr findI
  rw [if_neg h]
  simp only
  rw [if_neg (by omega)]
theorem tr_two {w : Nat} : tr T F w = 2 ↔ w = 2 := by
  constructor
  · intro h
    unfold tr at h
    split at h
    · unfold wordAt at h; omega
    · split at h
      · omega
      · exact h
  · rintro rfl; exact tr_plain (by omega)
theorem gt_find {w : Nat} {i : Nat} (hi : i < lenN T w) : ∃ j, findI T w = some j ∧ gt T w i ∈ wordsI T j := by
  unfold lenN at hi
  unfold gt wordsN wordsI
  rw [findT_findI] at hi ⊢
  cases h : findI T w with
  | none => rw [h] at hi; simp at hi
  | some j =>
    refine ⟨j, rfl, ?_⟩
    rw [h] at hi
    simp only [Option.bind_some] at hi ⊢
    cases ht : T[j]? with
    | none => rw [ht] at hi; simp at hi
    | some t =>
      rw [ht] at hi
      simp only at hi ⊢
      simp [List.getD, hi]
theorem plain_moved (hF : Closed T F) (hu : usedOf T ≤ 65536) {w : Nat} {t : List UInt8} (hw : ∀ i, findI T w = some i → i ∈ F) (h : plainF T w = some t) : plainF (outT T F) (tr T F w) = some t := by
  by_cases h1 : w % 8 = 1
  · have hk := moved_kind hF hu hw
    have hz : toIntF w = none := by unfold toIntF; rw [if_neg (by omega)]
    unfold plainF at h
    rw [hz] at h
    simp only at h
    rw [if_neg (by omega), if_neg (by omega), if_neg (by omega), if_neg (by omega)] at h
    split at h
    · rename_i h2
      have h3 : tr T F w % 8 = 1 := by
        unfold tr
        split
        · unfold wordAt; omega
        · rename_i hn
          exfalso
          have := h2.2
          unfold kindN at this
          rw [findT_findI, hn] at this
          simp at this
      have hz' : toIntF (tr T F w) = none := by unfold toIntF; rw [if_neg (by omega)]
      unfold plainF
      rw [hz']
      simp only
      rw [if_neg (by omega), if_neg (by omega), if_neg (by omega), if_neg (by omega), hk, if_pos ⟨h3, h2.2⟩]
      exact h
    · cases h
  · rw [tr_plain h1]
    have e1 : ¬ (w % 8 = 1 ∧ 0 < kindN T w) := fun h => h1 h.1
    have e2 : ¬ (w % 8 = 1 ∧ 0 < kindN (outT T F) w) := fun h => h1 h.1
    unfold plainF at h ⊢
    simp only [if_neg e1] at h
    simp only [if_neg e2]
    exact h
theorem show_moved (hF : Closed T F) (hu : usedOf T ≤ 65536) : ∀ (n : Nat) (h : Bool) (w : Nat) (t : List UInt8), (∀ i, findI T w = some i → i ∈ F) → showF T n h w = some t → showF (outT T F) n h (tr T F w) = some t
  | 0, _, _, _, _, e => by cases e
  | n + 1, h, w, t, hw, e => by
    have hp : pairW (outT T F) (tr T F w) = pairW T w := by unfold pairW; rw [moved_kind hF hu hw, moved_len hF hu hw]
    rw [showF] at e ⊢
    rw [hp]
    by_cases h1 : pairW T w = true
    · rw [if_pos h1] at e ⊢
      have hl : lenN T w = 2 := (of_decide_eq_true h1).2
      rw [moved_gt hF hu hw (by omega), moved_gt hF hu hw (by omega)]
      simp only [Option.bind_eq_some_iff, Option.map_eq_some_iff] at e
      obtain ⟨a, ha, r, hr, rfl⟩ := e
      have key : ∀ i, i < 2 → ∀ j, findI T (gt T w i) = some j → j ∈ F := by
        intro i hi j hj
        obtain ⟨k, hk1, hk2⟩ := gt_find (T := T) (w := w) (i := i) (by omega)
        exact hF.step k (hw k hk1) _ hk2 j hj
      rw [show_moved hF hu n true _ a (key 0 (by omega)) ha, show_moved hF hu n false _ r (key 1 (by omega)) hr]
      rfl
    · rw [if_neg h1] at e ⊢
      cases h with
      | true =>
        rw [if_pos rfl] at e ⊢
        exact plain_moved hF hu hw e
      | false =>
        rw [if_neg (by simp)] at e ⊢
        by_cases h2 : w = 2
        · rw [if_pos h2] at e
          rw [if_pos (tr_two.2 h2)]
          exact e
        · rw [if_neg h2] at e
          rw [if_neg (fun h => h2 (tr_two.1 h))]
          simp only [Option.map_eq_some_iff] at e ⊢
          obtain ⟨p, hp1, hp2⟩ := e
          exact ⟨p, plain_moved hF hu hw hp1, hp2⟩
end
/-- Rows of two things each: a number, and a number of it. -/
def kT : Nat → List Int → Things
  | _, [] => []
  | j, n :: ns => ⟨1, [wInt n, 2]⟩ :: ⟨1, [wInt (j : Nat), wordAt (6 * j)]⟩ :: kT (j + 1) ns
theorem kT_used : ∀ (ns : List Int) (j : Nat), usedOf (kT j ns) = 6 * ns.length
  | [], _ => rfl
  | n :: ns, j => by
    rw [kT, usedOf, usedOf, kT_used ns, List.length_cons]
    simp [Thing.room]
    omega
theorem kT_len : ∀ (ns : List Int) (j : Nat), (kT j ns).length = 2 * ns.length
  | [], _ => rfl
  | n :: ns, j => by
    rw [kT, List.length_cons, List.length_cons, kT_len ns, List.length_cons]
    omega
theorem kT_snoc : ∀ (ns : List Int) (n : Int) (j : Nat), kT j (ns ++ [n]) = kT j ns ++ [⟨1, [wInt n, 2]⟩] ++ [⟨1, [wInt ((j + ns.length : Nat) : Int), wordAt (6 * (j + ns.length))]⟩]
  | [], n, j => rfl
  | m :: ns, n, j => by
    rw [List.cons_append, kT, kT_snoc ns n (j + 1), kT, List.length_cons, show j + 1 + ns.length = j + (ns.length + 1) by omega]
    simp
theorem kT_at : ∀ (ns : List Int) (j i : Nat) (n : Int), ns[i]? = some n → (kT j ns)[2 * i]? = some ⟨1, [wInt n, 2]⟩ ∧ (kT j ns)[2 * i + 1]? = some ⟨1, [wInt ((j + i : Nat) : Int), wordAt (6 * (j + i))]⟩
  | [], _, _, _, h => by simp at h
  | m :: ns, j, 0, n, h => by simp at h; subst h; exact ⟨rfl, rfl⟩
  | m :: ns, j, i + 1, n, h => by
    obtain ⟨h1, h2⟩ := kT_at ns (j + 1) i n (by simpa using h)
    rw [kT, show 2 * (i + 1) = 2 * i + 1 + 1 by omega]
    refine ⟨by simpa using h1, ?_⟩
    rw [show j + (i + 1) = j + 1 + i by omega]
    simpa using h2
theorem kT_place : ∀ (ns : List Int) (j i : Nat), i < ns.length → placeOf (kT j ns) (2 * i) = 6 * i ∧ placeOf (kT j ns) (2 * i + 1) = 6 * i + 3
  | [], _, _, h => by simp at h
  | m :: ns, j, 0, h => by
    unfold placeOf
    rw [kT]
    simp [usedOf, Thing.room]
  | m :: ns, j, i + 1, h => by
    obtain ⟨h1, h2⟩ := kT_place ns (j + 1) i (by simpa using h)
    unfold placeOf at h1 h2 ⊢
    rw [kT, show 2 * (i + 1) = 2 * i + 1 + 1 by omega]
    simp only [List.take_succ_cons, usedOf]
    rw [h1, h2]
    simp [Thing.room]
    omega
theorem kT_find {ns : List Int} {i : Nat} (h : i < ns.length) : findI (kT 0 ns) (wordAt (6 * i)) = some (2 * i) ∧ findI (kT 0 ns) (wordAt (6 * i + 3)) = some (2 * i + 1) := by
  obtain ⟨h1, h2⟩ := kT_place ns 0 i h
  have hl := kT_len ns 0
  constructor
  · rw [← h1]; exact word_findI (by omega)
  · rw [← h2]; exact word_findI (by omega)
theorem find_int (T : Things) (v : Int) : findI T (wInt v) = none := by
  have h : wInt v % 8 = 0 := by unfold wInt; omega
  unfold findI
  rw [if_neg (by omega)]
theorem pairW_wInt (T : Things) (v : Int) : pairW T (wInt v) = false := by
  unfold pairW kindN
  rw [findT_findI, find_int]
  simp
/-- What is shown of one. -/
def kText (i n : Int) : List UInt8 := [40] ++ Lib.itoa i ++ ([32] ++ Lib.itoa n ++ [41])
theorem kT_show {ns : List Int} {i : Nat} {n : Int} (h : ns[i]? = some n) (hn : -1099511627776 < n ∧ n < 1099511627776) (hi : i < 1000000) : showF (kT 0 ns) 4 true (wordAt (6 * i + 3)) = some (kText (i : Nat) n) := by
  have hlt := (List.getElem?_eq_some_iff.1 h).1
  obtain ⟨f1, f2⟩ := kT_find hlt
  obtain ⟨a1, a2⟩ := kT_at ns 0 i n h
  rw [Nat.zero_add] at a2
  have t1 : findT (kT 0 ns) (wordAt (6 * i)) = some ⟨1, [wInt n, 2]⟩ := by rw [findT_findI, f1]; exact a1
  have t2 : findT (kT 0 ns) (wordAt (6 * i + 3)) = some ⟨1, [wInt (i : Nat), wordAt (6 * i)]⟩ := by rw [findT_findI, f2]; exact a2
  have p1 : pairW (kT 0 ns) (wordAt (6 * i)) = true := by unfold pairW kindN lenN; rw [t1]; rfl
  have p2 : pairW (kT 0 ns) (wordAt (6 * i + 3)) = true := by unfold pairW kindN lenN; rw [t2]; rfl
  have g1 : gt (kT 0 ns) (wordAt (6 * i)) 0 = wInt n ∧ gt (kT 0 ns) (wordAt (6 * i)) 1 = 2 := by unfold gt wordsN; rw [t1]; exact ⟨rfl, rfl⟩
  have g2 : gt (kT 0 ns) (wordAt (6 * i + 3)) 0 = wInt (i : Nat) ∧ gt (kT 0 ns) (wordAt (6 * i + 3)) 1 = wordAt (6 * i) := by unfold gt wordsN; rw [t2]; exact ⟨rfl, rfl⟩
  have s1 : showF (kT 0 ns) 3 true (wInt (i : Nat)) = some (Lib.itoa (i : Nat)) := by
    rw [showF, if_neg (by simp [pairW_wInt]), if_pos rfl]
    unfold plainF
    rw [toInt_wInt (by omega) (by omega)]
  have s2 : showF (kT 0 ns) 2 true (wInt n) = some (Lib.itoa n) := by
    rw [showF, if_neg (by simp [pairW_wInt]), if_pos rfl]
    unfold plainF
    rw [toInt_wInt hn.1 hn.2]
  have pn : pairW (kT 0 ns) 2 = false := by unfold pairW kindN findT; simp
  have s3 : showF (kT 0 ns) 2 false 2 = some [41] := by
    rw [showF, if_neg (by simp [pn]), if_neg (by simp), if_pos rfl]
  have s4 : showF (kT 0 ns) 3 false (wordAt (6 * i)) = some ([32] ++ Lib.itoa n ++ [41]) := by
    rw [showF, if_pos p1, g1.1, g1.2, s2, s3]
    simp
  rw [showF, if_pos p2, g2.1, g2.2, s1, s4]
  simp [kText]
/-- What is kept: some are let go of. -/
def kK : Nat → List Bool → List (Nat × Bool)
  | _, [] => []
  | j, d :: ds => (if d then (0, false) else (wordAt (6 * j + 3), true)) :: kK (j + 1) ds
def kI : Nat → List Bool → List Nat
  | _, [] => []
  | j, d :: ds => if d then kI (j + 1) ds else j :: kI (j + 1) ds
theorem kI_mem : ∀ (ds : List Bool) (j i : Nat), i ∈ kI j ds ↔ j ≤ i ∧ ds[i - j]? = some false
  | [], j, i => by simp [kI]
  | d :: ds, j, i => by
    have ih := kI_mem ds (j + 1) i
    unfold kI
    by_cases h : i = j
    · subst h
      rw [Nat.sub_self]
      cases d with
      | true =>
        simp only [if_true]
        rw [ih]
        constructor
        · rintro ⟨h1, _⟩; omega
        · rintro ⟨_, h2⟩; simp at h2
      | false => simp
    · cases d with
      | true =>
        simp only [if_true]
        rw [ih]
        constructor
        · rintro ⟨h1, h2⟩; refine ⟨by omega, ?_⟩; rw [show i - j = (i - (j + 1)) + 1 by omega]; simpa using h2
        · rintro ⟨h1, h2⟩; rw [show i - j = (i - (j + 1)) + 1 by omega] at h2; exact ⟨by omega, by simpa using h2⟩
      | false =>
        simp only [Bool.false_eq_true, if_false, List.mem_cons]
        rw [ih]
        constructor
        · rintro (h1 | ⟨h1, h2⟩)
          · exact absurd h1 h
          · refine ⟨by omega, ?_⟩; rw [show i - j = (i - (j + 1)) + 1 by omega]; simpa using h2
        · rintro ⟨h1, h2⟩; rw [show i - j = (i - (j + 1)) + 1 by omega] at h2; exact .inr ⟨by omega, by simpa using h2⟩
theorem kI_nodup : ∀ (ds : List Bool) (j : Nat), (kI j ds).Nodup
  | [], _ => by simp [kI]
  | d :: ds, j => by
    have ih := kI_nodup ds (j + 1)
    unfold kI
    cases d with
    | true => simpa using ih
    | false =>
      simp only [Bool.false_eq_true, if_false]
      exact List.nodup_cons.2 ⟨fun hm => by have := ((kI_mem ds (j + 1) j).1 hm).1; omega, ih⟩
theorem kK_used : ∀ (ds : List Bool) (j : Nat), usedW (kK j ds) = (kI j ds).map fun i => wordAt (6 * i + 3)
  | [], _ => rfl
  | d :: ds, j => by
    have ih := kK_used ds (j + 1)
    unfold usedW at ih ⊢
    unfold kK kI
    cases d with
    | true => simpa using ih
    | false => simp [ih]
/-- All that is reached. -/
def kL (ds : List Bool) : List Nat := (kI 0 ds).map (fun i => 2 * i + 1) ++ (kI 0 ds).map fun i => 2 * i
theorem kL_nodup (ds : List Bool) : (kL ds).Nodup := by
  have h := kI_nodup ds 0
  unfold kL
  refine List.nodup_append.2 ⟨?_, ?_, ?_⟩
  · exact List.Pairwise.map _ (fun a b h => by omega) h
  · exact List.Pairwise.map _ (fun a b h => by omega) h
  · intro a ha b hb
    obtain ⟨x, _, rfl⟩ := List.mem_map.1 ha
    obtain ⟨y, _, rfl⟩ := List.mem_map.1 hb
    omega
theorem kL_mem {ns : List Int} {ds : List Bool} (hl : ds.length = ns.length) {rs : List Nat} (hr : ∀ w, w ∈ rs ↔ w = 26 ∨ w = 2 ∨ w ∈ (kI 0 ds).map fun i => wordAt (6 * i + 3)) (x : Nat) : x ∈ bfs (kT 0 ns) rs ↔ x ∈ kL ds := by
  have klt : ∀ i ∈ kI 0 ds, i < ns.length := by
    intro i hi
    have := ((kI_mem ds 0 i).1 hi).2
    have := (List.getElem?_eq_some_iff.1 this).1
    omega
  have w1 : ∀ i, i ∈ kI 0 ds → wordsI (kT 0 ns) (2 * i + 1) = [wInt (i : Nat), wordAt (6 * i)] := by
    intro i hi
    have hlt := klt i hi
    have := (kT_at ns 0 i _ (List.getElem?_eq_getElem hlt)).2
    unfold wordsI
    rw [this, Nat.zero_add]
  rw [bfs_mem]
  constructor
  · intro h
    induction h with
    | root w i hw hi =>
      rcases (hr w).1 hw with rfl | rfl | hw
      · unfold findI at hi; rw [if_neg (by omega)] at hi; cases hi
      · unfold findI at hi; rw [if_neg (by omega)] at hi; cases hi
      · obtain ⟨k, hk, rfl⟩ := List.mem_map.1 hw
        rw [(kT_find (klt k hk)).2] at hi
        cases hi
        exact List.mem_append_left _ (List.mem_map.2 ⟨k, hk, rfl⟩)
    | next j w i _ hw hi ih =>
      rcases List.mem_append.1 ih with h | h
      · obtain ⟨k, hk, rfl⟩ := List.mem_map.1 h
        rw [w1 k hk] at hw
        simp only [List.mem_cons, List.not_mem_nil, or_false] at hw
        rcases hw with rfl | rfl
        · rw [find_int] at hi; cases hi
        · rw [(kT_find (klt k hk)).1] at hi
          cases hi
          exact List.mem_append_right _ (List.mem_map.2 ⟨k, hk, rfl⟩)
      · obtain ⟨k, hk, rfl⟩ := List.mem_map.1 h
        have hlt := klt k hk
        have := (kT_at ns 0 k _ (List.getElem?_eq_getElem hlt)).1
        unfold wordsI at hw
        rw [this] at hw
        simp only [List.mem_cons, List.not_mem_nil, or_false] at hw
        rcases hw with rfl | rfl
        · rw [find_int] at hi; cases hi
        · unfold findI at hi; rw [if_neg (by omega)] at hi; cases hi
  · intro h
    have root : ∀ k ∈ kI 0 ds, Reached (kT 0 ns) rs (2 * k + 1) := fun k hk => .root _ _ ((hr _).2 (.inr (.inr (List.mem_map.2 ⟨k, hk, rfl⟩)))) (kT_find (klt k hk)).2
    rcases List.mem_append.1 h with h | h
    · obtain ⟨k, hk, rfl⟩ := List.mem_map.1 h
      exact root k hk
    · obtain ⟨k, hk, rfl⟩ := List.mem_map.1 h
      exact .next (2 * k + 1) (wordAt (6 * k)) _ (root k hk) (by rw [w1 k hk]; simp) (kT_find (klt k hk)).1
theorem sumR_perm (T : Things) {a b : List Nat} (ha : a.Nodup) (hb : b.Nodup) (h : ∀ i, i ∈ a ↔ i ∈ b) : sumR T a = sumR T b := by
  have hp : a.Perm b := (List.perm_ext_iff_of_nodup ha hb).2 h
  unfold sumR; exact (hp.map (roomI T)).sum_nat
theorem kL_sum {ns : List Int} {ds : List Bool} (hl : ds.length = ns.length) {rs : List Nat} (hr : ∀ w, w ∈ rs ↔ w = 26 ∨ w = 2 ∨ w ∈ (kI 0 ds).map fun i => wordAt (6 * i + 3)) : sumR (kT 0 ns) (bfs (kT 0 ns) rs) = 6 * (kI 0 ds).length := by
  rw [sumR_perm (kT 0 ns) (bfs_nodup _ _) (kL_nodup ds) (kL_mem hl hr)]
  have hroom : ∀ i, i < 2 * ns.length → roomI (kT 0 ns) i = 3 := by
    intro i hi
    have hlt : i / 2 < ns.length := by omega
    obtain ⟨h1, h2⟩ := kT_at ns 0 (i / 2) _ (List.getElem?_eq_getElem hlt)
    unfold roomI
    by_cases he : i % 2 = 0
    · rw [show i = 2 * (i / 2) by omega, h1]; rfl
    · rw [show i = 2 * (i / 2) + 1 by omega, h2]; rfl
  have hsum : ∀ l : List Nat, (∀ i ∈ l, i < 2 * ns.length) → sumR (kT 0 ns) l = 3 * l.length := by
    intro l
    induction l with
    | nil => intro _; rfl
    | cons a l ih =>
      intro h
      have := ih (fun i hi => h i (by simp [hi]))
      unfold sumR at this ⊢
      rw [List.map_cons, List.sum_cons, this, hroom a (h a (by simp)), List.length_cons]
      omega
  rw [hsum]
  · unfold kL; simp; omega
  · intro i hi
    have klt : ∀ i ∈ kI 0 ds, i < ns.length := by
      intro i hi
      have := ((kI_mem ds 0 i).1 hi).2
      have := (List.getElem?_eq_some_iff.1 this).1
      omega
    rcases List.mem_append.1 hi with h | h
    · obtain ⟨k, hk, rfl⟩ := List.mem_map.1 h
      have := klt k hk
      omega
    · obtain ⟨k, hk, rfl⟩ := List.mem_map.1 h
      have := klt k hk
      omega
theorem kI_len : ∀ (ds : List Bool) (j : Nat), (kI j ds).length = ds.count false
  | [], _ => rfl
  | d :: ds, j => by
    unfold kI
    cases d with
    | true => simp [kI_len ds]
    | false => simp [kI_len ds]
theorem kK_len : ∀ (ds : List Bool) (j : Nat), (kK j ds).length = ds.length
  | [], _ => rfl
  | d :: ds, j => by simp [kK, kK_len ds]
theorem kK_at : ∀ (ds : List Bool) (j i : Nat) (d : Bool), ds[i]? = some d → (kK j ds)[i]? = some (if d then (0, false) else (wordAt (6 * (j + i) + 3), true))
  | [], _, _, _, h => by simp at h
  | e :: ds, j, 0, d, h => by simp at h; subst h; rfl
  | e :: ds, j, i + 1, d, h => by
    have := kK_at ds (j + 1) i d (by simpa using h)
    rw [show j + (i + 1) = j + 1 + i by omega]
    unfold kK
    simpa using this
theorem kK_snoc : ∀ (n j : Nat), kK j (List.replicate n false) ++ [(wordAt (6 * (j + n) + 3), true)] = kK j (List.replicate (n + 1) false)
  | 0, j => rfl
  | n + 1, j => by
    have := kK_snoc n (j + 1)
    rw [List.replicate_succ, kK, List.cons_append, show j + (n + 1) = j + 1 + n by omega, this, List.replicate_succ (n := n + 1), kK]
theorem kK_set : ∀ (ds : List Bool) (j i : Nat), i < ds.length → (kK j ds).set i (0, false) = kK j (ds.set i true)
  | [], _, _, h => by simp at h
  | d :: ds, j, 0, _ => by simp [kK]
  | d :: ds, j, i + 1, h => by
    have := kK_set ds (j + 1) i (by simpa using h)
    simp [kK, this]
theorem kK_lt : ∀ (ds : List Bool) (j : Nat), ds.length + j ≤ 1000000 → ∀ x ∈ kK j ds, x.1 < 18446744073709551616
  | [], _, _, x, hx => by simp [kK] at hx
  | d :: ds, j, h, x, hx => by
    unfold kK at hx
    rcases List.mem_cons.1 hx with rfl | hx
    · cases d with
      | true => simp
      | false => simp [wordAt]; simp at h; omega
    · exact kK_lt ds (j + 1) (by simp at h; omega) x hx
/-- What is dropped up to a place. -/
def kD (D : List Bool) (i : Nat) : List Bool := D.take i ++ List.replicate (D.length - i) false
theorem kD_zero (D : List Bool) : kD D 0 = List.replicate D.length false := by simp [kD]
theorem kD_all (D : List Bool) : kD D D.length = D := by simp [kD]
theorem kD_len (D : List Bool) {i : Nat} (h : i ≤ D.length) : (kD D i).length = D.length := by simp [kD]; omega
theorem kD_next {D : List Bool} {i : Nat} (h : D[i]? = some false) : kD D (i + 1) = kD D i := by
  have hl := (List.getElem?_eq_some_iff.1 h).1
  unfold kD
  rw [List.take_add_one, h, show D.length - i = (D.length - (i + 1)) + 1 by omega, List.replicate_succ]
  simp
theorem kD_drop {D : List Bool} {i : Nat} (h : D[i]? = some true) : (kD D i).set i true = kD D (i + 1) := by
  have hl := (List.getElem?_eq_some_iff.1 h).1
  unfold kD
  rw [List.take_add_one, h, show D.length - i = (D.length - (i + 1)) + 1 by omega, List.replicate_succ, List.set_append_right _ _ (by simp; omega)]
  simp [Nat.min_eq_left (Nat.le_of_lt hl)]
/-- The machine as it is made; with things, and what is kept. -/
def keM (ns : List Int) (ds : List Bool) : MS := ⟨kT 0 ns, [], kK 0 ds, 0, 0, 0, 26, 2, 2, 2, 0, 0, []⟩
theorem keM_roots (ns : List Int) (ds : List Bool) (w : Nat) : w ∈ (keM ns ds).roots [] ↔ w = 26 ∨ w = 2 ∨ w ∈ (kI 0 ds).map fun i => wordAt (6 * i + 3) := by
  have : (keM ns ds).roots [] = [26, 2, 2, 2] ++ usedW (kK 0 ds) := by
    unfold MS.roots keM
    simp [usedW]
  rw [this, kK_used]
  simp only [List.mem_append, List.mem_cons, List.not_mem_nil, or_false]
  constructor
  · rintro ((h | h | h | h) | h)
    · exact .inl h
    · exact .inr (.inl h)
    · exact .inr (.inl h)
    · exact .inr (.inl h)
    · exact .inr (.inr h)
  · rintro (h | h | h)
    · exact .inl (.inl h)
    · exact .inl (.inr (.inl h))
    · exact .inr h
theorem keM_live {ns : List Int} {ds : List Bool} (hl : ds.length = ns.length) : sumR (keM ns ds).T (bfs (keM ns ds).T ((keM ns ds).roots [])) = 6 * ds.count false := by
  rw [← kI_len ds 0]
  exact kL_sum hl (keM_roots ns ds)
theorem keM_used {ns : List Int} {ds : List Bool} (hl : ds.length = ns.length) : usedOf ((keM ns ds).collect []).T = 6 * ds.count false := by
  show usedOf (outT _ _) = _
  rw [outT_used]
  exact keM_live hl
theorem keM_kept {ns : List Int} {ds : List Bool} (hl : ds.length = ns.length) (hn : ns.length ≤ 1000) {i : Nat} {n : Int} (h : ns[i]? = some n) (hb : -1099511627776 < n ∧ n < 1099511627776) :
    (ds[i]? = some true → ((keM ns ds).collect []).kept i = (0, 2)) ∧
    (ds[i]? = some false → ∃ w, ((keM ns ds).collect []).kept i = (w, 0) ∧ w < 18446744073709551616 ∧ showF ((keM ns ds).collect []).T 4 true w = some (kText (i : Nat) n)) := by
  have hi := (List.getElem?_eq_some_iff.1 h).1
  have hu : usedOf (kT 0 ns) ≤ 65536 := by rw [kT_used]; omega
  have hkp : ((keM ns ds).collect []).kp = mapW (tr (kT 0 ns) (bfs (kT 0 ns) ((keM ns ds).roots []))) (kK 0 ds) := rfl
  constructor
  · intro hd
    have := kK_at ds 0 i true hd
    unfold MS.kept
    rw [hkp]
    unfold mapW
    rw [List.getElem?_map, this]
    rfl
  · intro hd
    have h1 := kK_at ds 0 i false hd
    rw [Nat.zero_add] at h1
    have hF := bfs_closed (kT 0 ns) ((keM ns ds).roots [])
    have hw : ∀ j, findI (kT 0 ns) (wordAt (6 * i + 3)) = some j → j ∈ bfs (kT 0 ns) ((keM ns ds).roots []) := by
      intro j hj
      rw [(kT_find hi).2] at hj
      cases hj
      rw [kL_mem hl (keM_roots ns ds)]
      exact List.mem_append_left _ (List.mem_map.2 ⟨i, (kI_mem ds 0 i).2 ⟨by omega, by simpa using hd⟩, rfl⟩)
    refine ⟨tr (kT 0 ns) (bfs (kT 0 ns) ((keM ns ds).roots [])) (wordAt (6 * i + 3)), ?_, ?_, show_moved hF hu 4 true _ _ hw (kT_show h hb (by omega))⟩
    · unfold MS.kept
      rw [hkp]
      unfold mapW
      rw [List.getElem?_map, h1]
      rfl
    · exact tr_lt (bfs_nodup _ _) hF.lt hu (by unfold wordAt; omega) hw
theorem keM_used0 (ns : List Int) (ds : List Bool) : usedOf (keM ns ds).T = 6 * ns.length := kT_used ns 0
theorem keM_next {ns : List Int} {i : Nat} {n : Int} (h : ns[i]? = some n) :
    ({ keM (ns.take i) (List.replicate i false) with T := (kT 0 (ns.take i) ++ [⟨1, [wInt n, 2]⟩]) ++ [⟨1, [wInt (i : Nat), wordAt (6 * i)]⟩], kp := kK 0 (List.replicate i false) ++ [(wordAt (6 * i + 3), true)] } : MS) = keM (ns.take (i + 1)) (List.replicate (i + 1) false) := by
  have hl := (List.getElem?_eq_some_iff.1 h).1
  have h1 : kT 0 (ns.take (i + 1)) = (kT 0 (ns.take i) ++ [⟨1, [wInt n, 2]⟩]) ++ [⟨1, [wInt (i : Nat), wordAt (6 * i)]⟩] := by
    rw [List.take_add_one, h]
    have := kT_snoc (ns.take i) n 0
    rw [List.length_take, Nat.min_eq_left (by omega), Nat.zero_add] at this
    exact this
  have h2 : kK 0 (List.replicate (i + 1) false) = kK 0 (List.replicate i false) ++ [(wordAt (6 * i + 3), true)] := by
    have := kK_snoc i 0
    rw [Nat.zero_add] at this
    exact this.symm
  unfold keM
  rw [h1, h2]
theorem keM_rep_used (i : Nat) : ∀ x ∈ kK 0 (List.replicate i false), x.2 = true := by
  have : ∀ (i j : Nat), ∀ x ∈ kK j (List.replicate i false), x.2 = true := by
    intro i
    induction i with
    | zero => intro j x hx; simp [kK] at hx
    | succ i ih =>
      intro j x hx
      rw [List.replicate_succ, kK] at hx
      rcases List.mem_cons.1 hx with rfl | hx
      · rfl
      · exact ih (j + 1) x hx
  exact this i 0
theorem keM_drop {ns : List Int} {D : List Bool} {i : Nat} (h : D[i]? = some true) : ({ keM ns (kD D i) with kp := (kK 0 (kD D i)).set i (0, false) } : MS) = keM ns (kD D (i + 1)) := by
  have hl := (List.getElem?_eq_some_iff.1 h).1
  unfold keM
  rw [kK_set _ _ _ (by rw [kD_len D (by omega)]; exact hl), kD_drop h]
theorem kD_rest {D : List Bool} {i j : Nat} (h : i ≤ j) (hj : j < D.length) : (kD D i)[j]? = some false := by
  unfold kD
  rw [List.getElem?_append_right (by simp; omega), List.getElem?_replicate, if_pos (by simp; omega)]
end Go.HL
/-
  VmKeeps, run inside the kernel up to its first loop: what is looked at.
-/
namespace Go.HL
open Go.Proofs Go.RowKit
set_option maxRecDepth 1000000
set_option linter.unusedSimpArgs false
set_option linter.unusedVariables false
noncomputable def keChk (x y : Value) : Option (List (Option Value) × List (Option HObj) × Nat) :=
  KX.rec none (fun _ fr m h => some ([fr.walk (path 0), fr.walk (path 1), fr.walk (path 5), fr.walk (path 6)],
    [h.walk (path 60), h.walk (path 57), h.walk (path 55), h.walk (path 56), h.walk (path 58)], m)) (keX x y)
def keVb : Value := .slice (some ⟨65, 0, some 4⟩) 1 1
def keVn : Value := .slice (some ⟨58, 0, none⟩) 0 0
def keGood (x y : Value) : Option (List (Option Value) × List (Option HObj) × Nat) :=
  some ([some x, some y, some (.bool true), some (ptr 60 0)],
    [some (.cells (mcells keVb 57 keVn (.slice none 0 0) (.slice none 0 0) (keM [] [])) true), some (.cells (acells 55 56 400 (keM [] []).T) true), some (.cells (wcells 400 (keM [] []).T) true), some (.cells (hcells 400 (keM [] []).T) true), some (.cells (scells (keM [] []).nm) true)], 66)
theorem keRun (x y : Value) : keChk x y = keGood x y := by kernel_rfl
end Go.HL
/-
  VmKeeps: the machine that was made, out of what was looked at.
-/
namespace Go.HL
open Go.Proofs Go.RowKit
set_option maxHeartbeats 4000000
set_option maxRecDepth 1000000
set_option linter.unusedSimpArgs false
set_option linter.unusedVariables false
def keZ : Zs := fun b => b = 0 ∨ b = 1
theorem pl_keAll : [0, 1, 5, 6, 60, 57, 55, 56, 58].all placed = true := by kernel_rfl
theorem pl_ke {b : Nat} (h : b ∈ [0, 1, 5, 6, 60, 57, 55, 56, 58]) : placed b = true := List.all_eq_true.1 pl_keAll b h
theorem ke_zero (o0 o1 : Option HObj) : with01 o0 o1 (absH 2 .nil) = ⟨2, fun b => if b = 0 then o0 else if b = 1 then o1 else none⟩ := by
  unfold with01 absH
  congr 1
  funext b
  by_cases h0 : b = 0
  · subst h0; rfl
  · by_cases h1 : b = 1
    · subst h1; rfl
    · rw [if_neg h0, if_neg h1, if_neg h0, if_neg h1]; exact Tr.at_nil b
theorem ke_made {H : HHeap}
    (h0 : H.get 60 = some (.cells (mcells keVb 57 keVn (.slice none 0 0) (.slice none 0 0) (keM [] [])) true))
    (h1 : H.get 57 = some (.cells (acells 55 56 400 (keM [] []).T) true)) (h2 : H.get 55 = some (.cells (wcells 400 (keM [] []).T) true)) (h3 : H.get 56 = some (.cells (hcells 400 (keM [] []).T) true)) (h4 : H.get 58 = some (.cells (scells (keM [] []).nm) true)) :
    MIn keZ H 60 400 keVb 57 55 56 keVn (.slice none 0 0) (.slice none 0 0) (keM [] []) where
  m := h0
  A := ⟨h1, h2, h3, by show (0 : Nat) ≤ 400; omega, by omega, by omega, (fun t ht => by cases ht), by omega, by omega, by omega⟩
  nm := ⟨58, rfl, h4⟩
  kp := Gr.nil _ _ _
  ask := Gr.nil _ _ _
  ok := by
    refine ⟨by show (26 : Nat) < _; omega, by show (2 : Nat) < _; omega, by show (2 : Nat) < _; omega, by show (2 : Nat) < _; omega, ?_, ?_, by show (0 : Nat) < _; omega, by show (0 : Nat) < _; omega, by show (0 : Nat) ≤ _; omega, by show (0 : Nat) ≤ _; omega, by show (0 : Nat) ≤ _; omega⟩
    · intro x hx; cases hx
    · intro x hx; cases hx
  zp := by
    unfold keZ keVn
    refine ⟨by omega, by omega, by omega, by omega, fun b hb => ?_⟩
    simp [sblk] at hb
    omega
  pg := by omega
  dn := fun b hb => by simp [sblk, keVn] at hb; omega
  dk := fun b hb => by simp [sblk] at hb
  da := fun b hb => by simp [sblk] at hb
theorem keStart (x y : Value) (o0 o1 : Option HObj) : ∃ e fr m h, keX x y = .ok e fr m h ∧ FLe (hfr 171 [(0, x), (1, y), (5, .bool true), (6, ptr 60 0)]) (absF 171 fr) ∧
    MIn keZ (with01 o0 o1 (absH m h)) 60 400 keVb 57 55 56 keVn (.slice none 0 0) (.slice none 0 0) (keM [] []) ∧ (∀ b, keZ b → b < (with01 o0 o1 (absH m h)).next) := by
  have hc := keRun x y
  unfold keChk keGood at hc
  cases hx : keX x y with
  | bad => rw [hx] at hc; cases hc
  | ok e fr m h =>
    rw [hx] at hc
    simp only [Option.some.injEq, Prod.mk.injEq, List.cons.injEq, and_true] at hc
    obtain ⟨⟨s0, s1, s5, s6⟩, ⟨b2, b3, b4, b5, b6⟩, hm⟩ := hc
    have at2 : ∀ {b : Nat} {o : HObj}, placed b = true → b ≠ 0 → b ≠ 1 → h.walk (path b) = some o → (with01 o0 o1 (absH m h)).get b = some o := by
      intro b o hp h0 h1 hw
      rw [with01_ne h0 h1]
      show Tr.at h b = _
      unfold Tr.at
      rw [hp]
      exact hw
    refine ⟨e, fr, m, h, rfl, fle_abs fun p hp => ?_, ke_made (at2 (pl_ke (by simp)) (by omega) (by omega) b2) (at2 (pl_ke (by simp)) (by omega) (by omega) b3) (at2 (pl_ke (by simp)) (by omega) (by omega) b4) (at2 (pl_ke (by simp)) (by omega) (by omega) b5) (at2 (pl_ke (by simp)) (by omega) (by omega) b6), ?_⟩
    · simp only [List.mem_cons, List.not_mem_nil, or_false] at hp
      rcases hp with rfl | rfl | rfl | rfl
      · exact ⟨pl_ke (by simp), s0⟩
      · exact ⟨pl_ke (by simp), s1⟩
      · exact ⟨pl_ke (by simp), s5⟩
      · exact ⟨pl_ke (by simp), s6⟩
    · intro b hb
      show b < m
      unfold keZ at hb
      omega
end Go.HL
