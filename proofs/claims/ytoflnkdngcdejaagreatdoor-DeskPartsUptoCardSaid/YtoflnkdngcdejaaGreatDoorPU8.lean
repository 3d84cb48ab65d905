/-
  What the library answers: strings.Index, strings.Join, strconv.Itoa, strings.Split, at the high level; what is looked up by a run of the evaluator.
-/
import Derived.Test.YtoflnkdngcdejaaGreatDoorPU2
import Derived.Test.YtoflnkdngcdejaaGreatDoorPU6
import Derived.Test.YtoflnkdngcdejaaGreatDoorPLY
import Derived.Test.YtoflnkdngcdejaaGreatDoorPB1
import Derived.Lib.AppendIntMem
set_option linter.unusedVariables false
set_option linter.unusedSimpArgs false
namespace Go.HL
open Go.RowKit Go.Proofs
set_option linter.unusedSimpArgs false
set_option linter.unusedVariables false
set_option maxRecDepth 100000

/-- The first place of a text in a text. -/
def idxAt (sub : List UInt8) : List UInt8 → Nat → Option Nat
  | [], i => if sub.isEmpty then some i else none
  | b :: l, i => if sub.isPrefixOf (b :: l) then some i else idxAt sub l (i + 1)
theorem idxAt_eq (sub : List UInt8) : ∀ (l : List UInt8) (i : Nat), match idxAt sub l i with | none => Lib.index l sub = -1 | some j => Lib.index l sub = (j : Int) - i ∧ i ≤ j
  | [], i => by
    unfold idxAt Lib.index
    cases h : sub.isEmpty <;> simp
  | b :: l, i => by
    have ih := idxAt_eq sub l (i + 1)
    unfold idxAt Lib.index
    cases h : sub.isPrefixOf (b :: l) with
    | true => simp
    | false =>
      simp only [Bool.false_eq_true, if_false]
      cases hj : idxAt sub l (i + 1) with
      | none => rw [hj] at ih; simp only at ih ⊢; rw [ih]; rfl
      | some j =>
        rw [hj] at ih
        simp only at ih ⊢
        obtain ⟨h1, h2⟩ := ih
        rw [if_neg (by simp only [beq_iff_eq]; omega)]
        omega
def idxVal (s sub : ByteArray) : Value := match idxAt sub.data.toList s.data.toList 0 with | some j => .int .i64 (.ofNat j) | none => .int .i64 (.negSucc 0)
theorem idxVal_eq (s sub : ByteArray) : Value.int .i64 (Lib.indexB s sub) = idxVal s sub := by
  have h := idxAt_eq sub.data.toList s.data.toList 0
  unfold idxVal
  show Value.int .i64 (Lib.index s.data.toList sub.data.toList) = _
  cases hj : idxAt sub.data.toList s.data.toList 0 with
  | none => rw [hj] at h; simp only at h ⊢; rw [h]; rfl
  | some j => rw [hj] at h; simp only at h ⊢; rw [h.1]; simp
theorem strings_Index (s sub : ByteArray) (hs : s.size < 4294967281) (H : HHeap) : HCalls Tryz.prog 29 [.string s, .string sub] H fun v' H' => v' = idxVal s sub ∧ H' = H := by
  refine HCalls.of_calls (by rfl) (by unfold idxVal; split <;> rfl) (fun w ht => ?_) H
  obtain ⟨hg, m, hm⟩ := ht.num 0 (by simp [hints])
  refine (Any.strings_Index Tryz.lays143 s sub m w hs hm).mono ?_
  rintro e w' ⟨rfl, rfl⟩
  exact ⟨by rw [idxVal_eq], Below.refl _ _⟩
theorem strconv_Itoa (n : Int) (h0 : -9223372036854775808 ≤ n) (h1 : n ≤ 9223372036854775807) (H : HHeap) : HCalls Tryz.prog 17 [.int .i64 n] H fun v' H' => v' = .string ⟨(Lib.itoa n).toArray⟩ ∧ H' = H := by
  refine HCalls.of_calls (by rfl) rfl (fun w ht => ?_) H
  obtain ⟨hg, e, fz, hr⟩ := ht.row (3, (Lib.pow10Tab.map fun z => Value.int .u64 z).toArray) (by simp [htabs])
  have htab : Lib.TabIs Tryz.prog w "internal/strconv.uint64pow10" .u64 Lib.pow10Tab := by
    unfold Lib.TabIs World.var?
    rw [show Tryz.prog.globalNamed "internal/strconv.uint64pow10" = some 3 by kernel_rfl]
    simp only [Option.bind_some, hr]
  refine (Any.strconv_Itoa Tryz.laysM171 n h0 h1 w htab).mono ?_
  rintro r w' ⟨rfl, k, os, rfl⟩
  exact ⟨rfl, Lib.below_grow _ _ (Nat.le_refl _) k os⟩
theorem builder_extra : Builder.Extra Tryz.prog Tryz.lays156_ren where
  sizeBuilder := by kernel_rfl
  liesBuilder := by kernel_rfl
  t5 := Tryz.underlying5
  a5 := Tryz.isAgg5
  z5 := Tryz.sizeOf5
  v5 := Tryz.zeroValue5
  infoByte := by kernel_rfl
  cellsByte := by kernel_rfl
  sizeByte := by kernel_rfl
  neB5 := by decide
theorem strings_Join {H : HHeap} {b : Nat} {sp : Option Nat} {n c : Nat} {cs : List Value} {rw' : Bool} {xs : List ByteArray} {sep : ByteArray} (hb : H.get b = some (.cells cs rw')) (hcs : cs.take n = xs.map Value.string) (hn : xs.length = n) (h0 : 0 < n) (hN : n ≤ 140737488355328)
    (hlen : (Lib.join (xs.map (·.data.toList)) sep.data.toList).length ≤ 140737488355328) :
    HCalls Tryz.prog 11 [.slice (some ⟨b, 0, sp⟩) n c, .string sep] H fun v' H' => v' = .string ⟨(Lib.join (xs.map (·.data.toList)) sep.data.toList).toArray⟩ ∧ H' = H := by
  subst hn
  exact HCalls.of_calls_texts hb hcs rfl h0 rfl fun w bk o c hc hbk hcap => Any.strings_Join Tryz.lays156 builder_extra bk o c xs sep w hc hbk hN hcap hlen
theorem strings_Join_nil (sep : ByteArray) (H : HHeap) : HCalls Tryz.prog 11 [.slice none 0 0, .string sep] H fun v' H' => v' = .string ⟨#[]⟩ ∧ H' = H := by
  refine HCalls.of_calls (by rfl) rfl (fun w ht => ?_) H
  refine (Any.strings_Join_none Tryz.lays156 builder_extra none 0 sep w).mono ?_
  rintro e w' ⟨rfl, rfl⟩
  exact ⟨rfl, Below.refl _ _⟩
/-- What a run looks up. -/
noncomputable def idxV (args : List Value) : Option Value :=
  match args with
  | [.string s, .string sub] => Bool.rec none (some (idxVal s sub)) (Nat.ble s.data.toList.length 1000000)
  | _ => none
noncomputable def orcIdx : KOrc := fun g args => Bool.rec none (idxV args) (Nat.beq g 29)
theorem orcIdx_ok : OrcOk Tryz.prog orcIdx := by
  intro g args v h H
  unfold orcIdx at h
  cases hg : Nat.beq g 29 with
  | false => rw [hg] at h; cases h
  | true =>
    rw [hg] at h
    have hg := Nat.eq_of_beq_eq_true hg
    subst hg
    have h : idxV args = some v := h
    unfold idxV at h
    split at h
    · rename_i s sub _
      cases hl : Nat.ble s.data.toList.length 1000000 with
      | false => rw [hl] at h; cases h
      | true =>
        rw [hl] at h
        have hl := Nat.le_of_ble_eq_true hl
        have h : some (idxVal s sub) = some v := h
        have h := Option.some.inj h
        subst h
        exact strings_Index s sub (by rw [← ByteArray.size_data, ← Array.length_toList]; omega) H
    · cases h
def strsOf : List Value → Option (List ByteArray)
  | [] => some []
  | .string s :: l => (strsOf l).map fun r => s :: r
  | _ :: _ => none
theorem strsOf_eq : ∀ {l : List Value} {xs : List ByteArray}, strsOf l = some xs → l = xs.map Value.string
  | [], xs, h => by simp [strsOf] at h; subst h; rfl
  | v :: l, xs, h => by
    unfold strsOf at h
    split at h
    · rename_i e; cases e
    · rename_i s l' e
      cases e
      simp only [Option.map_eq_some_iff] at h
      obtain ⟨r, hr, rfl⟩ := h
      rw [strsOf_eq hr]; rfl
    · cases h
noncomputable def joinV (args : List Value) (h : Tr HObj) : Option Value :=
  match args with
  | [.slice (some ⟨b, 0, _⟩) n _, .string sep] =>
    match h.at b with
    | some (.cells cs _) =>
      match strsOf (cs.take n) with
      | some xs => if xs.length = n ∧ 0 < n ∧ n ≤ 1000000 ∧ (joinF sep.data.toList (xs.map (·.data.toList))).length ≤ 1000000 then some (.string ⟨(joinF sep.data.toList (xs.map (·.data.toList))).toArray⟩) else none
      | none => none
    | _ => none
  | _ => none
noncomputable def orcJoin : KOrcH := fun g args h => Bool.rec none (joinV args h) (Nat.beq g 11)
theorem orcJoin_ok : OrcHOk Tryz.prog orcJoin := by
  intro g args n h v hv
  unfold orcJoin at hv
  cases hg : Nat.beq g 11 with
  | false => rw [hg] at hv; cases hv
  | true =>
    rw [hg] at hv
    have hg := Nat.eq_of_beq_eq_true hg
    subst hg
    have hv : joinV args h = some v := hv
    unfold joinV at hv
    split at hv
    · rename_i b sp m c sep
      split at hv
      · rename_i cs rw' hb
        split at hv
        · rename_i xs hx
          split at hv
          · rename_i hc
            obtain ⟨h1, h2, h3, h4⟩ := hc
            cases hv
            rw [← joinF_join] at h4 ⊢
            exact strings_Join (H := absH n h) hb (strsOf_eq hx) h1 h2 (by omega) (by omega)
          · cases hv
        · cases hv
      · cases hv
    · cases hv
end Go.HL
