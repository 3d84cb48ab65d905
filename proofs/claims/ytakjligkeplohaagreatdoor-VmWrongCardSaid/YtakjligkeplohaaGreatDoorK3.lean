/-
  A way to run code on given data inside the kernel, part 3: operations.
-/
import Derived.Test.YtakjligkeplohaaGreatDoorK2
namespace Go.HL
open Go.RowKit
set_option linter.unusedSimpArgs false
set_option linter.unusedVariables false

variable {P : Program}

abbrev KOp := Tr Value → Nat → Tr HObj → (Value → Nat → Tr HObj → KX) → KX
def KOk (P : Program) (sz : Nat) (op : Op) (g : KOp) : Prop :=
  ∀ fr n h k, g fr n h k ≠ .bad → ∃ v n' h', hop P (absF sz fr) (absH n h) op = some (v, absH n' h') ∧ g fr n h k = k v n' h'

def kbadOp : KOp := fun _ _ _ _ => .bad
theorem kbadOp_ok (sz : Nat) (op : Op) : KOk P sz op kbadOp := fun fr n h k hk => absurd rfl hk

noncomputable def kpush (n : Nat) (h : Tr HObj) (o : HObj) (k : Nat → Tr HObj → KX) : KX := (tpB HObj n).on fun g => g (some o) h fun h' => forceNat (Nat.succ n) fun n' => k n' h'
theorem kpush_ok {n : Nat} {h : Tr HObj} {o : HObj} {k : Nat → Tr HObj → KX} (hk : kpush n h o k ≠ .bad) : ∃ n' h', (absH n h).push o = absH n' h' ∧ kpush n h o k = k n' h' := by
  unfold kpush at hk ⊢
  rw [tpB_eq] at hk ⊢
  rw [forceNat_eq] at hk ⊢
  cases hp : placed n with
  | false => rw [hp] at hk; exact absurd rfl hk
  | true => exact ⟨_, _, absH_push hp o, rfl⟩
noncomputable def kset (b : Nat) (h : Tr HObj) (o : HObj) (k : Tr HObj → KX) : KX := (tpB HObj b).on fun g => g (some o) h k
theorem kset_ok {n b : Nat} {h : Tr HObj} {o : HObj} {k : Tr HObj → KX} (hk : kset b h o k ≠ .bad) : ∃ h', (absH n h).set b o = absH n h' ∧ kset b h o k = k h' := by
  unfold kset at hk ⊢
  rw [tpB_eq] at hk ⊢
  cases hp : placed b with
  | false => rw [hp] at hk; exact absurd rfl hk
  | true => exact ⟨_, absH_set hp o, rfl⟩
noncomputable def kkill (b : Nat) (h : Tr HObj) (k : Tr HObj → KX) : KX := (tpB HObj b).on fun g => g none h k
theorem kkill_ok {n b : Nat} {h : Tr HObj} {k : Tr HObj → KX} (hk : kkill b h k ≠ .bad) : ∃ h', (absH n h).kill b = absH n h' ∧ kkill b h k = k h' := by
  unfold kkill at hk ⊢
  rw [tpB_eq] at hk ⊢
  cases hp : placed b with
  | false => rw [hp] at hk; exact absurd rfl hk
  | true => exact ⟨_, absH_kill hp, rfl⟩

/-- move, assign. -/
noncomputable def kMove (x : Operand) : KOp := fun fr n h k => kev x fr fun v => k v n h
theorem kMove_ok (sz : Nat) (x : Operand) : KOk P sz (.move x) (kMove x) ∧ KOk P sz (.assign x) (kMove x) := by
  constructor <;>
  · intro fr n h k hk
    obtain ⟨v, h1, h2⟩ := kev_ok (sz := sz) (fun v => k v n h) hk
    exact ⟨v, n, h, by simp only [hop, h1]; rfl, h2⟩

/-- pick. -/
noncomputable def kboolV (v : Value) (x y : KX) : KX := match v with | .bool b => Bool.rec y x b | _ => .bad
noncomputable def kPick (c a b : Operand) : KOp := fun fr n h k => kev c fr fun v => kboolV v (kev a fr fun v => k v n h) (kev b fr fun v => k v n h)
theorem kPick_ok (sz : Nat) (c a b : Operand) : KOk P sz (.pick c a b) (kPick c a b) := by
  intro fr n h k hk
  obtain ⟨v, h1, h2⟩ := kev_ok (sz := sz) (fun v => kboolV v (kev a fr fun v => k v n h) (kev b fr fun v => k v n h)) hk
  unfold kPick at hk ⊢
  rw [h2] at hk ⊢
  unfold kboolV at hk ⊢
  split at hk
  · rename_i t
    cases t with
    | true =>
      obtain ⟨u, h3, h4⟩ := kev_ok (sz := sz) (fun v => k v n h) hk
      exact ⟨u, n, h, by simp only [hop, h1, h3]; rfl, h4⟩
    | false =>
      obtain ⟨u, h3, h4⟩ := kev_ok (sz := sz) (fun v => k v n h) hk
      exact ⟨u, n, h, by simp only [hop, h1, h3]; rfl, h4⟩
  · exact absurd rfl hk

/-- alloc, box. -/
noncomputable def kNew (cs : List Value) : KOp := fun fr n h k => kpush n h (.cells cs true) fun n' h' => k (.pointer (some ⟨n, 0, none⟩)) n' h'
noncomputable def kAlloc (P : Program) (t : TypeId) : KOp := match helem P t with | some e => kNew e.zero | none => kbadOp
theorem kAlloc_ok (sz : Nat) (t : TypeId) : KOk P sz (.alloc t) (kAlloc P t) := by
  unfold kAlloc
  split
  · rename_i e he
    intro fr n h k hk
    obtain ⟨n', h', h1, h2⟩ := kpush_ok hk
    exact ⟨_, n', h', by simp only [hop, halloc, he, Option.map_some]; rw [h1]; rfl, h2⟩
  · exact kbadOp_ok _ _
noncomputable def kBox (x : Operand) : KOp := fun fr n h k => kev x fr fun v => Bool.rec .bad (kNew v.cells.toList fr n h k) (allOne v.cells.toList)
theorem kBox_ok (sz : Nat) (t : TypeId) (x : Operand) : KOk P sz (.box t x) (kBox x) := by
  intro fr n h k hk
  unfold kBox at hk ⊢
  obtain ⟨v, h1, h2⟩ := kev_ok (sz := sz) _ hk
  rw [h2] at hk ⊢
  cases ha : allOne v.cells.toList with
  | false => rw [ha] at hk; exact absurd rfl hk
  | true =>
    rw [ha] at hk
    obtain ⟨n', h', h3, h4⟩ := kpush_ok hk
    exact ⟨_, n', h', by simp only [hop, h1, Option.bind_some, hbox, ha, if_true]; rw [h3]; rfl, h4⟩

/-- Rows of operands. -/
noncomputable def kevs (xs : List Operand) : Tr Value → (List Value → KX) → KX :=
  List.rec (motive := fun _ => Tr Value → (List Value → KX) → KX) (fun _ k => k []) (fun x _ ih fr k => kev x fr fun v => ih fr fun vs => k (v :: vs)) xs
theorem kevs_ok {sz : Nat} {fr : Tr Value} : ∀ (xs : List Operand), Thru (kevs xs fr) fun vs => hevs (absF sz fr) xs = some vs
  | [], k, hk => ⟨[], rfl, rfl⟩
  | x :: xs, k, hk => by
    have e : kevs (x :: xs) fr k = kev x fr fun v => kevs xs fr fun vs => k (v :: vs) := rfl
    rw [e] at hk ⊢
    obtain ⟨v, h1, h2⟩ := kev_ok (sz := sz) _ hk
    rw [h2] at hk ⊢
    obtain ⟨vs, h3, h4⟩ := kevs_ok (sz := sz) xs _ hk
    exact ⟨v :: vs, by simp only [hevs, h1, h3, Option.bind_some, Option.map_some], h4⟩
noncomputable def kparts (xs : List (Nat × Operand)) : Tr Value → (List (Nat × Value) → KX) → KX :=
  List.rec (motive := fun _ => Tr Value → (List (Nat × Value) → KX) → KX) (fun _ k => k []) (fun x _ ih fr k => kev x.2 fr fun v => ih fr fun vs => k ((x.1, v) :: vs)) xs
theorem kparts_ok {sz : Nat} {fr : Tr Value} : ∀ (xs : List (Nat × Operand)), Thru (kparts xs fr) fun vs => hparts (absF sz fr) xs = some vs
  | [], k, hk => ⟨[], rfl, rfl⟩
  | (i, x) :: xs, k, hk => by
    have e : kparts ((i, x) :: xs) fr k = kev x fr fun v => kparts xs fr fun vs => k ((i, v) :: vs) := rfl
    rw [e] at hk ⊢
    obtain ⟨v, h1, h2⟩ := kev_ok (sz := sz) _ hk
    rw [h2] at hk ⊢
    obtain ⟨vs, h3, h4⟩ := kparts_ok (sz := sz) xs _ hk
    exact ⟨(i, v) :: vs, by simp only [hparts, h1, h3, Option.bind_some, Option.map_some], h4⟩

/-- A row of cells made at once. -/
noncomputable def klist (l : List Value) : (List Value → KX) → KX :=
  List.rec (motive := fun _ => (List Value → KX) → KX) (fun k => k []) (fun v _ ih k => forceV v fun v => ih fun r => k (v :: r)) l
theorem klist_eq : ∀ (l : List Value) (k : List Value → KX), klist l k = k l
  | [], _ => rfl
  | v :: l, k => by
    show forceV v (fun v => klist l fun r => k (v :: r)) = _
    rw [forceV_eq, klist_eq l]

/-- build. -/
noncomputable def kagg (v : Value) (k : Value → KX) : KX := match v with | .agg cs => klist cs.toList fun l => k (.agg l.toArray) | v => k v
theorem kagg_eq (v : Value) (k : Value → KX) : kagg v k = k v := by
  unfold kagg
  split
  · rw [klist_eq]
  · rfl
noncomputable def kBuild (P : Program) (t : TypeId) (ps : List (Nat × Operand)) : KOp := fun fr n h k => kparts ps fr fun vs => kslow (hbuild P t vs) fun v => kagg v fun v => k v n h
theorem kBuild_ok (sz : Nat) (t : TypeId) (ps : Array (Nat × Operand)) : KOk P sz (.build t ps) (kBuild P t ps.toList) := by
  intro fr n h k hk
  unfold kBuild at hk ⊢
  obtain ⟨vs, h1, h2⟩ := kparts_ok (sz := sz) _ _ hk
  rw [h2] at hk ⊢
  obtain ⟨v, h3, h4⟩ := kslow_ok _ _ hk
  exact ⟨v, n, h, by simp only [hop, h1, Option.bind_some, h3, Option.map_some], by rw [h4, kagg_eq]⟩
/-- buildSlice, makeSlice, makeMap. -/
def hbuildCells (P : Program) (t : TypeId) (len : Nat) (ps : List (Nat × Value)) : Option (List Value) :=
  match P.underlying t with
  | some (.slice u) => (helem P u).bind fun e =>
    if 0 < e.size ∧ len * e.size ≤ 16777216 then
      (hfill (fun i => some (i * e.size, e.size)) (hzeros e.zero (len * e.size)) ps).bind fun cs => if allOne cs then some cs else none
    else none
  | _ => none
theorem hbuildSlice_eq (H : HHeap) (t : TypeId) (len : Nat) (ps : List (Nat × Value)) : hbuildSlice P H t len ps = (hbuildCells P t len ps).map fun cs => (.slice (some ⟨H.next, 0, none⟩) len len, H.push (.cells cs true)) := by
  unfold hbuildSlice hbuildCells
  split
  · rename_i u hu
    simp only [hu]
    cases helem P u with
    | none => rfl
    | some e =>
      simp only [Option.bind_some]
      split
      · cases hfill (fun i => some (i * e.size, e.size)) (hzeros e.zero (len * e.size)) ps with
        | none => rfl
        | some cs =>
          simp only [Option.bind_some]
          split <;> rfl
      · rfl
  · split <;> simp_all
noncomputable def kRow (o : Option (List Value)) (l c : Nat) : KOp := fun fr n h k => Option.rec .bad (fun cs => klist cs fun cs => kpush n h (.cells cs true) fun n' h' => k (.slice (some ⟨n, 0, none⟩) l c) n' h') o
noncomputable def kBuildSlice (P : Program) (t : TypeId) (len : Nat) (ps : List (Nat × Operand)) : KOp := fun fr n h k => kparts ps fr fun vs => kRow (hbuildCells P t len vs) len len fr n h k
theorem kRow_ok {o : Option (List Value)} {l c : Nat} {fr : Tr Value} {n : Nat} {h : Tr HObj} {k : Value → Nat → Tr HObj → KX} (hk : kRow o l c fr n h k ≠ .bad) :
    ∃ cs n' h', o = some cs ∧ (absH n h).push (.cells cs true) = absH n' h' ∧ kRow o l c fr n h k = k (.slice (some ⟨n, 0, none⟩) l c) n' h' := by
  unfold kRow at hk ⊢
  cases o with
  | none => exact absurd rfl hk
  | some cs =>
    simp only [klist_eq] at hk ⊢
    obtain ⟨n', h', h1, h2⟩ := kpush_ok hk
    exact ⟨cs, n', h', rfl, h1, h2⟩
theorem kBuildSlice_ok (sz : Nat) (t : TypeId) (len : Nat) (ps : Array (Nat × Operand)) : KOk P sz (.buildSlice t len ps) (kBuildSlice P t len ps.toList) := by
  intro fr n h k hk
  unfold kBuildSlice at hk ⊢
  obtain ⟨vs, h1, h2⟩ := kparts_ok (sz := sz) _ _ hk
  rw [h2] at hk ⊢
  obtain ⟨cs, n', h', h3, h4, h5⟩ := kRow_ok hk
  exact ⟨_, n', h', by simp only [hop, h1, Option.bind_some, hbuildSlice_eq, h3, Option.map_some]; rw [h4]; rfl, h5⟩
def hmakeCells (P : Program) (t : TypeId) (l c : Value) : Option (List Value × Nat × Nat) :=
  match P.underlying t, l, c with
  | some (.slice u), .int _ l, .int _ c => (helem P u).bind fun e =>
    if 0 < e.size ∧ 0 ≤ l ∧ l ≤ c ∧ c * e.bytes ≤ 1099511627776 ∧ c ≤ 1099511627776 then some (hzeros e.zero (c.toNat * e.size), l.toNat, c.toNat) else none
  | _, _, _ => none
theorem hmakeSlice_eq (H : HHeap) (t : TypeId) (l c : Value) : hmakeSlice P H t l c = (hmakeCells P t l c).map fun r => (.slice (some ⟨H.next, 0, none⟩) r.2.1 r.2.2, H.push (.cells r.1 true)) := by
  unfold hmakeSlice hmakeCells
  split
  · rename_i u k l k' c hu
    simp only [hu]
    cases helem P u with
    | none => rfl
    | some e =>
      simp only [Option.bind_some]
      split <;> rfl
  · split
    · simp_all
      rename_i hn
      exact (hn _ _ _ _ _ rfl rfl rfl rfl rfl).elim
    · rfl
noncomputable def kMk (o : Option (List Value × Nat × Nat)) : KOp := fun fr n h k => Option.rec .bad (fun r => forceNat r.2.1 fun l => forceNat r.2.2 fun c => kRow (some r.1) l c fr n h k) o
def kintV (v : Value) (x : KX) : KX := match v with | .int _ _ => x | _ => .bad
noncomputable def kMakeSlice (P : Program) (t : TypeId) (l c : Operand) : KOp := fun fr n h k => kev l fr fun a => kev c fr fun b => kintV a (kintV b (kMk (hmakeCells P t a b) fr n h k))
theorem kMakeSlice_ok (sz : Nat) (t : TypeId) (l c : Operand) : KOk P sz (.makeSlice t l c) (kMakeSlice P t l c) := by
  intro fr n h k hk
  unfold kMakeSlice at hk ⊢
  obtain ⟨a, h1, h2⟩ := kev_ok (sz := sz) _ hk
  rw [h2] at hk ⊢
  obtain ⟨b, h3, h4⟩ := kev_ok (sz := sz) _ hk
  rw [h4] at hk ⊢
  unfold kintV at hk ⊢
  split at hk
  · rename_i ik x
    split at hk
    · rename_i jk y
      unfold kMk at hk ⊢
      cases ho : hmakeCells P t (.int ik x) (.int jk y) with
      | none => rw [ho] at hk; exact absurd rfl hk
      | some r =>
        rw [ho] at hk
        simp only [forceNat_eq] at hk ⊢
        obtain ⟨cs, n', h', h5, h6, h7⟩ := kRow_ok hk
        cases h5
        exact ⟨_, n', h', by simp only [hop, h1, h3, hmakeSlice_eq, ho, Option.map_some]; rw [h6]; rfl, h7⟩
    · exact absurd rfl hk
  · exact absurd rfl hk
noncomputable def kMakeMap : KOp := fun fr n h k => kpush n h (.map []) fun n' h' => k (.map (some n)) n' h'
theorem kMakeMap_ok (sz : Nat) (t : TypeId) : KOk P sz (.makeMap t none) kMakeMap := by
  intro fr n h k hk
  obtain ⟨n', h', h1, h2⟩ := kpush_ok hk
  exact ⟨_, n', h', by simp only [hop]; rw [h1]; rfl, h2⟩

/-- load. -/
noncomputable def kLoad1 (a : Operand) : KOp := fun fr n h k => kev a fr fun p => kaddr p fun b o => kcells b h fun cs _ => Option.rec .bad (fun v => k v n h) (knth cs o)
noncomputable def kLoadA (s : Nat) (a : Operand) : KOp := fun fr n h k => kev a fr fun p => kaddr p fun b o => kcells b h fun cs _ => ktake s (kdrop o cs) fun l => k (.agg l.toArray) n h
noncomputable def kLoad (P : Program) (t : TypeId) (a : Operand) : KOp :=
  match hagg P t with
  | some true => (match hsize P t with | some s => Bool.rec kbadOp (kLoadA s a) (Nat.ble 1 s) | none => kbadOp)
  | some false => kLoad1 a
  | none => kbadOp
theorem kLoad_ok (sz : Nat) (t : TypeId) (a : Operand) : KOk P sz (.load t a) (kLoad P t a) := by
  unfold kLoad
  split
  · rename_i ht
    split
    · rename_i s hs
      cases hb : Nat.ble 1 s with
      | false => exact kbadOp_ok _ _
      | true =>
        have h0 := Nat.le_of_ble_eq_true hb
        intro fr n h k hk
        have hk : kLoadA s a fr n h k ≠ .bad := hk
        show ∃ v n' h', _ ∧ kLoadA s a fr n h k = _
        unfold kLoadA at hk ⊢
        obtain ⟨p, h1, h2⟩ := kev_ok (sz := sz) _ hk
        rw [h2] at hk ⊢
        obtain ⟨b, o, rfl, h3⟩ := kaddr_ok _ _ hk
        rw [h3] at hk ⊢
        obtain ⟨hp, cs, rw', h4, h5⟩ := kcells_ok (n := n) _ hk
        rw [h5] at hk ⊢
        obtain ⟨h6, h7⟩ := ktake_ok _ _ _ hk
        rw [kdrop_eq, List.length_drop] at h6
        refine ⟨_, n, h, ?_, h7⟩
        simp only [hop, h1, Option.bind_some, hload, h4, ht, hs]
        rw [if_pos (by omega), kdrop_eq]; rfl
    · exact kbadOp_ok _ _
  · rename_i ht
    intro fr n h k hk
    unfold kLoad1 at hk ⊢
    obtain ⟨p, h1, h2⟩ := kev_ok (sz := sz) _ hk
    rw [h2] at hk ⊢
    obtain ⟨b, o, rfl, h3⟩ := kaddr_ok _ _ hk
    rw [h3] at hk ⊢
    obtain ⟨hp, cs, rw', h4, h5⟩ := kcells_ok (n := n) _ hk
    rw [h5] at hk ⊢
    cases hv : knth cs o with
    | none => rw [hv] at hk; exact absurd rfl hk
    | some v =>
      rw [knth_eq] at hv
      exact ⟨v, n, h, by simp only [hop, h1, Option.bind_some, hload, h4, ht, hv, Option.map_some], rfl⟩
  · exact kbadOp_ok _ _

/-- store. -/
noncomputable def kput1 (n : Nat) (h : Tr HObj) (b : Nat) (cs : List Value) (o : Nat) (vs : List Value) (k : Value → Nat → Tr HObj → KX) : KX := kspl cs o vs fun r => kset b h (.cells r true) fun h' => k undef n h'
noncomputable def kstoreV (s : Nat) (n : Nat) (h : Tr HObj) (k : Value → Nat → Tr HObj → KX) (b o : Nat) (cs : List Value) (rw : Bool) (v : Value) : KX :=
  Bool.rec .bad (Bool.rec .bad (Bool.rec .bad (kput1 n h b cs o v.cells.toList k) (allOne v.cells.toList)) (Nat.beq v.cells.toList.length s)) rw
noncomputable def kStore1 (s : Nat) (a x : Operand) : KOp := fun fr n h k => kev a fr fun p => kev x fr fun v => kaddr p fun b o => kcells b h fun cs rw => kstoreV s n h k b o cs rw v
noncomputable def kStore (P : Program) (t : TypeId) (a x : Operand) : KOp := match hsize P t with | some s => Bool.rec kbadOp (kStore1 s a x) (Nat.ble 1 s) | none => kbadOp
theorem kStore_ok (sz : Nat) (t : TypeId) (a x : Operand) : KOk P sz (.store t a x) (kStore P t a x) := by
  unfold kStore
  split
  · rename_i s hs
    cases hb1 : Nat.ble 1 s with
    | false => exact kbadOp_ok _ _
    | true =>
    have h0 := Nat.le_of_ble_eq_true hb1
    intro fr n h k hk
    have hk : kStore1 s a x fr n h k ≠ .bad := hk
    show ∃ v n' h', _ ∧ kStore1 s a x fr n h k = _
    unfold kStore1 at hk ⊢
    obtain ⟨p, h1, h2⟩ := kev_ok (sz := sz) _ hk
    rw [h2] at hk ⊢
    obtain ⟨v, h3, h4⟩ := kev_ok (sz := sz) _ hk
    rw [h4] at hk ⊢
    obtain ⟨b, o, rfl, h5⟩ := kaddr_ok _ _ hk
    rw [h5] at hk ⊢
    obtain ⟨hp, cs, rw', h6, h7⟩ := kcells_ok (n := n) _ hk
    rw [h7] at hk ⊢
    unfold kstoreV at hk ⊢
    cases rw' with
    | false => exact absurd rfl hk
    | true =>
      cases hl : Nat.beq v.cells.toList.length s with
      | false => rw [hl] at hk; exact absurd rfl hk
      | true =>
        rw [hl] at hk
        have hl := Nat.eq_of_beq_eq_true hl
        cases ha : allOne v.cells.toList with
        | false => rw [ha] at hk; exact absurd rfl hk
        | true =>
          rw [ha] at hk
          have hk : kput1 n h b cs o v.cells.toList k ≠ .bad := hk
          show ∃ v' n' h', _ ∧ kput1 n h b cs o v.cells.toList k = _
          unfold kput1 at hk ⊢
          obtain ⟨h8, h9⟩ := kspl_ok _ _ _ _ hk
          rw [h9] at hk ⊢
          obtain ⟨h', h10, h11⟩ := kset_ok (n := n) hk
          refine ⟨undef, n, h', ?_, h11⟩
          have hne : v.cells.toList ≠ [] := by intro e; rw [e] at hl; simp at hl; omega
          have hle : o + v.cells.toList.length ≤ cs.length := h8.resolve_left hne
          simp only [hop, h1, h3, Option.bind_some, hstore, h6, hs]
          rw [if_pos ⟨by rw [← hl]; simp, by omega, ha⟩, ← h10]; rfl
  · exact kbadOp_ok _ _

/-- nilCheck. -/
def knil (v : Value) (k : Value → KX) : KX :=
  match v with
  | .pointer (some a) => k (.pointer (some a))
  | .func (.func f) a b => k (.func (.func f) a b)
  | _ => .bad
noncomputable def kNil (x : Operand) : KOp := fun fr n h k => kev x fr fun v => knil v fun v => k v n h
theorem kNil_ok (sz : Nat) (x : Operand) : KOk P sz (.nilCheck x) (kNil x) := by
  intro fr n h k hk
  unfold kNil at hk ⊢
  obtain ⟨v, h1, h2⟩ := kev_ok (sz := sz) _ hk
  rw [h2] at hk ⊢
  unfold knil at hk ⊢
  split at hk
  · exact ⟨_, n, h, by simp only [hop, h1], rfl⟩
  · exact ⟨_, n, h, by simp only [hop, h1], rfl⟩
  · exact absurd rfl hk

/-- Of two. -/
noncomputable def kBin1 (P : Program) (op : BinOp) (t : TypeId) (g : KG) (x y : Operand) : KOp := fun fr n h k => kev x fr fun a => kev y fr fun b => kbin2 P op t g a b fun v => k v n h
theorem kBin1_ok {op : BinOp} {g : KG} (hg : GOk op g) (hs : notShift op = true ∨ g = gSlow) (sz : Nat) (t u : TypeId) (x y : Operand) : KOk P sz (.binOp op t x y u) (kBin1 P op t g x y) := by
  intro fr n h k hk
  unfold kBin1 at hk ⊢
  obtain ⟨a, h1, h2⟩ := kev_ok (sz := sz) _ hk
  rw [h2] at hk ⊢
  obtain ⟨b, h3, h4⟩ := kev_ok (sz := sz) _ hk
  rw [h4] at hk ⊢
  obtain ⟨v, h5, h6⟩ := kbin2_ok hg hs a b _ hk
  exact ⟨v, n, h, by simp only [hop, h1, h3, Option.bind_some, h5, Option.map_some], h6⟩
noncomputable def kBin (P : Program) (op : BinOp) (t : TypeId) (x y : Operand) : KOp :=
  match op with
  | .add => kBin1 P .add t gAdd x y
  | .sub => kBin1 P .sub t gSub x y
  | .mul => kBin1 P .mul t gMul x y
  | .quo => kBin1 P .quo t gQuo x y
  | .rem => kBin1 P .rem t gRem x y
  | .eql => kBin1 P .eql t gEql x y
  | .neq => kBin1 P .neq t gNeq x y
  | .lss => kBin1 P .lss t gLss x y
  | .leq => kBin1 P .leq t gLeq x y
  | .gtr => kBin1 P .gtr t gGtr x y
  | .geq => kBin1 P .geq t gGeq x y
  | op => kBin1 P op t gSlow x y
theorem kBin_ok (sz : Nat) (op : BinOp) (t u : TypeId) (x y : Operand) : KOk P sz (.binOp op t x y u) (kBin P op t x y) := by
  unfold kBin
  split
  · exact kBin1_ok gAdd_ok (.inl rfl) sz t u x y
  · exact kBin1_ok gSub_ok (.inl rfl) sz t u x y
  · exact kBin1_ok gMul_ok (.inl rfl) sz t u x y
  · exact kBin1_ok gQuo_ok (.inl rfl) sz t u x y
  · exact kBin1_ok gRem_ok (.inl rfl) sz t u x y
  · exact kBin1_ok gEql_ok (.inl rfl) sz t u x y
  · exact kBin1_ok gNeq_ok (.inl rfl) sz t u x y
  · exact kBin1_ok gLss_ok (.inl rfl) sz t u x y
  · exact kBin1_ok gLeq_ok (.inl rfl) sz t u x y
  · exact kBin1_ok gGtr_ok (.inl rfl) sz t u x y
  · exact kBin1_ok gGeq_ok (.inl rfl) sz t u x y
  · exact kBin1_ok (gSlow_ok _) (.inr rfl) sz t u x y

/-- A value of one, two .. values, the heap at hand. -/
noncomputable def kOf1 (g : Nat → Tr HObj → Value → Option Value) (x : Operand) : KOp := fun fr n h k => kev x fr fun a => kslow (g n h a) fun v => k v n h
theorem kOf1_ok {sz : Nat} {op : Op} {g : Nat → Tr HObj → Value → Option Value} {x : Operand} (hg : ∀ fr n h a, hev (absF sz fr) x = some a → hop P (absF sz fr) (absH n h) op = (g n h a).map fun v => (v, absH n h)) : KOk P sz op (kOf1 g x) := by
  intro fr n h k hk
  unfold kOf1 at hk ⊢
  obtain ⟨a, h1, h2⟩ := kev_ok (sz := sz) _ hk
  rw [h2] at hk ⊢
  obtain ⟨v, h3, h4⟩ := kslow_ok _ _ hk
  exact ⟨v, n, h, by rw [hg fr n h a h1, h3]; rfl, h4⟩
noncomputable def kOf2 (g : Nat → Tr HObj → Value → Value → Option Value) (x y : Operand) : KOp := fun fr n h k => kev x fr fun a => kev y fr fun b => kslow (g n h a b) fun v => k v n h
theorem kOf2_ok {sz : Nat} {op : Op} {g : Nat → Tr HObj → Value → Value → Option Value} {x y : Operand} (hg : ∀ fr n h a b, hev (absF sz fr) x = some a → hev (absF sz fr) y = some b → ∀ v, g n h a b = some v → hop P (absF sz fr) (absH n h) op = some (v, absH n h)) : KOk P sz op (kOf2 g x y) := by
  intro fr n h k hk
  unfold kOf2 at hk ⊢
  obtain ⟨a, h1, h2⟩ := kev_ok (sz := sz) _ hk
  rw [h2] at hk ⊢
  obtain ⟨b, h3, h4⟩ := kev_ok (sz := sz) _ hk
  rw [h4] at hk ⊢
  obtain ⟨v, h5, h6⟩ := kslow_ok _ _ hk
  exact ⟨v, n, h, hg fr n h a b h1 h3 v h5, h6⟩
noncomputable def kUn (op : UnOp) (x : Operand) : KOp := kOf1 (fun _ _ a => hunary op a) x
theorem kUn_ok (sz : Nat) (op : UnOp) (t : TypeId) (x : Operand) : KOk P sz (.unOp op t x) (kUn op x) := kOf1_ok fun fr n h a ha => by simp only [hop, ha, Option.bind_some]
/-- Numbers turned into numbers. -/
noncomputable def kconvI (P : Program) (s d : TypeId) (kk : IntKind) (v : Value) (k : Value → KX) : KX :=
  match v with
  | .int _ n => Int.rec (fun z => Bool.rec (kslow (hconvert P s d v) k) (k (.int kk (.ofNat z))) (Nat.ble z (kcap kk))) (fun _ => kslow (hconvert P s d v) k) n
  | _ => kslow (hconvert P s d v) k
noncomputable def kconv (P : Program) (s d : TypeId) : Value → (Value → KX) → KX :=
  match P.underlying s, P.underlying d with
  | some (.int _), some (.int kk) => kconvI P s d kk
  | _, _ => fun v k => kslow (hconvert P s d v) k
theorem kconv_ok (s d : TypeId) (v : Value) : Thru (kconv P s d v) fun u => hconvert P s d v = some u := by
  generalize hg : kconv P s d = g
  unfold kconv at hg
  split at hg <;> subst hg
  · rename_i k0 kk hs hd
    intro k hk
    unfold kconvI at hk ⊢
    split at hk
    · rename_i ik n
      cases n with
      | negSucc m => exact kslow_ok _ k hk
      | ofNat z =>
        simp only at hk ⊢
        cases hb : Nat.ble z (kcap kk) with
        | false => rw [hb] at hk; exact kslow_ok _ k hk
        | true => exact ⟨_, by simp only [hconvert, hs, hd]; rw [kcap_wrap hb], rfl⟩
    · exact kslow_ok _ k hk
  · exact fun k hk => kslow_ok _ k hk
noncomputable def kConv (P : Program) (s d : TypeId) (x : Operand) : KOp := fun fr n h k => kev x fr fun a => kconv P s d a fun v => k v n h
theorem kConv_ok (sz : Nat) (s d : TypeId) (x : Operand) : KOk P sz (.convert s d x) (kConv P s d x) := by
  intro fr n h k hk
  unfold kConv at hk ⊢
  obtain ⟨a, h1, h2⟩ := kev_ok (sz := sz) _ hk
  rw [h2] at hk ⊢
  obtain ⟨v, h3, h4⟩ := kconv_ok s d a _ hk
  exact ⟨v, n, h, by simp only [hop, h1, Option.bind_some, h3, Option.map_some], h4⟩
noncomputable def kIface (P : Program) (t : TypeId) (x : Operand) : KOp := if kindOf P t = 5 then kbadOp else if (P.underlying t).isSome then kOf1 (fun _ _ a => some (.iface t a)) x else kbadOp
theorem kIface_ok (sz : Nat) (t : TypeId) (x : Operand) : KOk P sz (.makeInterface t x) (kIface P t x) := by
  unfold kIface
  split
  · exact kbadOp_ok _ _
  · rename_i h5
    split
    · rename_i hs
      exact kOf1_ok fun fr n h a ha => by simp only [hop, ha, if_neg h5, if_pos hs]; rfl
    · exact kbadOp_ok _ _
noncomputable def kFunc (fn : Fn) (captured : List Operand) : KOp := fun fr n h k => kevs captured fr fun vs => k (.func fn #[] vs.toArray) n h
theorem kFunc_ok (sz : Nat) (fn : Fn) (first captured : Array Operand) (h0 : first.size = 0) : KOk P sz (.makeFunc fn first captured) (kFunc fn captured.toList) := by
  intro fr n h k hk
  unfold kFunc at hk ⊢
  obtain ⟨vs, h1, h2⟩ := kevs_ok (sz := sz) _ _ hk
  exact ⟨_, n, h, by simp only [hop, if_pos h0, h1]; rfl, h2⟩
end Go.HL
