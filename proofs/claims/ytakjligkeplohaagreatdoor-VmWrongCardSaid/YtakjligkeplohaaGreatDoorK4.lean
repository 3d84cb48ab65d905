/-
  A way to run code on given data inside the kernel, part 4: places of parts, slices, maps, lengths, appends, copies.
-/
import Derived.Test.YtakjligkeplohaaGreatDoorK3
namespace Go.HL
open Go.RowKit
set_option linter.unusedSimpArgs false
set_option linter.unusedVariables false

variable {P : Program}

/-- Operands that may be missing. -/
def koptV (v : Value) (k : Option Value → KX) : KX := match v with | .int ik n => k (some (.int ik n)) | _ => .bad
noncomputable def kopt (x : Option Operand) : Tr Value → (Option Value → KX) → KX :=
  match x with
  | none => fun _ k => k none
  | some x => fun fr k => kev x fr fun v => koptV v k
theorem kopt_ok {sz : Nat} {fr : Tr Value} (x : Option Operand) : Thru (kopt x fr) fun v => hopt (absF sz fr) x = some v := by
  intro k hk
  cases x with
  | none => exact ⟨none, rfl, rfl⟩
  | some x =>
    have hk : (kev x fr fun v => koptV v k) ≠ .bad := hk
    show ∃ a, _ ∧ (kev x fr fun v => koptV v k) = k a
    obtain ⟨v, h1, h2⟩ := kev_ok (sz := sz) _ hk
    rw [h2] at hk ⊢
    unfold koptV at hk ⊢
    split at hk
    · exact ⟨_, by simp only [hopt, h1], rfl⟩
    · exact absurd rfl hk
/-- slice: of texts, of rows. -/
noncomputable def ksl (P : Program) (t : TypeId) (v : Value) (lo hi mx : Option Value) (k : Value → KX) : KX := kslow (hslice P t v lo hi mx) k
noncomputable def kbyteRow (l : List UInt8) (k : List UInt8 → KX) : KX := List.rec (motive := fun _ => (List UInt8 → KX) → KX) (fun k => k []) (fun b _ ih k => ih fun r => k (b :: r)) l k
theorem kbyteRow_eq : ∀ (l : List UInt8) (k : List UInt8 → KX), kbyteRow l k = k l
  | [], _ => rfl
  | b :: l, k => by
    have := kbyteRow_eq l fun r => k (b :: r)
    exact this
noncomputable def ktext (v : Value) (k : Value → KX) : KX := match v with | .string s => kbyteRow s.data.toList fun l => k (.string ⟨⟨l⟩⟩) | v => k v
theorem ktext_eq (v : Value) (k : Value → KX) : ktext v k = k v := by
  unfold ktext
  split
  · rw [kbyteRow_eq]
  · rfl
theorem k_extract (l : List UInt8) (a h : Nat) : (ByteArray.mk ⟨l⟩).extract a h = ⟨⟨(l.take h).drop a⟩⟩ := by
  apply ByteArray.ext
  rw [ByteArray.data_extract]
  show (List.toArray l).extract a h = List.toArray ((l.take h).drop a)
  simp [List.extract_toArray, List.extract_eq_take_drop, List.drop_take]
/-- A text's part, by hand: lo and hi are numbers that are not below 0. -/
noncomputable def kpart (l : List UInt8) (a n : Nat) (k : Value → KX) : KX := ktake n (kdrop a l) fun r => k (.string ⟨⟨r⟩⟩)
def kbnd (d : Nat) (x : Option Value) (k : Nat → KX) (s : KX) : KX :=
  match x with
  | none => k d
  | some (.int _ (.ofNat m)) => k m
  | _ => s
noncomputable def kslS (P : Program) (t : TypeId) (v : Value) (lo hi mx : Option Value) (k : Value → KX) : KX :=
  match v, mx with
  | .string s, none => kbnd s.data.toList.length hi (fun h => kbnd 0 lo (fun a => Bool.rec .bad (Bool.rec .bad (kpart s.data.toList a (Nat.sub h a) k) (Nat.ble h s.data.toList.length)) (Nat.ble a h)) .bad) .bad
  | v, mx => kslow (hslice P t v lo hi mx) k
theorem kbnd_ok {d : Nat} {x : Option Value} {k : Nat → KX} (h : kbnd d x k .bad ≠ .bad) : ∃ m, (∀ len, m ≤ len → hbound len d x = some m) ∧ kbnd d x k .bad = k m := by
  unfold kbnd at h ⊢
  split at h
  · exact ⟨d, fun _ _ => rfl, rfl⟩
  · rename_i ik m
    refine ⟨m, fun len hl => ?_, rfl⟩
    simp only [hbound]
    rw [if_pos (by simp only [Int.ofNat_eq_natCast]; omega)]
    rfl
  · exact absurd rfl h
theorem kslS_ok {t : TypeId} (ht : P.underlying t = some .string) (v : Value) (lo hi mx : Option Value) : Thru (kslS P t v lo hi mx) fun u => hslice P t v lo hi mx = some u := by
  intro k hk
  unfold kslS at hk ⊢
  split at hk
  · rename_i s
    obtain ⟨h, h1, h2⟩ := kbnd_ok hk
    rw [h2] at hk ⊢
    obtain ⟨a, h3, h4⟩ := kbnd_ok hk
    rw [h4] at hk ⊢
    cases hb : Nat.ble a h with
    | false => rw [hb] at hk; exact absurd rfl hk
    | true =>
      rw [hb] at hk
      have hah := Nat.le_of_ble_eq_true hb
      cases hb2 : Nat.ble h s.data.toList.length with
      | false => rw [hb2] at hk; exact absurd rfl hk
      | true =>
      rw [hb2] at hk
      have hle := Nat.le_of_ble_eq_true hb2
      have hk : kpart s.data.toList a (Nat.sub h a) k ≠ .bad := hk
      show ∃ u, _ ∧ kpart s.data.toList a (Nat.sub h a) k = k u
      unfold kpart at hk ⊢
      obtain ⟨h5, h6⟩ := ktake_ok _ _ _ hk
      rw [kdrop_eq] at h5 h6
      rw [kdrop_eq, h6]
      refine ⟨_, ?_, rfl⟩
      have hsz : s.size = s.data.toList.length := by rw [Array.length_toList, ByteArray.size_data]
      simp only [hslice, ht]
      rw [hsz]
      rw [h1 _ hle, Option.bind_some, h3 _ hah, Option.bind_some]
      simp only [Option.isSome_none, Bool.false_eq_true, if_false]
      congr 2
      obtain ⟨⟨l⟩⟩ := s
      rw [k_extract]
      congr 2
      rw [List.drop_take]; rfl
  · exact kslow_ok _ k hk
noncomputable def kslP (P : Program) (t : TypeId) : Value → Option Value → Option Value → Option Value → (Value → KX) → KX :=
  match P.underlying t with
  | some .string => kslS P t
  | _ => fun v lo hi mx k => kslow (hslice P t v lo hi mx) k
theorem kslP_ok (t : TypeId) (v : Value) (lo hi mx : Option Value) : Thru (kslP P t v lo hi mx) fun u => hslice P t v lo hi mx = some u := by
  generalize hg : kslP P t = g
  unfold kslP at hg
  split at hg <;> subst hg
  · exact kslS_ok ‹_› v lo hi mx
  · exact fun k hk => kslow_ok _ k hk
noncomputable def kSlice (P : Program) (t : TypeId) (x : Operand) (lo hi mx : Option Operand) : KOp := fun fr n h k => kev x fr fun v => kopt lo fr fun lo => kopt hi fr fun hi => kopt mx fr fun mx => kslP P t v lo hi mx fun v => k v n h
theorem kSlice_ok (sz : Nat) (t : TypeId) (x : Operand) (lo hi mx : Option Operand) : KOk P sz (.slice t x lo hi mx) (kSlice P t x lo hi mx) := by
  intro fr n h k hk
  unfold kSlice at hk ⊢
  obtain ⟨v, h1, h2⟩ := kev_ok (sz := sz) _ hk
  rw [h2] at hk ⊢
  obtain ⟨lo', h3, h4⟩ := kopt_ok (sz := sz) _ _ hk
  rw [h4] at hk ⊢
  obtain ⟨hi', h5, h6⟩ := kopt_ok (sz := sz) _ _ hk
  rw [h6] at hk ⊢
  obtain ⟨mx', h7, h8⟩ := kopt_ok (sz := sz) _ _ hk
  rw [h8] at hk ⊢
  obtain ⟨u, h9, h10⟩ := kslP_ok t _ _ _ _ _ hk
  exact ⟨u, n, h, by simp only [hop, h1, h3, h5, h7, Option.bind_some, h9, Option.map_some], h10⟩

/-- fieldAddr. -/
def hfieldOff (P : Program) (s : TypeId) (f : Nat) : Option Nat :=
  match P.underlying s with
  | some (.struct fs) => (fs[f]?).bind fun fd => (hsize P fd.type).bind fun n => if n = 0 then none else some fd.offset
  | _ => none
noncomputable def kField1 (off : Nat) (x : Operand) : KOp := fun fr n h k => kev x fr fun p => kaddr p fun b o => forceNat (Nat.add o off) fun o => k (.pointer (some ⟨b, o, none⟩)) n h
noncomputable def kField (P : Program) (s : TypeId) (x : Operand) (f : Nat) : KOp := match hfieldOff P s f with | some off => kField1 off x | none => kbadOp
theorem kField_ok (sz : Nat) (s : TypeId) (x : Operand) (f : Nat) : KOk P sz (.fieldAddr s x f) (kField P s x f) := by
  unfold kField
  split
  · rename_i off ho
    intro fr n h k hk
    unfold kField1 at hk ⊢
    obtain ⟨p, h1, h2⟩ := kev_ok (sz := sz) _ hk
    rw [h2] at hk ⊢
    obtain ⟨b, o, rfl, h3⟩ := kaddr_ok _ _ hk
    rw [h3, forceNat_eq]
    refine ⟨_, n, h, ?_, rfl⟩
    simp only [hop, h1, Option.bind_some, hfieldAt]
    unfold hfieldOff at ho
    split at ho
    · rename_i fs hf
      simp only [hf]
      simp only [Option.bind_eq_some_iff] at ho
      obtain ⟨fd, h4, m, h5, h6⟩ := ho
      split at h6 <;> cases h6
      rename_i h0
      simp only [h4, Option.bind_some, h5, if_neg h0, Option.map_some]
      rfl
    · cases ho
  · exact kbadOp_ok _ _

/-- indexAddr. -/
noncomputable def kixS (e : Nat) (p i : Value) (k : Value → KX) (s : KX) : KX :=
  match p, i with
  | .slice (some ⟨b, o, _⟩) len _, .int _ (.ofNat m) => Bool.rec .bad (forceNat (Nat.add o (Nat.mul m e)) fun o => k (.pointer (some ⟨b, o, none⟩))) (Nat.ble (Nat.succ m) len)
  | _, _ => s
noncomputable def kixP (P : Program) (t : TypeId) : Value → Value → (Value → KX) → KX :=
  match P.underlying t with
  | some (.slice e) => (match hsize P e with
    | some e => fun p i k => kixS e p i k .bad
    | none => fun _ _ _ => .bad)
  | _ => fun p i k => kslow (hindexAt P t p i) k
theorem kixP_ok (t : TypeId) (p i : Value) : Thru (kixP P t p i) fun u => hindexAt P t p i = some u := by
  generalize hg : kixP P t = g
  unfold kixP at hg
  split at hg
  · rename_i e ht
    split at hg <;> subst hg
    · rename_i s hs
      intro k hk
      dsimp only at hk ⊢
      unfold kixS at hk ⊢
      split at hk
      · rename_i b o sp len c ik m
        cases hb : Nat.ble (Nat.succ m) len with
        | false => rw [hb] at hk; exact absurd rfl hk
        | true =>
          have := Nat.le_of_ble_eq_true hb
          simp only [forceNat_eq]
          refine ⟨_, ?_, rfl⟩
          simp only [hindexAt, ht, hs, Option.bind_some]
          rw [if_pos (by simp only [Int.ofNat_eq_natCast]; omega)]
          rfl
      · exact absurd rfl hk
    · exact fun k hk => absurd rfl hk
  · subst hg
    exact fun k hk => kslow_ok _ k hk
noncomputable def kIxA (P : Program) (t : TypeId) (x i : Operand) : KOp := fun fr n h k => kev x fr fun p => kev i fr fun i => kintV i (kixP P t p i fun v => k v n h)
theorem kIxA_ok (sz : Nat) (t : TypeId) (x i : Operand) : KOk P sz (.indexAddr t x i) (kIxA P t x i) := by
  intro fr n h k hk
  unfold kIxA at hk ⊢
  obtain ⟨p, h1, h2⟩ := kev_ok (sz := sz) _ hk
  rw [h2] at hk ⊢
  obtain ⟨j, h3, h4⟩ := kev_ok (sz := sz) _ hk
  rw [h4] at hk ⊢
  unfold kintV at hk ⊢
  split at hk
  · obtain ⟨u, h5, h6⟩ := kixP_ok t _ _ _ hk
    exact ⟨u, n, h, by simp only [hop, h1, h3, Option.bind_some, h5, Option.map_some], h6⟩
  · exact absurd rfl hk

/-- index. -/
noncomputable def kixT (l : List UInt8) (m : Nat) (k : Value → KX) : KX := List.rec (motive := fun _ => KX) .bad (fun b _ _ => forceNat b.toNat fun z => k (.int .u8 (.ofNat z))) (kdrop m l)
noncomputable def kixV (P : Program) (t : TypeId) (p i : Value) (k : Value → KX) : KX :=
  match p, i with
  | .string s, .int _ (.ofNat m) => kixT s.data.toList m k
  | p, i => kslow (hindex P t p i) k
noncomputable def kixQ (P : Program) (t : TypeId) : Value → Value → (Value → KX) → KX :=
  match P.underlying t with
  | some .string => kixV P t
  | _ => fun p i k => kslow (hindex P t p i) k
theorem kixQ_ok (t : TypeId) (p i : Value) : Thru (kixQ P t p i) fun u => hindex P t p i = some u := by
  generalize hg : kixQ P t = g
  unfold kixQ at hg
  split at hg <;> subst hg
  · rename_i ht
    intro k hk
    unfold kixV at hk ⊢
    split at hk
    · rename_i s ik m
      unfold kixT at hk ⊢
      rw [kdrop_eq] at hk ⊢
      cases hd : s.data.toList.drop m with
      | nil => rw [hd] at hk; exact absurd rfl hk
      | cons b r =>
        simp only [forceNat_eq]
        refine ⟨_, ?_, rfl⟩
        simp only [hindex, ht]
        rw [if_pos (by simp only [Int.ofNat_eq_natCast]; omega)]
        have : s.data.toList[m]? = some b := by
          have := congrArg (fun l => l[0]?) hd
          simpa [List.getElem?_drop] using this
        have h2 : s.data[(Int.ofNat m).toNat]? = some b := by rw [← Array.getElem?_toList]; exact this
        rw [h2]; rfl
    · exact kslow_ok _ k hk
  · exact fun k hk => kslow_ok _ k hk
noncomputable def kIx (P : Program) (t : TypeId) (x i : Operand) : KOp := fun fr n h k => kev x fr fun p => kev i fr fun i => kintV i (kixQ P t p i fun v => k v n h)
theorem kIx_ok (sz : Nat) (t : TypeId) (x i : Operand) : KOk P sz (.index t x i) (kIx P t x i) := by
  intro fr n h k hk
  unfold kIx at hk ⊢
  obtain ⟨p, h1, h2⟩ := kev_ok (sz := sz) _ hk
  rw [h2] at hk ⊢
  obtain ⟨j, h3, h4⟩ := kev_ok (sz := sz) _ hk
  rw [h4] at hk ⊢
  unfold kintV at hk ⊢
  split at hk
  · obtain ⟨u, h5, h6⟩ := kixQ_ok t _ _ _ hk
    exact ⟨u, n, h, by simp only [hop, h1, h3, Option.bind_some, h5, Option.map_some], h6⟩
  · exact absurd rfl hk

/-- field, lookup, extract. -/
noncomputable def kFld (P : Program) (t : TypeId) (x : Operand) (f : Nat) : KOp := kOf1 (fun _ _ a => hfield P t a f) x
theorem kFld_ok (sz : Nat) (t : TypeId) (x : Operand) (f : Nat) : KOk P sz (.field t x f) (kFld P t x f) := kOf1_ok fun fr n h a ha => by simp only [hop, ha, Option.bind_some]
noncomputable def kLookup (P : Program) (t : TypeId) (m x : Operand) (ok : Bool) : KOp := kOf2 (fun n h a b => hlookup P (absH n h) t a b ok) m x
theorem kLookup_ok (sz : Nat) (t : TypeId) (m x : Operand) (ok : Bool) : KOk P sz (.lookup t m x ok) (kLookup P t m x ok) := kOf2_ok fun fr n h a b ha hb v hv => by simp only [hop, ha, hb, Option.bind_some, hv, Option.map_some]
noncomputable def kextr (v : Value) (i : Nat) (k : Value → KX) : KX := match v with | .tuple vs => Option.rec .bad k (knth vs.toList i) | _ => .bad
noncomputable def kExtract (x : Operand) (i : Nat) : KOp := fun fr n h k => kev x fr fun v => kextr v i fun v => k v n h
theorem kExtract_ok (sz : Nat) (x : Operand) (i : Nat) : KOk P sz (.extract x i) (kExtract x i) := by
  intro fr n h k hk
  unfold kExtract at hk ⊢
  obtain ⟨v, h1, h2⟩ := kev_ok (sz := sz) _ hk
  rw [h2] at hk ⊢
  unfold kextr at hk ⊢
  split at hk
  · rename_i vs
    cases hv : knth vs.toList i with
    | none => rw [hv] at hk; exact absurd rfl hk
    | some u =>
      rw [knth_eq] at hv
      exact ⟨u, n, h, by simp only [hop, h1, hv, Option.map_some], rfl⟩
  · exact absurd rfl hk

/-- A map is written. -/
noncomputable def hmapCells (P : Program) (H : HHeap) (t : TypeId) (m k x : Value) : Option (Nat × List (Value × Value)) :=
  match P.underlying t, m with
  | some (.map kt _), .map (some b) =>
    match H.get b with
    | some (.map es) =>
      if plainKey P kt k ∧ es.all (fun e => plainKey P kt e.1) then
        match hfind k es with
        | some (j, _) => some (b, es.set j (k, x))
        | none => some (b, es ++ [(k, x)])
      else none
    | _ => none
  | _, _ => none
theorem hmapCells_ok {H : HHeap} {t : TypeId} {m k x : Value} {r : Nat × List (Value × Value)} (h : hmapCells P H t m k x = some r) : hmapUpdate P H t m k x = some (H.set r.1 (.map r.2)) := by
  unfold hmapCells at h
  unfold hmapUpdate
  split at h
  · rename_i kt et b ht
    simp only [ht]
    split at h
    · rename_i es he
      simp only [he]
      split at h
      · rename_i hc
        rw [if_pos hc]
        split at h
        · rename_i hf
          cases h; simp only [hf]
        · rename_i hf
          cases h; simp only [hf]
      · cases h
    · cases h
  · cases h
noncomputable def kMapUp (P : Program) (t : TypeId) (m x y : Operand) : KOp := fun fr n h k => kev m fr fun m => kev x fr fun x => kev y fr fun y =>
  Option.rec .bad (fun r => kset r.1 h (.map r.2) fun h' => k undef n h') (hmapCells P (absH n h) t m x y)
theorem kMapUp_ok (sz : Nat) (t : TypeId) (m x y : Operand) : KOk P sz (.mapUpdate t m x y) (kMapUp P t m x y) ∧ KOk P sz (.insert t m x y) (kMapUp P t m x y) := by
  constructor <;>
  · intro fr n h k hk
    unfold kMapUp at hk ⊢
    obtain ⟨a, h1, h2⟩ := kev_ok (sz := sz) _ hk
    rw [h2] at hk ⊢
    obtain ⟨b, h3, h4⟩ := kev_ok (sz := sz) _ hk
    rw [h4] at hk ⊢
    obtain ⟨c, h5, h6⟩ := kev_ok (sz := sz) _ hk
    rw [h6] at hk ⊢
    cases hr : hmapCells P (absH n h) t a b c with
    | none => rw [hr] at hk; exact absurd rfl hk
    | some r =>
      rw [hr] at hk
      obtain ⟨h', h7, h8⟩ := kset_ok (n := n) hk
      refine ⟨undef, n, h', ?_, h8⟩
      simp only [hop, h1, h3, h5, Option.bind_some, hmapCells_ok hr, Option.map_some]
      rw [h7]

/-- len. -/
noncomputable def klenV (v : Value) (k : Value → KX) (s : KX) : KX := match v with | .slice _ n _ => k (.int .i64 (.ofNat n)) | _ => s
noncomputable def klenS (v : Value) (k : Value → KX) (s : KX) : KX := match v with | .string b => forceNat b.data.toList.length fun z => k (.int .i64 (.ofNat z)) | _ => s
noncomputable def klen (P : Program) (t : TypeId) : Nat → Tr HObj → Value → (Value → KX) → KX :=
  match P.underlying t with
  | some .string => fun _ _ v k => klenS v k .bad
  | some (.slice _) => fun _ _ v k => klenV v k .bad
  | _ => fun n h v k => kslow (hlen P (absH n h) t v) k
theorem klen_ok (t : TypeId) (n : Nat) (h : Tr HObj) (v : Value) : Thru (klen P t n h v) fun u => hlen P (absH n h) t v = some u := by
  generalize hg : klen P t = g
  unfold klen at hg
  split at hg <;> subst hg
  · rename_i ht
    intro k hk
    dsimp only at hk ⊢
    unfold klenS at hk ⊢
    split at hk
    · rename_i b
      refine ⟨_, ?_, forceNat_eq _ _⟩
      simp only [hlen, ht]
      rw [Array.length_toList, ByteArray.size_data]; rfl
    · exact absurd rfl hk
  · rename_i ht
    intro k hk
    dsimp only at hk ⊢
    unfold klenV at hk ⊢
    split at hk
    · exact ⟨_, by simp only [hlen, ht]; rfl, rfl⟩
    · exact absurd rfl hk
  · exact fun k hk => kslow_ok _ k hk
end Go.HL
