/-
  A way to run code on given data inside the kernel, part 5: appends, copies, all operations under one name.
-/
import Derived.Test.YtakjligkeplohaaGreatDoorPFK4
set_option linter.unusedVariables false
set_option linter.unusedSimpArgs false
namespace Go.HL
open Go.RowKit
set_option linter.unusedSimpArgs false
set_option linter.unusedVariables false

variable {P : Program}

noncomputable def ksource (size : Nat) (x : Value) (h : Tr HObj) (k : List Value → Nat → KX) : KX :=
  match x with
  | .slice none 0 0 => k [] 0
  | .slice (some ⟨b, o, _⟩) n _ => Nat.rec (motive := fun _ => KX) (k [] 0) (fun _ _ => kcells b h fun cs _ => ktake (Nat.mul n size) (kdrop o cs) fun vs => k vs n) n
  | .string s => Bool.rec .bad (klist (s.data.toList.map fun b => .int .u8 b.toNat) fun vs => forceNat s.data.toList.length fun n => k vs n) (Nat.beq size 1)
  | _ => .bad
theorem ksource_ok {n : Nat} {size : Nat} (hpos : 0 < size) {x : Value} {h : Tr HObj} {k : List Value → Nat → KX} (hk : ksource size x h k ≠ .bad) :
    ∃ vs m, hsource (absH n h) size x = some (vs, m) ∧ vs.length = m * size ∧ ksource size x h k = k vs m := by
  unfold ksource at hk ⊢
  split at hk
  · exact ⟨[], 0, rfl, by simp, rfl⟩
  · rename_i b o sp m c
    cases m with
    | zero => exact ⟨[], 0, rfl, by simp, rfl⟩
    | succ m =>
      have hk : (kcells b h fun cs _ => ktake (Nat.mul (m + 1) size) (kdrop o cs) fun vs => k vs (m + 1)) ≠ .bad := hk
      show ∃ vs m', _ ∧ _ ∧ (kcells b h fun cs _ => ktake (Nat.mul (m + 1) size) (kdrop o cs) fun vs => k vs (m + 1)) = _
      obtain ⟨hp, cs, rw', h1, h2⟩ := kcells_ok (n := n) _ hk
      rw [h2] at hk ⊢
      obtain ⟨h3, h4⟩ := ktake_ok _ _ _ hk
      rw [kdrop_eq] at h3
      rw [h4, kdrop_eq]
      have h3' : (m + 1) * size ≤ cs.length - o := by rw [List.length_drop] at h3; exact h3
      have hz : 0 < (m + 1) * size := Nat.mul_pos (Nat.succ_pos m) hpos
      · refine ⟨_, _, ?_, ?_, rfl⟩
        · simp only [hsource]
          rw [if_neg (by omega)]
          simp only [h1]
          rw [if_pos (by omega)]; rfl
        · rw [List.length_take, List.length_drop, show Nat.mul (m + 1) size = (m + 1) * size from rfl]; omega
  · rename_i s
    cases hb : Nat.beq size 1 with
    | false => rw [hb] at hk; exact absurd rfl hk
    | true =>
      have := Nat.eq_of_beq_eq_true hb
      subst this
      simp only [klist_eq, forceNat_eq]
      refine ⟨_, _, ?_, ?_, rfl⟩
      · simp only [hsource]
        rw [if_pos trivial, Array.length_toList, ByteArray.size_data]
      · simp
  · exact absurd rfl hk

/-- append. -/
noncomputable def kcat (a b : List Value) (k : List Value → KX) : KX := List.rec (motive := fun _ => (List Value → KX) → KX) (fun k => k b) (fun v _ ih k => ih fun r => k (v :: r)) a k
theorem kcat_eq (b : List Value) : ∀ (a : List Value) (k : List Value → KX), kcat a b k = k (a ++ b)
  | [], _ => rfl
  | v :: a, k => kcat_eq b a fun r => k (v :: r)
noncomputable def kapNew (e : Elem) (cs : List Value) (m : Nat) (n : Nat) (h : Tr HObj) (k : Value → Nat → Tr HObj → KX) : KX :=
  kpush n h (.cells cs true) fun n' h' => k (.slice (some ⟨n, 0, some (Nat.mul 2 e.size)⟩) m m) n' h'
noncomputable def kapGrow (e : Elem) (b o : Nat) (sp : Option Nat) (len m : Nat) (vs cs : List Value) (rw : Bool) (n : Nat) (h : Tr HObj) (k : Value → Nat → Tr HObj → KX) : KX :=
  kpre o (Nat.mul len e.size) cs fun r => (fun r : List Value =>
    match sp with
    | none => forceNat (Nat.add len m) fun lm => kapNew e r lm n h k
    | some q => Bool.rec .bad (Bool.rec .bad (kkill b h fun h => forceNat (Nat.add len m) fun lm => kapNew e r lm n h k) (Nat.beq (Nat.div q 2) e.size)) rw) (r ++ vs)
noncomputable def kapIn (e : Elem) (b o : Nat) (sp : Option Nat) (len cap m : Nat) (vs cs : List Value) (n : Nat) (h : Tr HObj) (k : Value → Nat → Tr HObj → KX) : KX :=
  kspl cs (Nat.add o (Nat.mul len e.size)) vs fun r => kset b h (.cells r true) fun h' => forceNat (Nat.add len m) fun lm => k (.slice (some ⟨b, o, sp⟩) lm cap) n h'
noncomputable def kspOk (e : Elem) (sp : Option Nat) : Bool := match sp with | none => true | some q => Nat.beq q (Nat.mul 2 e.size)
noncomputable def kapAt (e : Elem) (b o : Nat) (sp : Option Nat) (len cap m : Nat) (vs : List Value) (n : Nat) (h : Tr HObj) (k : Value → Nat → Tr HObj → KX) : KX :=
  kcells b h fun cs rw => Bool.rec (kapGrow e b o sp len m vs cs rw n h k) (Bool.rec .bad (Bool.rec .bad (kapIn e b o sp len cap m vs cs n h k) (kspOk e sp)) rw) (Nat.ble (Nat.add len m) cap)
noncomputable def kap (e : Elem) (s : Value) (vs : List Value) (m : Nat) (n : Nat) (h : Tr HObj) (k : Value → Nat → Tr HObj → KX) : KX :=
  match s with
  | .slice a len cap => Bool.rec (Bool.rec .bad (Bool.rec .bad (match a with
      | none => kapNew e vs m n h k
      | some ⟨b, o, sp⟩ => kapAt e b o sp len cap m vs n h k) (Nat.ble (Nat.add len m) 1099511627776)) (Nat.ble (Nat.mul (Nat.add len m) e.bytes) 1099511627776)) (k s n h) (Nat.beq m 0)
  | _ => .bad
def helemPos (P : Program) (u : TypeId) : Option Elem :=
  match helem P u with
  | some e => if 0 < e.size then some e else none
  | none => none
noncomputable def kapElem (P : Program) (st xt : TypeId) : Option Elem :=
  match P.underlying st with
  | some (.slice u) => Bool.rec none (helemPos P u) (isStr P xt)
  | _ => none
theorem kapElem_ok {st xt : TypeId} {e : Elem} (h : kapElem P st xt = some e) : ∃ u, P.underlying st = some (.slice u) ∧ isStr P xt = true ∧ helem P u = some e ∧ 0 < e.size := by
  unfold kapElem at h
  split at h
  · rename_i u hu
    cases hi : isStr P xt with
    | false => rw [hi] at h; cases h
    | true =>
      rw [hi] at h
      have h : helemPos P u = some e := h
      unfold helemPos at h
      split at h
      · rename_i e' he
        split at h <;> cases h
        exact ⟨u, hu, rfl, he, ‹_›⟩
      · cases h
  · cases h
theorem kapNew_ok {e : Elem} {cs : List Value} {m n : Nat} {h : Tr HObj} {k : Value → Nat → Tr HObj → KX} (hk : kapNew e cs m n h k ≠ .bad) :
    ∃ n' h', (absH n h).push (.cells cs true) = absH n' h' ∧ kapNew e cs m n h k = k (.slice (some ⟨n, 0, some (2 * e.size)⟩) m m) n' h' := by
  unfold kapNew at hk ⊢
  obtain ⟨n', h', h1, h2⟩ := kpush_ok hk
  exact ⟨n', h', h1, h2⟩
theorem kap_ok {st xt : TypeId} {e : Elem} (he : kapElem P st xt = some e) {s x : Value} {vs : List Value} {m n : Nat} {h : Tr HObj} {k : Value → Nat → Tr HObj → KX} (hs : hsource (absH n h) e.size x = some (vs, m)) (hl : vs.length = m * e.size) (hk : kap e s vs m n h k ≠ .bad) :
    ∃ v n' h', happend P (absH n h) st xt s x = some (v, absH n' h') ∧ kap e s vs m n h k = k v n' h' := by
  obtain ⟨u, hu, hi, hel, hpos⟩ := kapElem_ok he
  unfold kap at hk ⊢
  unfold happend
  simp only [hu, hi, if_true, hel, Option.bind_some, hs, hpos]
  split at hk
  · rename_i a len cap
    cases hm : Nat.beq m 0 with
    | true =>
      have := Nat.eq_of_beq_eq_true hm
      subst this
      exact ⟨_, n, h, by simp, rfl⟩
    | false =>
      rw [hm] at hk
      have hm0 : m ≠ 0 := fun e => by subst e; simp at hm
      simp only [if_neg hm0]
      cases hb1 : Nat.ble (Nat.mul (Nat.add len m) e.bytes) 1099511627776 with
      | false => rw [hb1] at hk; exact absurd rfl hk
      | true =>
        rw [hb1] at hk
        have h1 : (len + m) * e.bytes ≤ 1099511627776 := Nat.le_of_ble_eq_true hb1
        cases hb2 : Nat.ble (Nat.add len m) 1099511627776 with
        | false => rw [hb2] at hk; exact absurd rfl hk
        | true =>
          rw [hb2] at hk
          have h2 : len + m ≤ 1099511627776 := Nat.le_of_ble_eq_true hb2
          rw [if_pos ⟨h1, h2⟩]
          cases a with
          | none =>
            obtain ⟨n', h', h3, h4⟩ := kapNew_ok hk
            exact ⟨_, n', h', by simp only; rw [h3]; rfl, h4⟩
          | some a =>
            obtain ⟨b, o, sp⟩ := a
            have hk : kapAt e b o sp len cap m vs n h k ≠ .bad := hk
            show ∃ v n' h', _ ∧ kapAt e b o sp len cap m vs n h k = _
            unfold kapAt at hk ⊢
            obtain ⟨hp, cs, rw', h3, h4⟩ := kcells_ok (n := n) _ hk
            rw [h4] at hk ⊢
            simp only [h3]
            cases hc : Nat.ble (Nat.add len m) cap with
            | true =>
              rw [hc] at hk
              have hc' : len + m ≤ cap := Nat.le_of_ble_eq_true hc
              rw [if_pos hc']
              cases rw' with
              | false => exact absurd rfl hk
              | true =>
                cases hq : kspOk e sp with
                | false => rw [hq] at hk; exact absurd rfl hk
                | true =>
                  rw [hq] at hk
                  have hk : kapIn e b o sp len cap m vs cs n h k ≠ .bad := hk
                  show ∃ v n' h', _ ∧ kapIn e b o sp len cap m vs cs n h k = _
                  unfold kapIn at hk ⊢
                  obtain ⟨h5, h6⟩ := kspl_ok _ _ _ _ hk
                  rw [h6] at hk ⊢
                  obtain ⟨h', h7, h8⟩ := kset_ok (n := n) hk
                  rw [h8, forceNat_eq]
                  have hvs : 0 < vs.length := by rw [hl]; exact Nat.mul_pos (Nat.pos_of_ne_zero hm0) hpos
                  have h5' : o + len * e.size + vs.length ≤ cs.length := by
                    rcases h5 with h5 | h5
                    · rw [h5] at hvs; simp at hvs
                    · exact h5
                  rw [hl] at h5'
                  have hsp : sp = none ∨ sp = some (2 * e.size) := by
                    unfold kspOk at hq
                    split at hq
                    · exact .inl rfl
                    · exact .inr (by rw [Nat.eq_of_beq_eq_true hq]; rfl)
                  refine ⟨_, n, h', ?_, rfl⟩
                  rw [if_pos ⟨rfl, by rw [Nat.add_mul]; omega, hsp⟩]
                  rw [show o + len * e.size = Nat.add o (Nat.mul len e.size) from rfl, h7]; rfl
            | false =>
              rw [hc] at hk
              have hc' : ¬ len + m ≤ cap := fun hh => by
                have := Nat.ble_eq_true_of_le hh
                rw [show len + m = Nat.add len m from rfl, hc] at this; cases this
              rw [if_neg hc']
              have hk : kapGrow e b o sp len m vs cs rw' n h k ≠ .bad := hk
              show ∃ v n' h', _ ∧ kapGrow e b o sp len m vs cs rw' n h k = _
              unfold kapGrow at hk ⊢
              obtain ⟨h5, h6⟩ := kpre_ok _ _ _ _ hk
              rw [h6] at hk ⊢
              have h5 : len * e.size = 0 ∨ o + len * e.size ≤ cs.length := h5
              have hcond : o + len * e.size ≤ cs.length ∨ len = 0 := by
                rcases Nat.eq_zero_or_pos len with hz | hz
                · exact .inr hz
                · have := Nat.mul_pos hz hpos
                  exact .inl (by omega)
              rw [if_pos hcond]
              cases sp with
              | none =>
                simp only [forceNat_eq] at hk ⊢
                obtain ⟨n', h', h7, h8⟩ := kapNew_ok hk
                exact ⟨_, n', h', by rw [show Nat.mul len e.size = len * e.size from rfl] at h7; rw [h7]; rfl, h8⟩
              | some q =>
                cases rw' with
                | false => exact absurd rfl hk
                | true =>
                  cases hq : Nat.beq (Nat.div q 2) e.size with
                  | false => dsimp only at hk; rw [hq] at hk; exact absurd rfl hk
                  | true =>
                    simp only [hq] at hk ⊢
                    have hq' : q / 2 = e.size := Nat.eq_of_beq_eq_true hq
                    obtain ⟨h1', h7, h8⟩ := kkill_ok (n := n) hk
                    rw [h8, forceNat_eq] at hk ⊢
                    obtain ⟨n', h', h9, h10⟩ := kapNew_ok hk
                    refine ⟨_, n', h', ?_, h10⟩
                    rw [if_pos ⟨hq', by trivial⟩, h7]
                    rw [show Nat.mul len e.size = len * e.size from rfl] at h9
                    rw [h9]; rfl
  · exact absurd rfl hk
noncomputable def kAppend1 (e : Elem) (s x : Operand) : KOp := fun fr n h k => kev s fr fun s => kev x fr fun x => ksource e.size x h fun vs m => kap e s vs m n h k
noncomputable def kAppend (P : Program) (st xt : TypeId) (s x : Operand) : KOp := match kapElem P st xt with | some e => kAppend1 e s x | none => kbadOp
theorem k_hop_call (fr : HFrame) (H : HHeap) (b : Builtin) (args : Array Operand) (ts : Array TypeId) : hop P fr H (.call ⟨.builtin b, args, ts⟩) = (hevs fr args.toList).bind fun vs => hbuiltin P H b ts.toList vs := by unfold hop; rfl
theorem kAppend_ok (sz : Nat) (st xt : TypeId) (s x : Operand) : KOk P sz (.call ⟨.builtin .append, ⟨[s, x]⟩, ⟨[st, xt]⟩⟩) (kAppend P st xt s x) := by
  unfold kAppend
  split
  · rename_i e he
    intro fr n h k hk
    unfold kAppend1 at hk ⊢
    obtain ⟨a, h1, h2⟩ := kev_ok (sz := sz) _ hk
    rw [h2] at hk ⊢
    obtain ⟨b, h3, h4⟩ := kev_ok (sz := sz) _ hk
    rw [h4] at hk ⊢
    obtain ⟨u, hu, hi, hel, hpos⟩ := kapElem_ok he
    obtain ⟨vs, m, h5, h6, h7⟩ := ksource_ok (n := n) hpos hk
    rw [h7] at hk ⊢
    obtain ⟨v, n', h', h8, h9⟩ := kap_ok he h5 h6 hk
    refine ⟨v, n', h', ?_, h9⟩
    rw [k_hop_call]
    simp only [hevs, h1, h3, Option.bind_some, Option.map_some, hbuiltin]
    exact h8
  · exact kbadOp_ok _ _

/-- copy. -/
noncomputable def kcp (e : Elem) (d : Value) (vs : List Value) (m : Nat) (n : Nat) (h : Tr HObj) (k : Value → Nat → Tr HObj → KX) : KX :=
  match d with
  | .slice none 0 0 => k (.int .i64 (.ofNat 0)) n h
  | .slice (some ⟨b, o, _⟩) len _ => Bool.rec (kcells b h fun cs rw => Bool.rec .bad (ktake (Nat.mul (Nat.min m len) e.size) vs fun vs => kspl cs o vs fun r => kset b h (.cells r true) fun h' => forceNat (Nat.min m len) fun z => k (.int .i64 (.ofNat z)) n h') rw) (k (.int .i64 (.ofNat 0)) n h) (Nat.beq (Nat.min m len) 0)
  | _ => .bad
theorem kcp_ok {dt u : TypeId} {e : Elem} (hu : P.underlying dt = some (.slice u)) (he : helem P u = some e) (hpos : 0 < e.size) {d x : Value} {vs : List Value} {m n : Nat} {h : Tr HObj} {k : Value → Nat → Tr HObj → KX} (hs : hsource (absH n h) e.size x = some (vs, m)) (hl : vs.length = m * e.size) (hk : kcp e d vs m n h k ≠ .bad) :
    ∃ v n' h', hcopy P (absH n h) dt d x = some (v, absH n' h') ∧ kcp e d vs m n h k = k v n' h' := by
  unfold kcp at hk ⊢
  unfold hcopy
  simp only [hu, he, Option.bind_some]
  split at hk
  · exact ⟨_, n, h, by simp only [hs, Option.map_some]; rfl, rfl⟩
  · rename_i b o sp len c
    simp only [hs, Option.bind_some]
    cases hm : Nat.beq (Nat.min m len) 0 with
    | true =>
      have hz : min m len = 0 := Nat.eq_of_beq_eq_true hm
      exact ⟨_, n, h, by rw [if_pos hz]; rfl, rfl⟩
    | false =>
      rw [hm] at hk
      have hz : min m len ≠ 0 := fun e => by rw [show Nat.min m len = min m len from rfl, e] at hm; simp at hm
      rw [if_neg hz]
      simp only at hk ⊢
      obtain ⟨hp, cs, rw', h3, h4⟩ := kcells_ok (n := n) _ hk
      rw [h4] at hk ⊢
      simp only [h3]
      cases rw' with
      | false => exact absurd rfl hk
      | true =>
        simp only at hk ⊢
        obtain ⟨h5, h6⟩ := ktake_ok _ _ _ hk
        rw [h6] at hk ⊢
        obtain ⟨h7, h8⟩ := kspl_ok _ _ _ _ hk
        rw [h8] at hk ⊢
        obtain ⟨h', h9, h10⟩ := kset_ok (n := n) hk
        rw [h10, forceNat_eq]
        have h5 : min m len * e.size ≤ vs.length := h5
        have hlen : (vs.take (Nat.mul (Nat.min m len) e.size)).length = min m len * e.size := by rw [List.length_take]; exact Nat.min_eq_left h5
        have hp2 : 0 < min m len * e.size := Nat.mul_pos (Nat.pos_of_ne_zero hz) hpos
        have h7' : o + min m len * e.size ≤ cs.length := by
          rcases h7 with h7 | h7
          · rw [h7] at hlen; simp at hlen; omega
          · rw [hlen] at h7; exact h7
        refine ⟨_, n, h', ?_, rfl⟩
        rw [if_pos ⟨h7', h5⟩, ← h9]; rfl
  · exact absurd rfl hk
noncomputable def kCopy1 (e : Elem) (d x : Operand) : KOp := fun fr n h k => kev d fr fun d => kev x fr fun x => ksource e.size x h fun vs m => kcp e d vs m n h k
def kcpElem (P : Program) (dt : TypeId) : Option Elem :=
  match P.underlying dt with
  | some (.slice u) => helemPos P u
  | _ => none
noncomputable def kCopy (P : Program) (dt : TypeId) (d x : Operand) : KOp := match kcpElem P dt with | some e => kCopy1 e d x | none => kbadOp
theorem kCopy_ok (sz : Nat) (dt xt : TypeId) (d x : Operand) : KOk P sz (.call ⟨.builtin .copy, ⟨[d, x]⟩, ⟨[dt, xt]⟩⟩) (kCopy P dt d x) := by
  unfold kCopy
  split
  · rename_i e he
    unfold kcpElem at he
    split at he
    · rename_i u hu
      unfold helemPos at he
      split at he
      · rename_i e' hel
        split at he <;> cases he
        rename_i hpos
        intro fr n h k hk
        unfold kCopy1 at hk ⊢
        obtain ⟨a, h1, h2⟩ := kev_ok (sz := sz) _ hk
        rw [h2] at hk ⊢
        obtain ⟨b, h3, h4⟩ := kev_ok (sz := sz) _ hk
        rw [h4] at hk ⊢
        obtain ⟨vs, m, h5, h6, h7⟩ := ksource_ok (n := n) hpos hk
        rw [h7] at hk ⊢
        obtain ⟨v, n', h', h8, h9⟩ := kcp_ok hu hel hpos h5 h6 hk
        refine ⟨v, n', h', ?_, h9⟩
        rw [k_hop_call]
        simp only [hevs, h1, h3, Option.bind_some, Option.map_some, hbuiltin]
        exact h8
      · cases he
    · cases he
  · exact kbadOp_ok _ _

/-- min, max. -/
noncomputable def kFold (f : Value → Value → Option Value) (x : Operand) (xs : List Operand) : KOp := fun fr n h k => kev x fr fun v => kevs xs fr fun vs => kslow (hfold f v vs) fun v => k v n h
theorem kFold_ok (sz : Nat) (x : Operand) (xs : List Operand) (ts : Array TypeId) : KOk P sz (.call ⟨.builtin .min, ⟨x :: xs⟩, ts⟩) (kFold hmin2 x xs) ∧ KOk P sz (.call ⟨.builtin .max, ⟨x :: xs⟩, ts⟩) (kFold hmax2 x xs) := by
  constructor <;>
  · intro fr n h k hk
    unfold kFold at hk ⊢
    obtain ⟨a, h1, h2⟩ := kev_ok (sz := sz) _ hk
    rw [h2] at hk ⊢
    obtain ⟨b, h3, h4⟩ := kevs_ok (sz := sz) _ _ hk
    rw [h4] at hk ⊢
    obtain ⟨v, h5, h6⟩ := kslow_ok _ _ hk
    refine ⟨v, n, h, ?_, h6⟩
    rw [k_hop_call]
    simp only [hevs, h1, h3, Option.bind_some, Option.map_some, hbuiltin, h5]
noncomputable def kLen (P : Program) (t : TypeId) (x : Operand) : KOp := fun fr n h k => kev x fr fun v => klen P t n h v fun v => k v n h
theorem kLen_ok (sz : Nat) (t : TypeId) (x : Operand) : KOk P sz (.call ⟨.builtin .len, ⟨[x]⟩, ⟨[t]⟩⟩) (kLen P t x) := by
  intro fr n h k hk
  unfold kLen at hk ⊢
  obtain ⟨a, h1, h2⟩ := kev_ok (sz := sz) _ hk
  rw [h2] at hk ⊢
  obtain ⟨v, h3, h4⟩ := klen_ok t n h a _ hk
  refine ⟨v, n, h, ?_, h4⟩
  rw [k_hop_call]
  simp only [hevs, h1, Option.bind_some, Option.map_some, hbuiltin, h3]
/-- A text ranged over. -/
noncomputable def krangeV (P : Program) (t : TypeId) (v : Value) (n : Nat) (h : Tr HObj) (k : Value → Nat → Tr HObj → KX) : KX :=
  match v with
  | .string s => Bool.rec .bad (kpush n h (.iter s 0) fun n' h' => k (.pointer (some ⟨n, 0, none⟩)) n' h') (rngStr P t)
  | _ => .bad
noncomputable def kRange (P : Program) (t : TypeId) (x : Operand) : KOp := fun fr n h k => kev x fr fun v => krangeV P t v n h k
theorem kRange_ok (sz : Nat) (t : TypeId) (x : Operand) : KOk P sz (.range t x) (kRange P t x) := by
  intro fr n h k hk
  unfold kRange at hk ⊢
  obtain ⟨v, h1, h2⟩ := kev_ok (sz := sz) _ hk
  rw [h2] at hk ⊢
  unfold krangeV at hk ⊢
  split at hk
  · rename_i s
    cases hs : rngStr P t with
    | false => rw [hs] at hk; exact absurd rfl hk
    | true =>
      rw [hs] at hk
      obtain ⟨n', h', h3, h4⟩ := kpush_ok hk
      refine ⟨_, n', h', ?_, h4⟩
      rw [hop_range, h1, Option.bind_some]
      simp only [hrange, hs, if_true, h3]; rfl
  · exact absurd rfl hk
noncomputable def kiter (b : Nat) (h : Tr HObj) (k : ByteArray → Nat → KX) : KX :=
  (tgB HObj b).on fun g => g h fun o => HObj.rec (fun _ _ => .bad) (fun _ => .bad) (fun s pos => k s pos) (fun _ _ _ => .bad) o
theorem kiter_ok {n : Nat} {b : Nat} {h : Tr HObj} (k : ByteArray → Nat → KX) (hk : kiter b h k ≠ .bad) : ∃ s pos, (absH n h).get b = some (.iter s pos) ∧ kiter b h k = k s pos := by
  unfold kiter at hk ⊢
  rw [tgB_eq] at hk ⊢
  cases hp : placed b with
  | false => rw [hp] at hk; exact absurd rfl hk
  | true =>
    rw [hp] at hk
    have e : (absH n h).get b = h.walk (path b) := by
      show h.at b = _
      unfold Tr.at; rw [hp]
    rw [e]
    simp only at hk ⊢
    cases hw : h.walk (path b) with
    | none => rw [hw] at hk; exact absurd rfl hk
    | some o =>
      rw [hw] at hk
      cases o with
      | iter s pos => exact ⟨s, pos, rfl, rfl⟩
      | cells _ _ => exact absurd rfl hk
      | map _ => exact absurd rfl hk
      | tag _ _ _ => exact absurd rfl hk
noncomputable def knextV (v : Value) (n : Nat) (h : Tr HObj) (k : Value → Nat → Tr HObj → KX) : KX :=
  match v with
  | .pointer (some ⟨b, 0, none⟩) => kiter b h fun s pos => Bool.rec (kkill b h fun h' => k (.tuple #[.bool false]) n h')
      (forceNat (Utf8.decode s pos).1 fun c => forceNat (Nat.add pos (Utf8.decode s pos).2) fun e => kset b h (.iter s e) fun h' => k (.tuple #[.bool true, .int .i64 (.ofNat pos), .int .i32 (.ofNat c)]) n h') (Nat.ble (Nat.succ pos) s.data.toList.length)
  | _ => .bad
noncomputable def kNext (it : Operand) : KOp := fun fr n h k => kev it fr fun v => knextV v n h k
theorem kNext_ok (sz : Nat) (it : Operand) : KOk P sz (.next it true) (kNext it) := by
  intro fr n h k hk
  unfold kNext at hk ⊢
  obtain ⟨v, h1, h2⟩ := kev_ok (sz := sz) _ hk
  rw [h2] at hk ⊢
  unfold knextV at hk ⊢
  rw [hop_next, h1, Option.bind_some]
  split at hk
  · rename_i b
    obtain ⟨s, pos, h3, h4⟩ := kiter_ok (n := n) _ hk
    rw [h4] at hk ⊢
    have hsz : s.data.toList.length = s.size := by rw [Array.length_toList, ByteArray.size_data]
    unfold hnext
    simp only [h3]
    rw [hsz] at hk ⊢
    cases hc : Nat.ble (Nat.succ pos) s.size with
    | false =>
      have : ¬ pos < s.size := fun hl => by rw [Nat.ble_eq_true_of_le hl] at hc; cases hc
      rw [if_neg this]
      rw [hc] at hk
      obtain ⟨h', h5, h6⟩ := kkill_ok (n := n) hk
      exact ⟨_, n, h', by rw [← h5], h6⟩
    | true =>
      rw [hc] at hk
      have hl : pos < s.size := Nat.le_of_ble_eq_true hc
      simp only [forceNat_eq] at hk ⊢
      obtain ⟨h', h5, h6⟩ := kset_ok (n := n) hk
      rw [if_pos hl]
      refine ⟨_, n, h', ?_, h6⟩
      rw [← h5]; rfl
  · exact absurd rfl hk
/-- Texts made of rows of bytes. -/
noncomputable def kSliceData (x : Operand) : KOp := kOf1 (fun _ _ a => hsliceData a) x
noncomputable def kgive (r : List UInt8 × Option Nat) (n : Nat) (h : Tr HObj) (k : Value → Nat → Tr HObj → KX) : KX :=
  kbyteRow r.1 fun l => Option.rec (k (.string ⟨⟨l⟩⟩) n h) (fun b => kkill b h fun h' => k (.string ⟨⟨l⟩⟩) n h') r.2
noncomputable def kUnsafeStr (P : Program) (pt : TypeId) (p m : Operand) : KOp := fun fr n h k => kev p fr fun p => kev m fr fun m => Option.rec .bad (fun r => kgive r n h k) (hunsafeV P (absH n h) pt p m)
theorem kUnsafeStr_ok (sz : Nat) (pt it : TypeId) (p m : Operand) : KOk P sz (.call ⟨.builtin .unsafeString, ⟨[p, m]⟩, ⟨[pt, it]⟩⟩) (kUnsafeStr P pt p m) := by
  intro fr n h k hk
  unfold kUnsafeStr at hk ⊢
  obtain ⟨a, h1, h2⟩ := kev_ok (sz := sz) _ hk
  rw [h2] at hk ⊢
  obtain ⟨b, h3, h4⟩ := kev_ok (sz := sz) _ hk
  rw [h4] at hk ⊢
  cases hu : hunsafeV P (absH n h) pt a b with
  | none => rw [hu] at hk; exact absurd rfl hk
  | some r =>
    rw [hu] at hk
    have hk : kgive r n h k ≠ .bad := hk
    show ∃ v n' h', _ ∧ kgive r n h k = _
    have hop_eq : hop P (absF sz fr) (absH n h) (.call ⟨.builtin .unsafeString, ⟨[p, m]⟩, ⟨[pt, it]⟩⟩) = some (.string ⟨r.1.toArray⟩, hgive (absH n h) r.2) := by
      rw [k_hop_call]
      simp only [hevs, h1, h3, Option.bind_some, Option.map_some, hbuiltin, hunsafeStr, hu]
    rw [hop_eq]
    unfold kgive at hk ⊢
    rw [kbyteRow_eq] at hk ⊢
    obtain ⟨l, q⟩ := r
    cases q with
    | none => exact ⟨_, n, h, rfl, rfl⟩
    | some b =>
      obtain ⟨h', h5, h6⟩ := kkill_ok (n := n) hk
      exact ⟨_, n, h', by simp only [hgive, h5], h6⟩
noncomputable def kBuiltin (P : Program) (b : Builtin) (args : List Operand) (ts : List TypeId) : KOp :=
  match b, args, ts with
  | .len, [x], [t] => kLen P t x
  | .append, [s, x], [st, xt] => kAppend P st xt s x
  | .copy, [d, x], [dt, _] => kCopy P dt d x
  | .min, x :: xs, _ => kFold hmin2 x xs
  | .max, x :: xs, _ => kFold hmax2 x xs
  | .unsafeSliceData, [x], _ => kSliceData x
  | .unsafeString, [p, n], [pt, _] => kUnsafeStr P pt p n
  | _, _, _ => kbadOp
theorem kBuiltin_ok (sz : Nat) (b : Builtin) (args : Array Operand) (ts : Array TypeId) : KOk P sz (.call ⟨.builtin b, args, ts⟩) (kBuiltin P b args.toList ts.toList) := by
  obtain ⟨args⟩ := args
  obtain ⟨ts⟩ := ts
  unfold kBuiltin
  split <;> rename_i h1 h2
  · subst h1; subst h2; exact kLen_ok sz _ _
  · subst h1; subst h2; exact kAppend_ok sz _ _ _ _
  · subst h1; subst h2; exact kCopy_ok sz _ _ _ _
  · subst h2; exact (kFold_ok sz _ _ _).1
  · subst h2; exact (kFold_ok sz _ _ _).2
  · subst h2
    refine kOf1_ok fun fr n h a ha => ?_
    rw [k_hop_call]
    simp only [hevs, ha, Option.bind_some, Option.map_some, hbuiltin]
  · subst h1; subst h2; exact kUnsafeStr_ok sz _ _ _ _
  · exact kbadOp_ok _ _

/-- ALL OPERATIONS that are no calls of functions. -/
noncomputable def kdisp (P : Program) : Op → KOp
  | .move x => kMove x
  | .assign x => kMove x
  | .pick c a b => kPick c a b
  | .alloc t => kAlloc P t
  | .box _ x => kBox x
  | .build t ps => kBuild P t ps.toList
  | .buildSlice t n ps => kBuildSlice P t n ps.toList
  | .load t a => kLoad P t a
  | .store t a x => kStore P t a x
  | .nilCheck x => kNil x
  | .binOp op t x y _ => kBin P op t x y
  | .unOp op _ x => kUn op x
  | .convert s d x => kConv P s d x
  | .makeInterface t x => kIface P t x
  | .makeFunc fn first captured => kFunc fn first.toList captured.toList
  | .makeMap _ none => kMakeMap
  | .makeSlice t l c => kMakeSlice P t l c
  | .slice t x lo hi mx => kSlice P t x lo hi mx
  | .fieldAddr s x f => kField P s x f
  | .field t x f => kFld P t x f
  | .indexAddr t x i => kIxA P t x i
  | .index t x i => kIx P t x i
  | .lookup t m k ok => kLookup P t m k ok
  | .mapUpdate t m k x => kMapUp P t m k x
  | .insert t m k x => kMapUp P t m k x
  | .extract t i => kExtract t i
  | .call ⟨.builtin b, args, ts⟩ => kBuiltin P b args.toList ts.toList
  | .range t x => kRange P t x
  | .next it true => kNext it
  | _ => kbadOp
theorem kdisp_ok (sz : Nat) (op : Op) : KOk P sz op (kdisp P op) := by
  unfold kdisp
  split
  · exact (kMove_ok sz _).1
  · exact (kMove_ok sz _).2
  · exact kPick_ok sz _ _ _
  · exact kAlloc_ok sz _
  · exact kBox_ok sz _ _
  · exact kBuild_ok sz _ _
  · exact kBuildSlice_ok sz _ _ _
  · exact kLoad_ok sz _ _
  · exact kStore_ok sz _ _ _
  · exact kNil_ok sz _
  · exact kBin_ok sz _ _ _ _ _
  · exact kUn_ok sz _ _ _
  · exact kConv_ok sz _ _ _
  · exact kIface_ok sz _ _
  · exact kFunc_ok sz _ _ _
  · exact kMakeMap_ok sz _
  · exact kMakeSlice_ok sz _ _ _
  · exact kSlice_ok sz _ _ _ _ _
  · exact kField_ok sz _ _ _
  · exact kFld_ok sz _ _ _
  · exact kIxA_ok sz _ _ _
  · exact kIx_ok sz _ _ _
  · exact kLookup_ok sz _ _ _ _
  · exact (kMapUp_ok sz _ _ _ _).1
  · exact (kMapUp_ok sz _ _ _ _).2
  · exact kExtract_ok sz _ _
  · exact kBuiltin_ok sz _ _ _
  · exact kRange_ok sz _ _
  · exact kNext_ok sz _
  · exact kbadOp_ok _ _
end Go.HL
