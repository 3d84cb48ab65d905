/-
  Joined: K5, KX, KY.
-/
import Derived.Test.YtaghhialaplgoaaGreatDoorPFK4
import Derived.KernelRfl
import Derived.Laws.BytesString
import Derived.Lib.Builder
import Derived.Lib.ConvBytes
set_option linter.unusedVariables false
set_option linter.unusedSimpArgs false
/-
  A way to run code on given data inside the kernel, part 5: appends, copies, all operations under one name.
-/
namespace Go.HL
open Go.RowKit
set_option linter.unusedSimpArgs false
set_option linter.unusedVariables false

variable {P : Program}

noncomputable def ksource (size : Nat) (x : Value) (h : Tr HObj) (k : List Value → Nat → KX) : KX :=
  match x with
  | .slice none 0 0 => k [] 0
  | .slice (some ⟨b, o, _⟩) n _ => Nat.rec (motive := fun _ => KX) (k [] 0) (fun _ _ => kcells b h fun cs _ => ktake (Nat.mul n size) (kdrop o cs) fun vs => k vs n) n
  | .string s => Bool.rec .bad (klist (s.data.toList.map fun b => .int .u8 b.toNat) fun vs => forceNat s.data.toList.length fun n => k vs n) (Nat.beq size 1)
  | _ => .bad
theorem ksource_ok {n : Nat} {size : Nat} (hpos : 0 < size) {x : Value} {h : Tr HObj} {k : List Value → Nat → KX} (hk : ksource size x h k ≠ .bad) :
    ∃ vs m, hsource (absH n h) size x = some (vs, m) ∧ vs.length = m * size ∧ ksource size x h k = k vs m := by
  unfold ksource at hk ⊢
  split at hk
  · exact ⟨[], 0, rfl, by simp, rfl⟩
  · rename_i b o sp m c
    cases m with
    | zero => exact ⟨[], 0, rfl, by simp, rfl⟩
    | succ m =>
      have hk : (kcells b h fun cs _ => ktake (Nat.mul (m + 1) size) (kdrop o cs) fun vs => k vs (m + 1)) ≠ .bad := hk
      show ∃ vs m', _ ∧ _ ∧ (kcells b h fun cs _ => ktake (Nat.mul (m + 1) size) (kdrop o cs) fun vs => k vs (m + 1)) = _
      obtain ⟨hp, cs, rw', h1, h2⟩ := kcells_ok (n := n) _ hk
      rw [h2] at hk ⊢
      obtain ⟨h3, h4⟩ := ktake_ok _ _ _ hk
      rw [kdrop_eq] at h3
      rw [h4, kdrop_eq]
      have h3' : (m + 1) * size ≤ cs.length - o := by rw [List.length_drop] at h3; exact h3
      have hz : 0 < (m + 1) * size := Nat.mul_pos (Nat.succ_pos m) hpos
      · refine ⟨_, _, ?_, ?_, rfl⟩
        · simp only [hsource]
          rw [if_neg (by omega)]
          simp only [h1]
          rw [if_pos (by omega)]; rfl
        · rw [List.length_take, List.length_drop, show Nat.mul (m + 1) size = (m + 1) * size from rfl]; omega
  · rename_i s
    cases hb : Nat.beq size 1 with
    | false => rw [hb] at hk; exact absurd rfl hk
    | true =>
      have := Nat.eq_of_beq_eq_true hb
      subst this
      simp only [klist_eq, forceNat_eq]
      refine ⟨_, _, ?_, ?_, rfl⟩
      · simp only [hsource]
        rw [if_pos trivial, Array.length_toList, ByteArray.size_data]
      · simp
  · exact absurd rfl hk

noncomputable def kapNew (e : Elem) (cs : List Value) (m : Nat) (n : Nat) (h : Tr HObj) (k : Value → Nat → Tr HObj → KX) : KX :=
  kpush n h (.cells cs true) fun n' h' => k (.slice (some ⟨n, 0, some (Nat.mul 2 e.size)⟩) m m) n' h'
noncomputable def kapGrow (e : Elem) (b o : Nat) (sp : Option Nat) (len m : Nat) (vs cs : List Value) (rw : Bool) (n : Nat) (h : Tr HObj) (k : Value → Nat → Tr HObj → KX) : KX :=
  kpre o (Nat.mul len e.size) cs fun r => (fun r : List Value =>
    match sp with
    | none => forceNat (Nat.add len m) fun lm => kapNew e r lm n h k
    | some q => Bool.rec .bad (Bool.rec .bad (kkill b h fun h => forceNat (Nat.add len m) fun lm => kapNew e r lm n h k) (Nat.beq (Nat.div q 2) e.size)) rw) (r ++ vs)
noncomputable def kapIn (e : Elem) (b o : Nat) (sp : Option Nat) (len cap m : Nat) (vs cs : List Value) (n : Nat) (h : Tr HObj) (k : Value → Nat → Tr HObj → KX) : KX :=
  kspl cs (Nat.add o (Nat.mul len e.size)) vs fun r => kset b h (.cells r true) fun h' => forceNat (Nat.add len m) fun lm => k (.slice (some ⟨b, o, sp⟩) lm cap) n h'
noncomputable def kspOk (e : Elem) (sp : Option Nat) : Bool := match sp with | none => true | some q => Nat.beq q (Nat.mul 2 e.size)
noncomputable def kapAt (e : Elem) (b o : Nat) (sp : Option Nat) (len cap m : Nat) (vs : List Value) (n : Nat) (h : Tr HObj) (k : Value → Nat → Tr HObj → KX) : KX :=
  kcells b h fun cs rw => Bool.rec (kapGrow e b o sp len m vs cs rw n h k) (Bool.rec .bad (Bool.rec .bad (kapIn e b o sp len cap m vs cs n h k) (kspOk e sp)) rw) (Nat.ble (Nat.add len m) cap)
noncomputable def kap (e : Elem) (s : Value) (vs : List Value) (m : Nat) (n : Nat) (h : Tr HObj) (k : Value → Nat → Tr HObj → KX) : KX :=
  match s with
  | .slice a len cap => Bool.rec (Bool.rec .bad (Bool.rec .bad (match a with
      | none => kapNew e vs m n h k
      | some ⟨b, o, sp⟩ => kapAt e b o sp len cap m vs n h k) (Nat.ble (Nat.add len m) 1099511627776)) (Nat.ble (Nat.mul (Nat.add len m) e.bytes) 1099511627776)) (k s n h) (Nat.beq m 0)
  | _ => .bad
def helemPos (P : Program) (u : TypeId) : Option Elem :=
  match helem P u with
  | some e => if 0 < e.size then some e else none
  | none => none
noncomputable def kapElem (P : Program) (st xt : TypeId) : Option Elem :=
  match P.underlying st with
  | some (.slice u) => Bool.rec none (helemPos P u) (isStr P xt)
  | _ => none
theorem kapElem_ok {st xt : TypeId} {e : Elem} (h : kapElem P st xt = some e) : ∃ u, P.underlying st = some (.slice u) ∧ isStr P xt = true ∧ helem P u = some e ∧ 0 < e.size := by
  unfold kapElem at h
  split at h
  · rename_i u hu
    cases hi : isStr P xt with
    | false => rw [hi] at h; cases h
    | true =>
      rw [hi] at h
      have h : helemPos P u = some e := h
      unfold helemPos at h
      split at h
      · rename_i e' he
        split at h <;> cases h
        exact ⟨u, hu, rfl, he, ‹_›⟩
      · cases h
  · cases h
theorem kapNew_ok {e : Elem} {cs : List Value} {m n : Nat} {h : Tr HObj} {k : Value → Nat → Tr HObj → KX} (hk : kapNew e cs m n h k ≠ .bad) :
    ∃ n' h', (absH n h).push (.cells cs true) = absH n' h' ∧ kapNew e cs m n h k = k (.slice (some ⟨n, 0, some (2 * e.size)⟩) m m) n' h' := by
  unfold kapNew at hk ⊢
  obtain ⟨n', h', h1, h2⟩ := kpush_ok hk
  exact ⟨n', h', h1, h2⟩
theorem kap_ok {st xt : TypeId} {e : Elem} (he : kapElem P st xt = some e) {s x : Value} {vs : List Value} {m n : Nat} {h : Tr HObj} {k : Value → Nat → Tr HObj → KX} (hs : hsource (absH n h) e.size x = some (vs, m)) (hl : vs.length = m * e.size) (hk : kap e s vs m n h k ≠ .bad) :
    ∃ v n' h', happend P (absH n h) st xt s x = some (v, absH n' h') ∧ kap e s vs m n h k = k v n' h' := by
  obtain ⟨u, hu, hi, hel, hpos⟩ := kapElem_ok he
  unfold kap at hk ⊢
  unfold happend
  simp only [hu, hi, if_true, hel, Option.bind_some, hs, hpos]
  split at hk
  · rename_i a len cap
    cases hm : Nat.beq m 0 with
    | true =>
      have := Nat.eq_of_beq_eq_true hm
      subst this
      exact ⟨_, n, h, by simp, rfl⟩
    | false =>
      rw [hm] at hk
      have hm0 : m ≠ 0 := fun e => by subst e; simp at hm
      simp only [if_neg hm0]
      cases hb1 : Nat.ble (Nat.mul (Nat.add len m) e.bytes) 1099511627776 with
      | false => rw [hb1] at hk; exact absurd rfl hk
      | true =>
        rw [hb1] at hk
        have h1 : (len + m) * e.bytes ≤ 1099511627776 := Nat.le_of_ble_eq_true hb1
        cases hb2 : Nat.ble (Nat.add len m) 1099511627776 with
        | false => rw [hb2] at hk; exact absurd rfl hk
        | true =>
          rw [hb2] at hk
          have h2 : len + m ≤ 1099511627776 := Nat.le_of_ble_eq_true hb2
          rw [if_pos ⟨h1, h2⟩]
          cases a with
          | none =>
            obtain ⟨n', h', h3, h4⟩ := kapNew_ok hk
            exact ⟨_, n', h', by simp only; rw [h3]; rfl, h4⟩
          | some a =>
            obtain ⟨b, o, sp⟩ := a
            have hk : kapAt e b o sp len cap m vs n h k ≠ .bad := hk
            show ∃ v n' h', _ ∧ kapAt e b o sp len cap m vs n h k = _
            unfold kapAt at hk ⊢
            obtain ⟨hp, cs, rw', h3, h4⟩ := kcells_ok (n := n) _ hk
            rw [h4] at hk ⊢
            simp only [h3]
            cases hc : Nat.ble (Nat.add len m) cap with
            | true =>
              rw [hc] at hk
              have hc' : len + m ≤ cap := Nat.le_of_ble_eq_true hc
              rw [if_pos hc']
              cases rw' with
              | false => exact absurd rfl hk
              | true =>
                cases hq : kspOk e sp with
                | false => rw [hq] at hk; exact absurd rfl hk
                | true =>
                  rw [hq] at hk
                  have hk : kapIn e b o sp len cap m vs cs n h k ≠ .bad := hk
                  show ∃ v n' h', _ ∧ kapIn e b o sp len cap m vs cs n h k = _
                  unfold kapIn at hk ⊢
                  obtain ⟨h5, h6⟩ := kspl_ok _ _ _ _ hk
                  rw [h6] at hk ⊢
                  obtain ⟨h', h7, h8⟩ := kset_ok (n := n) hk
                  rw [h8, forceNat_eq]
                  have hvs : 0 < vs.length := by rw [hl]; exact Nat.mul_pos (Nat.pos_of_ne_zero hm0) hpos
                  have h5' : o + len * e.size + vs.length ≤ cs.length := by
                    rcases h5 with h5 | h5
                    · rw [h5] at hvs; simp at hvs
                    · exact h5
                  rw [hl] at h5'
                  have hsp : sp = none ∨ sp = some (2 * e.size) := by
                    unfold kspOk at hq
                    split at hq
                    · exact .inl rfl
                    · exact .inr (by rw [Nat.eq_of_beq_eq_true hq]; rfl)
                  refine ⟨_, n, h', ?_, rfl⟩
                  rw [if_pos ⟨rfl, by rw [Nat.add_mul]; omega, hsp⟩]
                  rw [show o + len * e.size = Nat.add o (Nat.mul len e.size) from rfl, h7]; rfl
            | false =>
              rw [hc] at hk
              have hc' : ¬ len + m ≤ cap := fun hh => by
                have := Nat.ble_eq_true_of_le hh
                rw [show len + m = Nat.add len m from rfl, hc] at this; cases this
              rw [if_neg hc']
              have hk : kapGrow e b o sp len m vs cs rw' n h k ≠ .bad := hk
              show ∃ v n' h', _ ∧ kapGrow e b o sp len m vs cs rw' n h k = _
              unfold kapGrow at hk ⊢
              obtain ⟨h5, h6⟩ := kpre_ok _ _ _ _ hk
              rw [h6] at hk ⊢
              have h5 : len * e.size = 0 ∨ o + len * e.size ≤ cs.length := h5
              have hcond : o + len * e.size ≤ cs.length ∨ len = 0 := by
                rcases Nat.eq_zero_or_pos len with hz | hz
                · exact .inr hz
                · have := Nat.mul_pos hz hpos
                  exact .inl (by omega)
              rw [if_pos hcond]
              cases sp with
              | none =>
                simp only [forceNat_eq] at hk ⊢
                obtain ⟨n', h', h7, h8⟩ := kapNew_ok hk
                exact ⟨_, n', h', by rw [show Nat.mul len e.size = len * e.size from rfl] at h7; rw [h7]; rfl, h8⟩
              | some q =>
                cases rw' with
                | false => exact absurd rfl hk
                | true =>
                  cases hq : Nat.beq (Nat.div q 2) e.size with
                  | false => dsimp only at hk; rw [hq] at hk; exact absurd rfl hk
                  | true =>
                    simp only [hq] at hk ⊢
                    have hq' : q / 2 = e.size := Nat.eq_of_beq_eq_true hq
                    obtain ⟨h1', h7, h8⟩ := kkill_ok (n := n) hk
                    rw [h8, forceNat_eq] at hk ⊢
                    obtain ⟨n', h', h9, h10⟩ := kapNew_ok hk
                    refine ⟨_, n', h', ?_, h10⟩
                    rw [if_pos ⟨hq', by trivial⟩, h7]
                    rw [show Nat.mul len e.size = len * e.size from rfl] at h9
                    rw [h9]; rfl
  · exact absurd rfl hk
noncomputable def kAppend1 (e : Elem) (s x : Operand) : KOp := fun fr n h k => kev s fr fun s => kev x fr fun x => ksource e.size x h fun vs m => kap e s vs m n h k
noncomputable def kAppend (P : Program) (st xt : TypeId) (s x : Operand) : KOp := match kapElem P st xt with | some e => kAppend1 e s x | none => kbadOp
theorem k_hop_call (fr : HFrame) (H : HHeap) (b : Builtin) (args : Array Operand) (ts : Array TypeId) : hop P fr H (.call ⟨.builtin b, args, ts⟩) = (hevs fr args.toList).bind fun vs => hbuiltin P H b ts.toList vs := by unfold hop; rfl
theorem kAppend_ok (sz : Nat) (st xt : TypeId) (s x : Operand) : KOk P sz (.call ⟨.builtin .append, ⟨[s, x]⟩, ⟨[st, xt]⟩⟩) (kAppend P st xt s x) := by
  unfold kAppend
  split
  · rename_i e he
    intro fr n h k hk
    unfold kAppend1 at hk ⊢
    obtain ⟨a, h1, h2⟩ := kev_ok (sz := sz) _ hk
    rw [h2] at hk ⊢
    obtain ⟨b, h3, h4⟩ := kev_ok (sz := sz) _ hk
    rw [h4] at hk ⊢
    obtain ⟨u, hu, hi, hel, hpos⟩ := kapElem_ok he
    obtain ⟨vs, m, h5, h6, h7⟩ := ksource_ok (n := n) hpos hk
    rw [h7] at hk ⊢
    obtain ⟨v, n', h', h8, h9⟩ := kap_ok he h5 h6 hk
    refine ⟨v, n', h', ?_, h9⟩
    rw [k_hop_call]
    simp only [hevs, h1, h3, Option.bind_some, Option.map_some, hbuiltin]
    exact h8
  · exact kbadOp_ok _ _

/-- copy. -/
noncomputable def kcp (e : Elem) (d : Value) (vs : List Value) (m : Nat) (n : Nat) (h : Tr HObj) (k : Value → Nat → Tr HObj → KX) : KX :=
  match d with
  | .slice none 0 0 => k (.int .i64 (.ofNat 0)) n h
  | .slice (some ⟨b, o, _⟩) len _ => Bool.rec (kcells b h fun cs rw => Bool.rec .bad (ktake (Nat.mul (Nat.min m len) e.size) vs fun vs => kspl cs o vs fun r => kset b h (.cells r true) fun h' => forceNat (Nat.min m len) fun z => k (.int .i64 (.ofNat z)) n h') rw) (k (.int .i64 (.ofNat 0)) n h) (Nat.beq (Nat.min m len) 0)
  | _ => .bad
theorem kcp_ok {dt u : TypeId} {e : Elem} (hu : P.underlying dt = some (.slice u)) (he : helem P u = some e) (hpos : 0 < e.size) {d x : Value} {vs : List Value} {m n : Nat} {h : Tr HObj} {k : Value → Nat → Tr HObj → KX} (hs : hsource (absH n h) e.size x = some (vs, m)) (hl : vs.length = m * e.size) (hk : kcp e d vs m n h k ≠ .bad) :
    ∃ v n' h', hcopy P (absH n h) dt d x = some (v, absH n' h') ∧ kcp e d vs m n h k = k v n' h' := by
  unfold kcp at hk ⊢
  unfold hcopy
  simp only [hu, he, Option.bind_some]
  split at hk
  · exact ⟨_, n, h, by simp only [hs, Option.map_some]; rfl, rfl⟩
  · rename_i b o sp len c
    simp only [hs, Option.bind_some]
    cases hm : Nat.beq (Nat.min m len) 0 with
    | true =>
      have hz : min m len = 0 := Nat.eq_of_beq_eq_true hm
      exact ⟨_, n, h, by rw [if_pos hz]; rfl, rfl⟩
    | false =>
      rw [hm] at hk
      have hz : min m len ≠ 0 := fun e => by rw [show Nat.min m len = min m len from rfl, e] at hm; simp at hm
      rw [if_neg hz]
      simp only at hk ⊢
      obtain ⟨hp, cs, rw', h3, h4⟩ := kcells_ok (n := n) _ hk
      rw [h4] at hk ⊢
      simp only [h3]
      cases rw' with
      | false => exact absurd rfl hk
      | true =>
        simp only at hk ⊢
        obtain ⟨h5, h6⟩ := ktake_ok _ _ _ hk
        rw [h6] at hk ⊢
        obtain ⟨h7, h8⟩ := kspl_ok _ _ _ _ hk
        rw [h8] at hk ⊢
        obtain ⟨h', h9, h10⟩ := kset_ok (n := n) hk
        rw [h10, forceNat_eq]
        have h5 : min m len * e.size ≤ vs.length := h5
        have hlen : (vs.take (Nat.mul (Nat.min m len) e.size)).length = min m len * e.size := by rw [List.length_take]; exact Nat.min_eq_left h5
        have hp2 : 0 < min m len * e.size := Nat.mul_pos (Nat.pos_of_ne_zero hz) hpos
        have h7' : o + min m len * e.size ≤ cs.length := by
          rcases h7 with h7 | h7
          · rw [h7] at hlen; simp at hlen; omega
          · rw [hlen] at h7; exact h7
        refine ⟨_, n, h', ?_, rfl⟩
        rw [if_pos ⟨h7', h5⟩, ← h9]; rfl
  · exact absurd rfl hk
noncomputable def kCopy1 (e : Elem) (d x : Operand) : KOp := fun fr n h k => kev d fr fun d => kev x fr fun x => ksource e.size x h fun vs m => kcp e d vs m n h k
def kcpElem (P : Program) (dt : TypeId) : Option Elem :=
  match P.underlying dt with
  | some (.slice u) => helemPos P u
  | _ => none
noncomputable def kCopy (P : Program) (dt : TypeId) (d x : Operand) : KOp := match kcpElem P dt with | some e => kCopy1 e d x | none => kbadOp
theorem kCopy_ok (sz : Nat) (dt xt : TypeId) (d x : Operand) : KOk P sz (.call ⟨.builtin .copy, ⟨[d, x]⟩, ⟨[dt, xt]⟩⟩) (kCopy P dt d x) := by
  unfold kCopy
  split
  · rename_i e he
    unfold kcpElem at he
    split at he
    · rename_i u hu
      unfold helemPos at he
      split at he
      · rename_i e' hel
        split at he <;> cases he
        rename_i hpos
        intro fr n h k hk
        unfold kCopy1 at hk ⊢
        obtain ⟨a, h1, h2⟩ := kev_ok (sz := sz) _ hk
        rw [h2] at hk ⊢
        obtain ⟨b, h3, h4⟩ := kev_ok (sz := sz) _ hk
        rw [h4] at hk ⊢
        obtain ⟨vs, m, h5, h6, h7⟩ := ksource_ok (n := n) hpos hk
        rw [h7] at hk ⊢
        obtain ⟨v, n', h', h8, h9⟩ := kcp_ok hu hel hpos h5 h6 hk
        refine ⟨v, n', h', ?_, h9⟩
        rw [k_hop_call]
        simp only [hevs, h1, h3, Option.bind_some, Option.map_some, hbuiltin]
        exact h8
      · cases he
    · cases he
  · exact kbadOp_ok _ _

/-- min, max. -/
noncomputable def kFold (f : Value → Value → Option Value) (x : Operand) (xs : List Operand) : KOp := fun fr n h k => kev x fr fun v => kevs xs fr fun vs => kslow (hfold f v vs) fun v => k v n h
theorem kFold_ok (sz : Nat) (x : Operand) (xs : List Operand) (ts : Array TypeId) : KOk P sz (.call ⟨.builtin .min, ⟨x :: xs⟩, ts⟩) (kFold hmin2 x xs) ∧ KOk P sz (.call ⟨.builtin .max, ⟨x :: xs⟩, ts⟩) (kFold hmax2 x xs) := by
  constructor <;>
  · intro fr n h k hk
    unfold kFold at hk ⊢
    obtain ⟨a, h1, h2⟩ := kev_ok (sz := sz) _ hk
    rw [h2] at hk ⊢
    obtain ⟨b, h3, h4⟩ := kevs_ok (sz := sz) _ _ hk
    rw [h4] at hk ⊢
    obtain ⟨v, h5, h6⟩ := kslow_ok _ _ hk
    refine ⟨v, n, h, ?_, h6⟩
    rw [k_hop_call]
    simp only [hevs, h1, h3, Option.bind_some, Option.map_some, hbuiltin, h5]
noncomputable def kLen (P : Program) (t : TypeId) (x : Operand) : KOp := fun fr n h k => kev x fr fun v => klen P t n h v fun v => k v n h
theorem kLen_ok (sz : Nat) (t : TypeId) (x : Operand) : KOk P sz (.call ⟨.builtin .len, ⟨[x]⟩, ⟨[t]⟩⟩) (kLen P t x) := by
  intro fr n h k hk
  unfold kLen at hk ⊢
  obtain ⟨a, h1, h2⟩ := kev_ok (sz := sz) _ hk
  rw [h2] at hk ⊢
  obtain ⟨v, h3, h4⟩ := klen_ok t n h a _ hk
  refine ⟨v, n, h, ?_, h4⟩
  rw [k_hop_call]
  simp only [hevs, h1, Option.bind_some, Option.map_some, hbuiltin, h3]
/-- A text ranged over. -/
noncomputable def krangeV (P : Program) (t : TypeId) (v : Value) (n : Nat) (h : Tr HObj) (k : Value → Nat → Tr HObj → KX) : KX :=
  match v with
  | .string s => Bool.rec .bad (kpush n h (.iter s 0) fun n' h' => k (.pointer (some ⟨n, 0, none⟩)) n' h') (rngStr P t)
  | _ => .bad
noncomputable def kRange (P : Program) (t : TypeId) (x : Operand) : KOp := fun fr n h k => kev x fr fun v => krangeV P t v n h k
theorem kRange_ok (sz : Nat) (t : TypeId) (x : Operand) : KOk P sz (.range t x) (kRange P t x) := by
  intro fr n h k hk
  unfold kRange at hk ⊢
  obtain ⟨v, h1, h2⟩ := kev_ok (sz := sz) _ hk
  rw [h2] at hk ⊢
  unfold krangeV at hk ⊢
  split at hk
  · rename_i s
    cases hs : rngStr P t with
    | false => rw [hs] at hk; exact absurd rfl hk
    | true =>
      rw [hs] at hk
      obtain ⟨n', h', h3, h4⟩ := kpush_ok hk
      refine ⟨_, n', h', ?_, h4⟩
      rw [hop_range, h1, Option.bind_some]
      simp only [hrange, hs, if_true, h3]; rfl
  · exact absurd rfl hk
noncomputable def kiter (b : Nat) (h : Tr HObj) (k : ByteArray → Nat → KX) : KX :=
  (tgB HObj b).on fun g => g h fun o => HObj.rec (fun _ _ => .bad) (fun _ => .bad) (fun s pos => k s pos) (fun _ _ _ => .bad) o
theorem kiter_ok {n : Nat} {b : Nat} {h : Tr HObj} (k : ByteArray → Nat → KX) (hk : kiter b h k ≠ .bad) : ∃ s pos, (absH n h).get b = some (.iter s pos) ∧ kiter b h k = k s pos := by
  unfold kiter at hk ⊢
  rw [tgB_eq] at hk ⊢
  cases hp : placed b with
  | false => rw [hp] at hk; exact absurd rfl hk
  | true =>
    rw [hp] at hk
    have e : (absH n h).get b = h.walk (path b) := by
      show h.at b = _
      unfold Tr.at; rw [hp]
    rw [e]
    simp only at hk ⊢
    cases hw : h.walk (path b) with
    | none => rw [hw] at hk; exact absurd rfl hk
    | some o =>
      rw [hw] at hk
      cases o with
      | iter s pos => exact ⟨s, pos, rfl, rfl⟩
      | cells _ _ => exact absurd rfl hk
      | map _ => exact absurd rfl hk
      | tag _ _ _ => exact absurd rfl hk
noncomputable def knextV (v : Value) (n : Nat) (h : Tr HObj) (k : Value → Nat → Tr HObj → KX) : KX :=
  match v with
  | .pointer (some ⟨b, 0, none⟩) => kiter b h fun s pos => Bool.rec (kkill b h fun h' => k (.tuple #[.bool false]) n h')
      (forceNat (Utf8.decode s pos).1 fun c => forceNat (Nat.add pos (Utf8.decode s pos).2) fun e => kset b h (.iter s e) fun h' => k (.tuple #[.bool true, .int .i64 (.ofNat pos), .int .i32 (.ofNat c)]) n h') (Nat.ble (Nat.succ pos) s.data.toList.length)
  | _ => .bad
noncomputable def kNext (it : Operand) : KOp := fun fr n h k => kev it fr fun v => knextV v n h k
theorem kNext_ok (sz : Nat) (it : Operand) : KOk P sz (.next it true) (kNext it) := by
  intro fr n h k hk
  unfold kNext at hk ⊢
  obtain ⟨v, h1, h2⟩ := kev_ok (sz := sz) _ hk
  rw [h2] at hk ⊢
  unfold knextV at hk ⊢
  rw [hop_next, h1, Option.bind_some]
  split at hk
  · rename_i b
    obtain ⟨s, pos, h3, h4⟩ := kiter_ok (n := n) _ hk
    rw [h4] at hk ⊢
    have hsz : s.data.toList.length = s.size := by rw [Array.length_toList, ByteArray.size_data]
    unfold hnext
    simp only [h3]
    rw [hsz] at hk ⊢
    cases hc : Nat.ble (Nat.succ pos) s.size with
    | false =>
      have : ¬ pos < s.size := fun hl => by rw [Nat.ble_eq_true_of_le hl] at hc; cases hc
      rw [if_neg this]
      rw [hc] at hk
      obtain ⟨h', h5, h6⟩ := kkill_ok (n := n) hk
      exact ⟨_, n, h', by rw [← h5], h6⟩
    | true =>
      rw [hc] at hk
      have hl : pos < s.size := Nat.le_of_ble_eq_true hc
      simp only [forceNat_eq] at hk ⊢
      obtain ⟨h', h5, h6⟩ := kset_ok (n := n) hk
      rw [if_pos hl]
      refine ⟨_, n, h', ?_, h6⟩
      rw [← h5]; rfl
  · exact absurd rfl hk
/-- Texts made of rows of bytes. -/
noncomputable def kSliceData (x : Operand) : KOp := kOf1 (fun _ _ a => hsliceData a) x
noncomputable def kgive (r : List UInt8 × Option Nat) (n : Nat) (h : Tr HObj) (k : Value → Nat → Tr HObj → KX) : KX :=
  kbyteRow r.1 fun l => Option.rec (k (.string ⟨⟨l⟩⟩) n h) (fun b => kkill b h fun h' => k (.string ⟨⟨l⟩⟩) n h') r.2
noncomputable def kUnsafeStr (P : Program) (pt : TypeId) (p m : Operand) : KOp := fun fr n h k => kev p fr fun p => kev m fr fun m => Option.rec .bad (fun r => kgive r n h k) (hunsafeV P (absH n h) pt p m)
theorem kUnsafeStr_ok (sz : Nat) (pt it : TypeId) (p m : Operand) : KOk P sz (.call ⟨.builtin .unsafeString, ⟨[p, m]⟩, ⟨[pt, it]⟩⟩) (kUnsafeStr P pt p m) := by
  intro fr n h k hk
  unfold kUnsafeStr at hk ⊢
  obtain ⟨a, h1, h2⟩ := kev_ok (sz := sz) _ hk
  rw [h2] at hk ⊢
  obtain ⟨b, h3, h4⟩ := kev_ok (sz := sz) _ hk
  rw [h4] at hk ⊢
  cases hu : hunsafeV P (absH n h) pt a b with
  | none => rw [hu] at hk; exact absurd rfl hk
  | some r =>
    rw [hu] at hk
    have hk : kgive r n h k ≠ .bad := hk
    show ∃ v n' h', _ ∧ kgive r n h k = _
    have hop_eq : hop P (absF sz fr) (absH n h) (.call ⟨.builtin .unsafeString, ⟨[p, m]⟩, ⟨[pt, it]⟩⟩) = some (.string ⟨r.1.toArray⟩, hgive (absH n h) r.2) := by
      rw [k_hop_call]
      simp only [hevs, h1, h3, Option.bind_some, Option.map_some, hbuiltin, hunsafeStr, hu]
    rw [hop_eq]
    unfold kgive at hk ⊢
    rw [kbyteRow_eq] at hk ⊢
    obtain ⟨l, q⟩ := r
    cases q with
    | none => exact ⟨_, n, h, rfl, rfl⟩
    | some b =>
      obtain ⟨h', h5, h6⟩ := kkill_ok (n := n) hk
      exact ⟨_, n, h', by simp only [hgive, h5], h6⟩
noncomputable def kBuiltin (P : Program) (b : Builtin) (args : List Operand) (ts : List TypeId) : KOp :=
  match b, args, ts with
  | .len, [x], [t] => kLen P t x
  | .append, [s, x], [st, xt] => kAppend P st xt s x
  | .copy, [d, x], [dt, _] => kCopy P dt d x
  | .min, x :: xs, _ => kFold hmin2 x xs
  | .max, x :: xs, _ => kFold hmax2 x xs
  | .unsafeSliceData, [x], _ => kSliceData x
  | .unsafeString, [p, n], [pt, _] => kUnsafeStr P pt p n
  | _, _, _ => kbadOp
theorem kBuiltin_ok (sz : Nat) (b : Builtin) (args : Array Operand) (ts : Array TypeId) : KOk P sz (.call ⟨.builtin b, args, ts⟩) (kBuiltin P b args.toList ts.toList) := by
  obtain ⟨args⟩ := args
  obtain ⟨ts⟩ := ts
  unfold kBuiltin
  split <;> rename_i h1 h2
  · subst h1; subst h2; exact kLen_ok sz _ _
  · subst h1; subst h2; exact kAppend_ok sz _ _ _ _
  · subst h1; subst h2; exact kCopy_ok sz _ _ _ _
  · subst h2; exact (kFold_ok sz _ _ _).1
  · subst h2; exact (kFold_ok sz _ _ _).2
  · subst h2
    refine kOf1_ok fun fr n h a ha => ?_
    rw [k_hop_call]
    simp only [hevs, ha, Option.bind_some, Option.map_some, hbuiltin]
  · subst h1; subst h2; exact kUnsafeStr_ok sz _ _ _ _
  · exact kbadOp_ok _ _

/-- ALL OPERATIONS that are no calls of functions. -/
noncomputable def kdisp (P : Program) : Op → KOp
  | .move x => kMove x
  | .assign x => kMove x
  | .pick c a b => kPick c a b
  | .alloc t => kAlloc P t
  | .box _ x => kBox x
  | .build t ps => kBuild P t ps.toList
  | .buildSlice t n ps => kBuildSlice P t n ps.toList
  | .load t a => kLoad P t a
  | .store t a x => kStore P t a x
  | .nilCheck x => kNil x
  | .binOp op t x y _ => kBin P op t x y
  | .unOp op _ x => kUn op x
  | .convert s d x => kConv P s d x
  | .makeInterface t x => kIface P t x
  | .makeFunc fn first captured => kFunc fn first.toList captured.toList
  | .makeMap _ none => kMakeMap
  | .makeSlice t l c => kMakeSlice P t l c
  | .slice t x lo hi mx => kSlice P t x lo hi mx
  | .fieldAddr s x f => kField P s x f
  | .field t x f => kFld P t x f
  | .indexAddr t x i => kIxA P t x i
  | .index t x i => kIx P t x i
  | .lookup t m k ok => kLookup P t m k ok
  | .mapUpdate t m k x => kMapUp P t m k x
  | .insert t m k x => kMapUp P t m k x
  | .extract t i => kExtract t i
  | .call ⟨.builtin b, args, ts⟩ => kBuiltin P b args.toList ts.toList
  | .range t x => kRange P t x
  | .next it true => kNext it
  | _ => kbadOp
theorem kdisp_ok (sz : Nat) (op : Op) : KOk P sz op (kdisp P op) := by
  unfold kdisp
  split
  · exact (kMove_ok sz _).1
  · exact (kMove_ok sz _).2
  · exact kPick_ok sz _ _ _
  · exact kAlloc_ok sz _
  · exact kBox_ok sz _ _
  · exact kBuild_ok sz _ _
  · exact kBuildSlice_ok sz _ _ _
  · exact kLoad_ok sz _ _
  · exact kStore_ok sz _ _ _
  · exact kNil_ok sz _
  · exact kBin_ok sz _ _ _ _ _
  · exact kUn_ok sz _ _ _
  · exact kConv_ok sz _ _ _
  · exact kIface_ok sz _ _
  · exact kFunc_ok sz _ _ _
  · exact kMakeMap_ok sz _
  · exact kMakeSlice_ok sz _ _ _
  · exact kSlice_ok sz _ _ _ _ _
  · exact kField_ok sz _ _ _
  · exact kFld_ok sz _ _ _
  · exact kIxA_ok sz _ _ _
  · exact kIx_ok sz _ _ _
  · exact kLookup_ok sz _ _ _ _
  · exact (kMapUp_ok sz _ _ _ _).1
  · exact (kMapUp_ok sz _ _ _ _).2
  · exact kExtract_ok sz _ _
  · exact kBuiltin_ok sz _ _ _
  · exact kRange_ok sz _ _
  · exact kNext_ok sz _
  · exact kbadOp_ok _ _
end Go.HL
/-
  A way to run code on given data inside the kernel: some operations that the high level has no word for.
-/
namespace Go.HL
open Go.RowKit
set_option linter.unusedSimpArgs false
set_option linter.unusedVariables false
set_option maxRecDepth 100000

variable {P : Program}

/-- The model's operation meets this, wherever it is done. -/
def HMeet (P : Program) (fr : HFrame) (H : HHeap) (o : Oper) (v : Value) (H' : HHeap) : Prop :=
  ∀ D B μ w a, Rel B μ H w → FRel D μ fr a → OpMeets P B μ H w ((execOp a.eval o).run P w) v H'
theorem HMeet.of_hop {fr : HFrame} {H H' : HHeap} {o : Oper} {v : Value} (h : hop P fr H o.op = some (v, H')) : HMeet P fr H o v H' :=
  fun D B μ w a hR hf => sim_hop hR hf h

def MeetOk (P : Program) (sz : Nat) (o : Oper) (g : KOp) : Prop :=
  ∀ fr n h k, g fr n h k ≠ .bad → ∃ v n' h', HMeet P (absF sz fr) (absH n h) o v (absH n' h') ∧ g fr n h k = k v n' h'

/-- cap of a row that is nil, or whose spare places are known. -/
noncomputable def kcapV (v : Value) (k : Value → KX) : KX :=
  match v with
  | .slice none 0 0 => k (.int .i64 (.ofNat 0))
  | .slice (some ⟨_, _, none⟩) _ c => k (.int .i64 (.ofNat c))
  | _ => .bad
def isSl (P : Program) (t : TypeId) : Bool := match P.underlying t with | some (.slice _) => true | _ => false
noncomputable def kCap (P : Program) (t : TypeId) (x : Operand) : KOp := Bool.rec kbadOp (fun fr n h k => kev x fr fun v => kcapV v fun v => k v n h) (isSl P t)
theorem kCap_ok (sz : Nat) (o : Oper) (t : TypeId) (x : Operand) (ho : o.op = .call ⟨.builtin .cap, ⟨[x]⟩, ⟨[t]⟩⟩) : MeetOk P sz o (kCap P t x) := by
  unfold kCap
  cases ht : isSl P t with
  | false => exact fun fr n h k hk => absurd rfl hk
  | true =>
    obtain ⟨e, he⟩ : ∃ e, P.underlying t = some (.slice e) := by
      unfold isSl at ht
      split at ht
      · exact ⟨_, ‹_›⟩
      · cases ht
    intro fr n h k hk
    have hk : (kev x fr fun v => kcapV v fun v => k v n h) ≠ .bad := hk
    show ∃ v n' h', _ ∧ (kev x fr fun v => kcapV v fun v => k v n h) = _
    obtain ⟨v, h1, h2⟩ := kev_ok (sz := sz) _ hk
    rw [h2] at hk ⊢
    have key : ∀ c : Nat, (∀ μ v', VRel μ v v' → ∃ a l, v' = .slice a l c) → HMeet P (absF sz fr) (absH n h) o (.int .i64 (.ofNat c)) (absH n h) := by
      intro c hc D B μ w a hR hf
      obtain ⟨ad, l, hv⟩ := hc μ _ (hev_rel hf h1)
      exact ⟨μ, w, _, Step.refl hR, .int _ _, .inl (by simp [execOp, ho, resolve, invoke, builtin, Builtin.cap_, hv, run_underlying he, goInt])⟩
    unfold kcapV at hk ⊢
    split at hk
    · exact ⟨_, n, h, key 0 (fun μ v' hv => by cases hv; exact ⟨_, _, rfl⟩), rfl⟩
    · rename_i b o' l c
      refine ⟨_, n, h, key c (fun μ v' hv => ?_), rfl⟩
      cases hv with
      | slice _ _ _ _ p hp hl => exact ⟨_, _, rfl⟩
      | void _ _ a => exact ⟨_, _, rfl⟩
    · exact absurd rfl hk

/-- Functions without a body that the model does by itself. -/
theorem no_next {fn : Func} {n : String} (h : fn.name = n) (h0 : fn.origin = "") (h1 : (Extern.allNextRows.lookup n).isNone = true) (h2 : (Extern.allNextRows.lookup "").isNone = true) : Extern.findNext fn = none := by
  unfold Extern.findNext
  rw [h, h0]
  simp only [Option.isNone_iff_eq_none] at h1 h2
  simp [h1, h2]
theorem find_row {fn : Func} {n : String} {e : Array Value → Sem Value} (h : fn.name = n) (h1 : (Extern.allGenericRows.lookup n).isNone = true) (h2 : (Extern.allTypedRows.lookup n).isNone = true) (h3 : Extern.allRows.lookup n = some e) : Extern.find fn = some e := by
  unfold Extern.find
  rw [h]
  simp only [Option.isNone_iff_eq_none] at h1 h2
  simp [h1, h2, h3]
def countName : String := "internal/bytealg.CountString"
def indexName : String := "internal/bytealg.IndexByteString"
theorem next0 : (Extern.allNextRows.lookup "").isNone = true := by kernel_rfl
theorem next_count : (Extern.allNextRows.lookup countName).isNone = true := by kernel_rfl
theorem next_index : (Extern.allNextRows.lookup indexName).isNone = true := by kernel_rfl
theorem gen_count : (Extern.allGenericRows.lookup countName).isNone = true := by kernel_rfl
theorem gen_index : (Extern.allGenericRows.lookup indexName).isNone = true := by kernel_rfl
theorem typed_count : (Extern.allTypedRows.lookup countName).isNone = true := by kernel_rfl
theorem typed_index : (Extern.allTypedRows.lookup indexName).isNone = true := by kernel_rfl
theorem row_count : Extern.allRows.lookup countName = some Extern.BytealgCount.count := by kernel_rfl
theorem row_index : Extern.allRows.lookup indexName = some Extern.BytealgIndexByte.indexByte := by kernel_rfl

/-- Which one: 1 counts, 2 looks for a byte. -/
def extKind (P : Program) (g : FuncId) : Nat :=
  match P.funcs[g]? with
  | some fn => if fn.body.isNone ∧ fn.origin = "" then (if fn.name = countName then 1 else if fn.name = indexName then 2 else 0) else 0
  | none => 0
theorem ext_run {fn : Func} {g : FuncId} {e : Array Value → Sem Value} (hf : P.funcs[g]? = some fn) (hb : fn.body.isNone = true) (hn : Extern.findNext fn = none) (he : Extern.find fn = some e) (hname : (fn.name == "runtime.NumGoroutine") = false) (args : Array Value) (w : World) (v : Value) (hv : (e args).run P w = .ok v w) :
    (callFunc g args).run P w = .ok (.value v) w := by
  unfold callFunc
  simp only [Sem.run_bind, program, Sem.run, Result.andThen_ok, hf, hname, Bool.false_eq_true, if_false, hb, if_true, mark, hn, he, Sem.run_pure, hv]
def countOf (s : ByteArray) (c : Int) : Int := s.foldl (fun n x => if x == c.toNat.toUInt8 then n + 1 else n) ((0 : Nat) : Int)
def indexOf (s : ByteArray) (c : Int) : Option Nat := (List.range s.size).find? fun i => s[i]! == c.toNat.toUInt8
theorem run_count (s : ByteArray) (c : Int) (w : World) : (Extern.BytealgCount.count #[.string s, .int .u8 c]).run P w = .ok (.int .i64 (countOf s c)) w := by
  rfl
theorem run_index (s : ByteArray) (c : Int) (w : World) : (Extern.BytealgIndexByte.indexByte #[.string s, .int .u8 c]).run P w = .ok (match indexOf s c with | some i => .int .i64 (.ofNat i) | none => .int .i64 (.negSucc 0)) w := by
  have e : Extern.BytealgIndexByte.indexByte #[.string s, .int .u8 c] = (match indexOf s c with | some i => pure (goInt i) | none => pure (goInt (-1))) := by rfl
  rw [e]
  cases indexOf s c <;> rfl
noncomputable def kExtV (kind : Nat) (vs : List Value) (k : Value → KX) : KX :=
  match kind, vs with
  | 1, [.string s, .int .u8 c] => forceInt (countOf s c) fun z => k (.int .i64 z)
  | 2, [.string s, .int .u8 c] => Option.rec (k (.int .i64 (.negSucc 0))) (fun i => forceNat i fun i => k (.int .i64 (.ofNat i))) (indexOf s c)
  | _, _ => .bad
theorem extKind_spec {g : FuncId} {m : Nat} (h : extKind P g = m) (hm : m ≠ 0) : ∃ fn e, P.funcs[g]? = some fn ∧ fn.body.isNone = true ∧ Extern.findNext fn = none ∧ Extern.find fn = some e ∧ (fn.name == "runtime.NumGoroutine") = false ∧
    (m = 1 → e = Extern.BytealgCount.count) ∧ (m = 2 → e = Extern.BytealgIndexByte.indexByte) := by
  unfold extKind at h
  split at h
  · rename_i fn hf
    split at h
    · rename_i hc
      split at h
      · rename_i hn
        subst h
        exact ⟨fn, _, hf, hc.1, no_next hn hc.2 next_count next0, find_row hn gen_count typed_count row_count, by rw [hn]; rfl, fun _ => rfl, fun h => absurd h (by decide)⟩
      · split at h
        · rename_i hn
          subst h
          exact ⟨fn, _, hf, hc.1, no_next hn hc.2 next_index next0, find_row hn gen_index typed_index row_index, by rw [hn]; rfl, fun h => absurd h (by decide), fun _ => rfl⟩
        · exact absurd h.symm hm
    · exact absurd h.symm hm
  · exact absurd h.symm hm
noncomputable def kExt (kind : Nat) (args : List Operand) : KOp := fun fr n h k => kevs args fr fun vs => kExtV kind vs fun v => k v n h
theorem kExt_ok (sz : Nat) (o : Oper) (g : FuncId) (args : Array Operand) (ts : Array TypeId) (ho : o.op = .call ⟨.value (.func g), args, ts⟩) : MeetOk P sz o (kExt (extKind P g) args.toList) := by
  intro fr n h k hk
  unfold kExt at hk ⊢
  obtain ⟨vs, h1, h2⟩ := kevs_ok (sz := sz) _ _ hk
  rw [h2] at hk ⊢
  have key : ∀ (m : Nat) (v : Value) (s : ByteArray) (c : Int), extKind P g = m → m ≠ 0 → vs = [.string s, .int .u8 c] → flat1 v = true →
      (∀ e : Array Value → Sem Value, ((m = 1 → e = Extern.BytealgCount.count) ∧ (m = 2 → e = Extern.BytealgIndexByte.indexByte)) → ∀ w, (e #[.string s, .int .u8 c]).run P w = .ok v w) → HMeet P (absF sz fr) (absH n h) o v (absH n h) := by
    intro m v s c hm hm0 hvs hfl hrun D B μ w a hR hf
    obtain ⟨fn, e, e1, e2, e3, e4, e5, e6⟩ := extKind_spec hm hm0
    have hargs := hevs_rel hf _ _ h1
    rw [hvs] at hargs
    have ha : args.map a.eval = #[.string s, .int .u8 c] := by
      apply Array.ext'
      have : (args.toList.map a.eval) = [.string s, .int .u8 c] := hargs.flat1_eq (by rfl)
      simpa using this
    refine ⟨μ, w, v, Step.refl hR, .of_flat1 hfl, .inl ?_⟩
    have := ext_run e1 e2 e3 e4 e5 #[.string s, .int .u8 c] w v (hrun e e6 w)
    simp [execOp, ho, resolve, invoke, Act.eval, Deferred.ofValue, ha, this]
  unfold kExtV at hk ⊢
  split at hk
  · rename_i s c hm
    rw [forceInt_eq]
    refine ⟨_, n, h, key 1 _ s c hm (by simp) rfl rfl (fun e he w => ?_), rfl⟩
    rw [he.1 rfl]; exact run_count s c w
  · rename_i s c hm
    cases hi : indexOf s c with
    | none =>
      refine ⟨_, n, h, key 2 (.int .i64 (.negSucc 0)) s c hm (by simp) rfl rfl (fun e he w => ?_), rfl⟩
      rw [he.2 rfl, run_index, hi]
    | some i =>
      simp only [forceNat_eq]
      refine ⟨_, n, h, key 2 (.int .i64 (.ofNat i)) s c hm (by simp) rfl rfl (fun e he w => ?_), rfl⟩
      rw [he.2 rfl, run_index, hi]
  · exact absurd rfl hk

/-- append of so many zeros to nothing. -/
theorem append_make {w : World} {st xt ty u : TypeId} {e : Elem} {kk k : IntKind} (hu : P.underlying st = some (.slice u)) (hd : P.underlying xt = some (.int kk)) (he : helem P u = some e) (hs : 0 < e.size) (m : Nat) (h0 : 0 < m) (hb : m * e.bytes ≤ 1099511627776) (hm : m ≤ 1099511627776) :
    (Builtin.append_ #[st, xt] ty #[.slice none 0 0, .int k m]).run P w = .ok (.slice (some ⟨w.heap.size, 0, none⟩) m (grownCap w m 0 u)) (w.drew.alloc (.cells (Builtin.zeroCells e.zero.toArray m ++ Builtin.zeroCells e.zero.toArray (grownCap w m 0 u - m)) u)) := by
  obtain ⟨i, z, hi, hz, hze, hsz, hby, hf, hzl⟩ := helem_spec he
  have hza : z.cells = e.zero.toArray := by rw [← hze]
  have h63 : ¬ (9223372036854775807 < (m : Int)) := by omega
  have h48 : ¬ (281474976710656 < Builtin.nextslicecap m 0 * e.bytes) := by
    have := growslice_fits (need := m) (old := 0) (bytes := e.bytes) (by omega) (by omega); omega
  have wl := wrap_small (c := (m : Int)) (by omega) (by omega)
  have hneg : ¬ ((m : Int) < 0) := by omega
  have hbi : ¬ (281474976710656 < (m : Int) * (e.bytes : Int)) := by
    have : ((m * e.bytes : Nat) : Int) = (m : Int) * (e.bytes : Int) := by simp
    rw [← this]; omega
  have hms : ¬ (m = 0 ∨ e.size = 0) := by omega
  have hm0 : ¬ m ≤ 0 := by omega
  simp [Builtin.append_, run_underlying hu, run_underlying hd, sizeOf, typeInfo, hi, hsz, zeroValue, hz, h63, h48, hby, Question.forced, newRow, grownCap, hza, asInt, asIntOf, wl, hneg, hbi, hms, hm0, Builtin.firstCells]
  rw [if_neg (by omega), if_neg (by have := Nat.mul_pos h0 hs; omega)]
theorem zeroCells_list (zs : List Value) (n : Nat) (hpos : 0 < zs.length) : (Builtin.zeroCells zs.toArray n).toList = hzeros zs (n * zs.length) := by
  have := zeros_eq zs (n * zs.length) hpos
  unfold Builtin.zeroCells
  simpa using this
noncomputable def kApMake (e : Elem) (s x : Operand) : KOp := fun fr n h k => kev s fr fun s => kev x fr fun x => kapMake e s x n h k
where
  kapMake (e : Elem) (s x : Value) (n : Nat) (h : Tr HObj) (k : Value → Nat → Tr HObj → KX) : KX :=
    match s, x with
    | .slice none 0 0, .int _ (.ofNat m) => Bool.rec .bad (Bool.rec .bad (Bool.rec .bad (klist (hzeros e.zero (m * e.size)) fun cs => kapNew e cs m n h k) (Nat.ble m 1099511627776)) (Nat.ble (m * e.bytes) 1099511627776)) (Nat.ble 1 m)
    | _, _ => .bad
def apElem (P : Program) (st xt : TypeId) : Option Elem :=
  match P.underlying st, P.underlying xt with
  | some (.slice u), some (.int _) => helemPos P u
  | _, _ => none
noncomputable def kAppMake (P : Program) (st xt : TypeId) (s x : Operand) : KOp := match apElem P st xt with | some e => kApMake e s x | none => kbadOp
theorem kAppMake_ok (sz : Nat) (o : Oper) (st xt : TypeId) (s x : Operand) (ho : o.op = .call ⟨.builtin .append, ⟨[s, x]⟩, ⟨[st, xt]⟩⟩) : MeetOk P sz o (kAppMake P st xt s x) := by
  unfold kAppMake
  split
  · rename_i e he
    unfold apElem at he
    split at he
    · rename_i u kk hu hd
      unfold helemPos at he
      split at he
      · rename_i e' hel
        split at he <;> cases he
        rename_i hpos
        intro fr n h k hk
        unfold kApMake at hk ⊢
        obtain ⟨a, h1, h2⟩ := kev_ok (sz := sz) _ hk
        rw [h2] at hk ⊢
        obtain ⟨b, h3, h4⟩ := kev_ok (sz := sz) _ hk
        rw [h4] at hk ⊢
        unfold kApMake.kapMake at hk ⊢
        split at hk
        · rename_i ik m
          cases c1 : Nat.ble 1 m with
          | false => rw [c1] at hk; exact absurd rfl hk
          | true =>
            cases c2 : Nat.ble (m * e.bytes) 1099511627776 with
            | false => rw [c1, c2] at hk; exact absurd rfl hk
            | true =>
              cases c3 : Nat.ble m 1099511627776 with
              | false => rw [c1, c2, c3] at hk; exact absurd rfl hk
              | true =>
                rw [c1, c2, c3] at hk
                simp only [klist_eq] at hk ⊢
                obtain ⟨n', h', h5, h6⟩ := kapNew_ok hk
                refine ⟨_, n', h', ?_, h6⟩
                have d1 := Nat.le_of_ble_eq_true c1
                have d2 := Nat.le_of_ble_eq_true c2
                have d3 := Nat.le_of_ble_eq_true c3
                intro D B μ w ac hR hf
                have r1 := hev_rel hf h1
                have r2 := hev_rel hf h3
                have e1 : ac.eval s = .slice none 0 0 := by generalize ac.eval s = z at r1; cases r1; rfl
                have e2 : ac.eval x = .int ik (.ofNat m) := by generalize ac.eval x = z at r2; cases r2; rfl
                obtain ⟨i, z, hi, hz, hze, hsz, hby, hfl, hzl⟩ := helem_spec hel
                have hpz : 0 < e.zero.length := by omega
                have hflat := hzeros_flat hfl (m * e.size) hpz
                have hge := grownCap_ge w m 0 u
                have st' := hR.drew.allocCells (hzeros e.zero (m * e.size)) (Builtin.zeroCells e.zero.toArray m ++ Builtin.zeroCells e.zero.toArray (grownCap w m 0 u - m)) u
                  (by
                    rw [Array.toList_append, zeroCells_list _ _ hpz, hzl, List.take_left]
                    exact .of_flat1 hflat) (allFlat_one hflat)
                refine ⟨_, _, .slice (some ⟨w.heap.size, 0, none⟩) m (grownCap w m 0 u), by rw [← h5]; exact (Step.drew hR).trans st', ?_, .inl ?_⟩
                · refine .grown _ _ _ _ _ _ ⟨w.drew.heap.size, 0, (Builtin.zeroCells e.zero.toArray m ++ Builtin.zeroCells e.zero.toArray (grownCap w m 0 u - m)).size⟩ (by show (Mu.add μ n _) n = some _; simp [Mu.add]) (Nat.le_refl _) hge ?_
                  simp only [Array.size_append, size_zeroCells, List.size_toArray, hzl]
                  rw [← Nat.add_mul, show m + (grownCap w m 0 u - m) = grownCap w m 0 u by omega]; omega
                · have := append_make (P := P) (w := w) (ty := o.type) (k := ik) hu hd hel hpos m d1 d2 d3
                  have e2' : ac.eval x = .int ik (m : Int) := e2
                  simp [execOp, ho, resolve, invoke, builtin, e1, e2', this]
        · exact absurd rfl hk
      · cases he
    · cases he
  · exact fun fr n h k hk => absurd rfl hk

noncomputable def kbyteV (v : Value) (k : Nat → KX) : KX := match v with | .int .u8 (.ofNat z) => k z | _ => .bad
noncomputable def kbyteVs (l : List Value) (k : List Nat → KX) : KX := List.rec (motive := fun _ => (List Nat → KX) → KX) (fun k => k []) (fun v _ ih k => kbyteV v fun z => ih fun r => k (z :: r)) l k
theorem kbyteVs_ok : ∀ (l : List Value) (k : List Nat → KX), kbyteVs l k ≠ .bad → ∃ zs, l = zs.map (fun z => Value.int .u8 (.ofNat z)) ∧ kbyteVs l k = k zs
  | [], k, hk => ⟨[], rfl, rfl⟩
  | v :: l, k, hk => by
    have e : kbyteVs (v :: l) k = kbyteV v fun z => kbyteVs l fun r => k (z :: r) := rfl
    rw [e] at hk ⊢
    unfold kbyteV at hk ⊢
    split at hk
    · rename_i z
      obtain ⟨zs, h1, h2⟩ := kbyteVs_ok l _ hk
      exact ⟨z :: zs, by rw [h1]; rfl, h2⟩
    · exact absurd rfl hk
noncomputable def kb2s (v : Value) (h : Tr HObj) (k : Value → KX) : KX :=
  match v with
  | .slice none 0 0 => k (.string ⟨⟨[]⟩⟩)
  | .slice (some ⟨b, o, _⟩) n _ => Bool.rec .bad (kcells b h fun cs _ => ktake n (kdrop o cs) fun l => kbyteVs l fun zs => kbyteRow (zs.map UInt8.ofNat) fun r => k (.string ⟨⟨r⟩⟩)) (Nat.ble 1 n)
  | _ => .bad
noncomputable def kB2S (x : Operand) : KOp := fun fr n h k => kev x fr fun v => kb2s v h fun v => k v n h
theorem foldl_bytes : ∀ (zs : List Nat) (s : ByteArray), (zs.map (fun z => (Int.ofNat z))).foldl (fun (r : ByteArray) (n : Int) => r.push (UInt8.ofNat n.toNat)) s = ⟨⟨s.data.toList ++ zs.map UInt8.ofNat⟩⟩
  | [], s => by obtain ⟨⟨l⟩⟩ := s; simp
  | z :: zs, s => by
    simp only [List.map_cons, List.foldl_cons]
    rw [foldl_bytes zs]
    obtain ⟨⟨l⟩⟩ := s
    simp [ByteArray.push]
theorem kB2S_ok (sz : Nat) (o : Oper) (s d : TypeId) (x : Operand) (ho : o.op = .convert s d x) (hb : bytesStr P s d = true) : MeetOk P sz o (kB2S x) := by
  obtain ⟨e, hs, hd, he⟩ := bytesStr_spec hb
  intro fr n h k hk
  unfold kB2S at hk ⊢
  obtain ⟨v, h1, h2⟩ := kev_ok (sz := sz) _ hk
  rw [h2] at hk ⊢
  unfold kb2s at hk ⊢
  split at hk
  · refine ⟨_, n, h, ?_, rfl⟩
    intro D B μ w a hR hf
    have r := hev_rel hf h1
    have e1 : a.eval x = .slice none 0 0 := by generalize a.eval x = z at r; cases r; rfl
    refine ⟨μ, w, _, Step.refl hR, .string _, .inl ?_⟩
    simp [execOp, ho, e1, run_convert_bytes_string w s d e _ _ _ hs he hd, Conv.bytesToString]
    rfl
  · rename_i b o' sp m c
    cases hm : Nat.ble 1 m with
    | false => rw [hm] at hk; exact absurd rfl hk
    | true =>
      rw [hm] at hk
      have hm1 := Nat.le_of_ble_eq_true hm
      simp only at hk ⊢
      obtain ⟨hp, cs, rw', h3, h4⟩ := kcells_ok (n := n) _ hk
      rw [h4] at hk ⊢
      obtain ⟨h5, h6⟩ := ktake_ok _ _ _ hk
      rw [h6] at hk ⊢
      rw [kdrop_eq] at hk h5 ⊢
      rw [List.length_drop] at h5
      obtain ⟨zs, h7, h8⟩ := kbyteVs_ok _ _ hk
      rw [h8, kbyteRow_eq]
      refine ⟨_, n, h, ?_, rfl⟩
      intro D B μ w a hR hf
      have r := hev_rel hf h1
      have hx : ∃ p c', μ b = some p ∧ a.eval x = .slice (some ⟨p.g, p.d + o', none⟩) m c' := by
        generalize a.eval x = z at r
        cases r with
        | slice _ _ _ _ p hp hl => exact ⟨p, _, hp, rfl⟩
        | grown _ _ _ _ _ _ p hp _ _ _ => exact ⟨p, _, hp, rfl⟩
        | hole => omega
        | void => omega
      obtain ⟨p, c', hp', hx⟩ := hx
      obtain ⟨vs', g1, g2, g3⟩ := hR.cellsAt h3 hp' o' m (by omega)
      rw [h7] at g1
      have g4 : vs' = zs.map (fun z => Value.int .u8 (.ofNat z)) := g1.flat1_eq (by rw [List.all_eq_true]; intro v hv; obtain ⟨z, _, rfl⟩ := List.mem_map.1 hv; rfl)
      have hload := run_loadCells_list (P := P) w ⟨p.g, p.d + o', none⟩ vs' g3
      rw [g2] at hload
      have hrun := run_bytesToString (P := P) w ⟨p.g, p.d + o', none⟩ m c' (zs.map (fun z => Int.ofNat z)) (by rw [hload, g4]; simp)
      refine ⟨μ, w, _, Step.refl hR, .string _, .inl ?_⟩
      simp only [execOp, ho, hx, Sem.run_bind, run_convert_bytes_string w s d e _ _ _ hs he hd, hrun, Result.andThen_ok, Sem.run_pure]
      rw [foldl_bytes]
      rfl
  · exact absurd rfl hk
end Go.HL
/-
  A way to run code on given data inside the kernel: operations on blocks whose type is known (what a strings.Builder is made of).
-/
namespace Go.HL
open Go.RowKit
set_option linter.unusedSimpArgs false
set_option linter.unusedVariables false
set_option maxRecDepth 100000
set_option maxHeartbeats 1000000

variable {P : Program}

/-- Types of which it is kept what type a new block is of. -/
def htyped : List TypeId := [84, 86, 5]
def typedT (t : TypeId) : Bool := htyped.any fun u => Nat.beq t u

/-- A new variable of a value, its type kept. -/
theorem new_typed {B : Nat} {μ : Mu} {H : HHeap} {w : World} (h : Rel B μ H w) (cs : List Value) (arr : Array Value) (t : TypeId) (hr : VRels μ cs arr.toList) (h1 : ∀ v ∈ cs, v.oneCell' = true) :
    ∃ μ', Step B μ H w μ' ((H.push (.cells cs true)).push (.tag t cs.length H.next)) (w.alloc (.cells arr t)) ∧ VRel μ' (.pointer (some ⟨H.next, 0, none⟩)) (.pointer (some ⟨w.heap.size, 0, none⟩)) := by
  have hl := hr.length
  have s1 := h.allocCells cs arr t (by rw [← hl, List.take_length]; exact hr) h1
  have s2 := s1.rel.pushTag (b := H.next) (p := ⟨w.heap.size, 0, arr.size⟩) (by simp [Mu.add]) rfl (heap_alloc_new w _) cs.length (fun _ => by simpa using hl)
  exact ⟨_, s1.trans s2, (VRel.ptr _ 0 ⟨w.heap.size, 0, arr.size⟩ (by simp [Mu.add])).mono s2.sub⟩
noncomputable def kNewT (t : TypeId) (cs : List Value) : KOp := fun fr n h k => forceNat cs.length fun m => kpush n h (.cells cs true) fun n1 h1 => kpush n1 h1 (.tag t m n) fun n2 h2 => k (.pointer (some ⟨n, 0, none⟩)) n2 h2
theorem kNewT_ok {t : TypeId} {cs : List Value} {fr : Tr Value} {n : Nat} {h : Tr HObj} {k : Value → Nat → Tr HObj → KX} (hk : kNewT t cs fr n h k ≠ .bad) :
    ∃ n' h', ((absH n h).push (.cells cs true)).push (.tag t cs.length n) = absH n' h' ∧ kNewT t cs fr n h k = k (.pointer (some ⟨n, 0, none⟩)) n' h' := by
  unfold kNewT at hk ⊢
  rw [forceNat_eq] at hk ⊢
  obtain ⟨n1, h1, e1, e2⟩ := kpush_ok hk
  rw [e2] at hk ⊢
  obtain ⟨n2, h2, e3, e4⟩ := kpush_ok hk
  exact ⟨n2, h2, by rw [e1, e3], e4⟩
noncomputable def kBoxT (t : TypeId) (x : Operand) : KOp := fun fr n h k => kev x fr fun v => Bool.rec .bad (klist v.cells.toList fun cs => kNewT t cs fr n h k) (allOne v.cells.toList)
theorem kBoxT_ok (sz : Nat) (o : Oper) (t : TypeId) (x : Operand) (ho : o.op = .box t x) : MeetOk P sz o (kBoxT t x) := by
  intro fr n h k hk
  unfold kBoxT at hk ⊢
  obtain ⟨v, h1, h2⟩ := kev_ok (sz := sz) _ hk
  rw [h2] at hk ⊢
  cases ha : allOne v.cells.toList with
  | false => rw [ha] at hk; exact absurd rfl hk
  | true =>
    rw [ha] at hk
    simp only [klist_eq] at hk ⊢
    obtain ⟨n', h', h3, h4⟩ := kNewT_ok hk
    refine ⟨_, n', h', ?_, h4⟩
    intro D B μ w a hR hf
    have hx := hev_rel hf h1
    obtain ⟨μ', s1, s2⟩ := new_typed hR v.cells.toList (a.eval x).cells t hx.cells (List.all_eq_true.1 ha)
    rw [← h3]
    exact ⟨μ', _, _, s1, s2, .inl (by simp [execOp, ho, Instr.box, newVar, newRow])⟩
noncomputable def kAllocT (P : Program) (t : TypeId) : KOp := match helem P t with | some e => kNewT t e.zero | none => kbadOp
theorem kAllocT_ok (sz : Nat) (o : Oper) (t : TypeId) (ho : o.op = .alloc t) : MeetOk P sz o (kAllocT P t) := by
  unfold kAllocT
  split
  · rename_i e he
    intro fr n h k hk
    obtain ⟨n', h', h3, h4⟩ := kNewT_ok hk
    refine ⟨_, n', h', ?_, h4⟩
    intro D B μ w a hR hf
    obtain ⟨i, z, hi, hz, hze, _, _, hfl, _⟩ := helem_spec he
    obtain ⟨μ', s1, s2⟩ := new_typed hR e.zero z.cells t (by rw [hze]; exact .of_flat1 hfl) (allFlat_one hfl)
    rw [← h3]
    refine ⟨μ', _, _, s1, s2, .inl ?_⟩
    have : z.cells = e.zero.toArray := by rw [← hze]
    simp [execOp, ho, Instr.alloc, zeroValue, typeInfo, hi, hz, newVar, newRow, this]
  · exact fun fr n h k hk => absurd rfl hk

/-- What is known of a block's type. -/
noncomputable def ktag (b : Nat) (h : Tr HObj) (k : TypeId → Nat → Nat → KX) : KX :=
  (tgB HObj b).on fun g => g h fun o => HObj.rec (fun _ _ => .bad) (fun _ => .bad) (fun _ _ => .bad) (fun e n c => k e n c) o
theorem ktag_ok {n : Nat} {b : Nat} {h : Tr HObj} (k : TypeId → Nat → Nat → KX) (hk : ktag b h k ≠ .bad) : ∃ e m c, (absH n h).get b = some (.tag e m c) ∧ ktag b h k = k e m c := by
  unfold ktag at hk ⊢
  rw [tgB_eq] at hk ⊢
  cases hp : placed b with
  | false => rw [hp] at hk; exact absurd rfl hk
  | true =>
    rw [hp] at hk
    have e : (absH n h).get b = h.walk (path b) := by
      show h.at b = _
      unfold Tr.at; rw [hp]
    rw [e]
    simp only at hk ⊢
    cases hw : h.walk (path b) with
    | none => rw [hw] at hk; exact absurd rfl hk
    | some o =>
      rw [hw] at hk
      cases o with
      | tag e m c => exact ⟨e, m, c, rfl, rfl⟩
      | cells _ _ => exact absurd rfl hk
      | map _ => exact absurd rfl hk
      | iter _ _ => exact absurd rfl hk

/-- A pointer turned into an unsafe one. -/
def toUns (P : Program) (s d : TypeId) : Bool :=
  match P.underlying s, P.underlying d with
  | some (.pointer t), some .unsafePointer => (match P.info? t with | some j => decide (j.size ≠ 0) | none => false)
  | _, _ => false
def fromUns (P : Program) (s d : TypeId) : Option TypeId :=
  match P.underlying s, P.underlying d with
  | some .unsafePointer, some (.pointer u) => if (P.info? u).isSome then some u else none
  | _, _ => none
noncomputable def kuns (ok : TypeId → Nat → Nat → Bool) (v : Value) (n : Nat) (h : Tr HObj) (k : Value → Nat → Tr HObj → KX) : KX :=
  match v with
  | .pointer (some ⟨b, o, none⟩) => ktag (Nat.succ b) h fun e m c => Bool.rec .bad (k v n h) (Nat.beq c b && (Nat.ble (Nat.succ o) m && ok e m o))
  | _ => .bad
theorem kuns_ok {ok : TypeId → Nat → Nat → Bool} {v : Value} {n : Nat} {h : Tr HObj} {k : Value → Nat → Tr HObj → KX} (hk : kuns ok v n h k ≠ .bad) :
    kuns ok v n h k = k v n h ∧ ∃ b o e m, v = .pointer (some ⟨b, o, none⟩) ∧ (absH n h).get (b + 1) = some (.tag e m b) ∧ o < m ∧ ok e m o = true := by
  unfold kuns at hk ⊢
  split at hk
  · rename_i b o
    obtain ⟨e, m, c, h1, h2⟩ := ktag_ok (n := n) _ hk
    rw [h2] at hk ⊢
    cases hc : (Nat.beq c b && (Nat.ble (Nat.succ o) m && ok e m o)) with
    | false => rw [hc] at hk; exact absurd rfl hk
    | true =>
      rw [Bool.and_eq_true, Bool.and_eq_true] at hc
      have := Nat.eq_of_beq_eq_true hc.1
      subst this
      exact ⟨rfl, _, o, e, m, rfl, h1, Nat.le_of_ble_eq_true hc.2.1, hc.2.2⟩
  · exact absurd rfl hk
theorem uns_place {B : Nat} {μ : Mu} {H : HHeap} {w : World} (h : Rel B μ H w) {b o e m : Nat} {v' : Value} (ht : H.get (b + 1) = some (.tag e m b)) (ho : o < m) (hv : VRel μ (.pointer (some ⟨b, o, none⟩)) v') :
    ∃ g, v' = .pointer (some ⟨g, o, none⟩) ∧ w.shape? g = some (e, m) := by
  obtain ⟨q, arr, fz, t1, t2, td, th, tn⟩ := h.tags _ e m _ ht
  cases hv with
  | ptr _ _ p hp =>
    have e9 : p = q := by rw [hp] at t2; exact Option.some.inj t2
    subst e9
    refine ⟨p.g, by rw [td, Nat.zero_add], ?_⟩
    unfold World.shape?
    rw [th]
    show some (e, arr.size) = _
    rw [tn (by omega)]
noncomputable def kToUns (x : Operand) : KOp := fun fr n h k => kev x fr fun v => kuns (fun _ _ _ => true) v n h k
theorem kToUns_ok (sz : Nat) (o : Oper) (s d : TypeId) (x : Operand) (ho : o.op = .convert s d x) (hc : toUns P s d = true) : MeetOk P sz o (kToUns x) := by
  intro fr n h k hk
  unfold kToUns at hk ⊢
  obtain ⟨v, h1, h2⟩ := kev_ok (sz := sz) _ hk
  rw [h2] at hk ⊢
  obtain ⟨h3, b, off, e, m, rfl, h4, h5, _⟩ := kuns_ok hk
  refine ⟨_, n, h, ?_, h3⟩
  intro D B μ w a hR hf
  have hx := hev_rel hf h1
  obtain ⟨g, hg, hsh⟩ := uns_place hR h4 h5 hx
  unfold toUns at hc
  split at hc
  · rename_i t hs hd
    split at hc
    · rename_i j hj
      have := Lib.run_to_unsafe (P := P) (w := w) (src := s) (dst := d) ⟨g, off, none⟩ hs hd hj (by simpa using hc) hsh h5
      exact ⟨μ, w, _, Step.refl hR, hx, .inl (by simp [execOp, ho, hg, this])⟩
    · cases hc
  · cases hc
noncomputable def kFromUns (P : Program) (u : TypeId) (x : Operand) : KOp := fun fr n h k => kev x fr fun v => kuns (fun e m o => liesAt P P.depth e (m / P.cellsOf e) o u 1) v n h k
theorem kFromUns_ok (sz : Nat) (o : Oper) (s d u : TypeId) (x : Operand) (ho : o.op = .convert s d x) (hc : fromUns P s d = some u) : MeetOk P sz o (kFromUns P u x) := by
  intro fr n h k hk
  unfold kFromUns at hk ⊢
  obtain ⟨v, h1, h2⟩ := kev_ok (sz := sz) _ hk
  rw [h2] at hk ⊢
  obtain ⟨h3, b, off, e, m, rfl, h4, h5, h6⟩ := kuns_ok hk
  refine ⟨_, n, h, ?_, h3⟩
  intro D B μ w a hR hf
  have hx := hev_rel hf h1
  obtain ⟨g, hg, hsh⟩ := uns_place hR h4 h5 hx
  unfold fromUns at hc
  split at hc
  · rename_i u' hs hd
    split at hc
    · cases hc
      rename_i hi
      obtain ⟨j, hj⟩ := Option.isSome_iff_exists.1 hi
      have := Lib.run_from_unsafe (P := P) (w := w) (src := s) (dst := d) ⟨g, off, none⟩ hs hd hj hsh h6
      exact ⟨μ, w, _, Step.refl hR, hx, .inl (by simp [execOp, ho, hg, this])⟩
    · cases hc
  · cases hc
/-- abi.NoEscape. -/
def noescName : String := "internal/abi.NoEscape"
theorem next_noesc : (Extern.allNextRows.lookup noescName).isNone = true := by kernel_rfl
theorem gen_noesc : (Extern.allGenericRows.lookup noescName).isNone = true := by kernel_rfl
theorem typed_noesc : (Extern.allTypedRows.lookup noescName).isNone = true := by kernel_rfl
theorem row_noesc : Extern.allRows.lookup noescName = some Extern.AbiNoEscape.same := by kernel_rfl
def isNoEsc (P : Program) (g : FuncId) : Bool :=
  match P.funcs[g]? with
  | some fn => fn.body.isNone && (fn.origin == "" && fn.name == noescName)
  | none => false
noncomputable def kNoEsc (x : Operand) : KOp := fun fr n h k => kev x fr fun v => k v n h
theorem kNoEsc_ok (sz : Nat) (o : Oper) (g : FuncId) (x : Operand) (ts : Array TypeId) (ho : o.op = .call ⟨.value (.func g), ⟨[x]⟩, ts⟩) (hg : isNoEsc P g = true) : MeetOk P sz o (kNoEsc x) := by
  intro fr n h k hk
  unfold kNoEsc at hk ⊢
  obtain ⟨v, h1, h2⟩ := kev_ok (sz := sz) _ hk
  rw [h2] at hk ⊢
  refine ⟨v, n, h, ?_, rfl⟩
  intro D B μ w a hR hf
  have hx := hev_rel hf h1
  unfold isNoEsc at hg
  split at hg
  · rename_i fn hfn
    rw [Bool.and_eq_true, Bool.and_eq_true] at hg
    obtain ⟨g1, g2, g3⟩ := hg
    have g2 : fn.origin = "" := by simpa using g2
    have g3 : fn.name = noescName := by simpa using g3
    have := ext_run hfn g1 (no_next g3 g2 next_noesc next0) (find_row g3 gen_noesc typed_noesc row_noesc) (by rw [g3]; rfl) #[a.eval x] w (a.eval x) (Lib.run_noEscape w _)
    have e1 : a.eval (.func g) = .func (.func g) #[] #[] := rfl
    exact ⟨μ, w, _, Step.refl hR, hx, .inl (by simp [execOp, ho, resolve, invoke, e1, Deferred.ofValue, this])⟩
  · cases hg

/-- Two pointers that are the same. -/
noncomputable def kPtrNe (P : Program) (t : TypeId) (x y : Operand) : KOp := fun fr n h k => kev x fr fun v => kev y fr fun u => kptr2 v u (k (.bool false) n h) (kBin P .neq t x y fr n h k)
where
  kptr2 (v u : Value) (yes no : KX) : KX :=
    match v, u with
    | .pointer (some ⟨b, o, none⟩), .pointer (some ⟨b', o', none⟩) => Bool.rec .bad yes (Nat.beq b b' && Nat.beq o o')
    | _, _ => no
def ptrPlain (P : Program) (t : TypeId) : Bool := match P.underlying t with | some (.pointer e) => (P.info? e).isSome | _ => false
theorem kPtrNe_ok (sz : Nat) (o : Oper) (t u : TypeId) (x y : Operand) (ho : o.op = .binOp .neq t x y u) (ht : ptrPlain P t = true) : MeetOk P sz o (kPtrNe P t x y) := by
  intro fr n h k hk
  unfold kPtrNe at hk ⊢
  obtain ⟨v, h1, h2⟩ := kev_ok (sz := sz) _ hk
  rw [h2] at hk ⊢
  obtain ⟨v2, h3, h4⟩ := kev_ok (sz := sz) _ hk
  rw [h4] at hk ⊢
  unfold kPtrNe.kptr2 at hk ⊢
  split at hk
  · rename_i b off b' off'
    cases hc : (Nat.beq b b' && Nat.beq off off') with
    | false => rw [hc] at hk; exact absurd rfl hk
    | true =>
      rw [Bool.and_eq_true] at hc
      have e1 := Nat.eq_of_beq_eq_true hc.1
      have e2 := Nat.eq_of_beq_eq_true hc.2
      subst e1; subst e2
      refine ⟨_, n, h, ?_, rfl⟩
      intro D B μ w a hR hf
      have r1 := hev_rel hf h1
      have r2 := hev_rel hf h3
      obtain ⟨ad, q1, q2⟩ : ∃ ad, a.eval x = .pointer (some ad) ∧ a.eval y = .pointer (some ad) := by
        generalize a.eval x = z1 at r1
        generalize a.eval y = z2 at r2
        cases r1 with
        | ptr _ _ p hp => cases r2 with
          | ptr _ _ q hq => rw [hp] at hq; cases hq; exact ⟨_, rfl, rfl⟩
      unfold ptrPlain at ht
      split at ht
      · rename_i e hu
        obtain ⟨j, hj⟩ := Option.isSome_iff_exists.1 ht
        have hrun := Lib.run_neq_ptr_same (P := P) w ad hu hj
        have hg := eqGuard_ok (P := P) .neq t x y (.pointer (some ad)) (.pointer (some ad)) (.inl (by simp)) w
        exact ⟨μ, w, _, Step.refl hR, .bool _, .inl (by simp [execOp, ho, q1, q2, hg, hrun])⟩
      · cases ht
  · obtain ⟨v3, n', h', h5, h6⟩ := kBin_ok (P := P) sz .neq t u x y fr n h k hk
    exact ⟨v3, n', h', HMeet.of_hop (by rw [ho]; exact h5), h6⟩

/-- Something held against nil, and nil itself. -/
noncomputable def kIfNil (P : Program) (eq : Bool) (t : TypeId) (x : Operand) (old : KOp) : KOp := fun fr n h k => kev x fr fun v => kifn v (k (.bool eq) n h) (old fr n h k)
where
  kifn (v : Value) (yes no : KX) : KX := match v with | .nilIface => yes | _ => no
def nilOp (op : BinOp) : Option Bool := match op with | .eql => some true | .neq => some false | _ => none
theorem equal_nilIf {t : TypeId} {ms : Array (String × TypeId)} {w : World} (ht : P.underlying t = some (.interface ms)) : (Op.equal t .nilIface .nilIface).run P w = .ok true w :=
  equal_of fun d => by simp [Op.equalIn, run_underlying ht]
theorem kIfNil_ok (sz : Nat) (o : Oper) (op : BinOp) (t u : TypeId) (x : Operand) (eq : Bool) (ho : o.op = .binOp op t x (.const .nilIface) u) (he : nilOp op = some eq) (ht : kindOf P t = 5) : MeetOk P sz o (kIfNil P eq t x (kBin P op t x (.const .nilIface))) := by
  intro fr n h k hk
  unfold kIfNil at hk ⊢
  obtain ⟨v, h1, h2⟩ := kev_ok (sz := sz) _ hk
  rw [h2] at hk ⊢
  unfold kIfNil.kifn at hk ⊢
  split at hk
  · refine ⟨_, n, h, ?_, rfl⟩
    intro D B μ w a hR hf
    have hx := hev_rel hf h1
    have ex : a.eval x = .nilIface := by generalize a.eval x = z at hx; cases hx; rfl
    obtain ⟨ms, hms⟩ := kind_interface ht
    have hq := equal_nilIf (w := w) hms
    have hc : a.eval (.const .nilIface) = .nilIface := rfl
    refine ⟨μ, w, _, Step.refl hR, .bool _, .inl ?_⟩
    cases op <;> simp [nilOp] at he
    · subst he
      simp [execOp, ho, ex, hc, eqGuard, binOp, hq]
    · subst he
      simp [execOp, ho, ex, hc, eqGuard, binOp, hq]
  · obtain ⟨v3, n', h', h5, h6⟩ := kBin_ok (P := P) sz op t u x (.const .nilIface) fr n h k hk
    exact ⟨v3, n', h', HMeet.of_hop (by rw [ho]; exact h5), h6⟩

/-- append to bytes whose type is known. -/
theorem grown_typed {B : Nat} {μ : Mu} {H H1 : HHeap} {w : World} (hR : Rel B μ H1 w) (hn : H1.next = H.next) {u : TypeId} {e : Elem} (he : helem P u = some e) {vs vs' olds olds' : List Value} {n len' cap' : Nat} (hv : VRels μ vs vs') (hv1 : ∀ v ∈ vs, v.oneCell' = true) (hvl : vs.length = n * e.size)
    (ho : VRels μ olds olds') (ho1 : ∀ v ∈ olds, v.oneCell' = true) (hol : olds.length = len' * e.size) :
    ∃ μ', Step B μ H1 w μ' ((H1.push (.cells (olds ++ vs) true)).push (.tag u 0 H.next)) (w.drew.alloc (.cells (olds'.toArray ++ vs'.toArray ++ Builtin.zeroCells e.zero.toArray (grownCap w (len' + n) cap' u - (len' + n))) u)) ∧
      VRel μ' (.slice (some ⟨H.next, 0, some (2 * e.size)⟩) (len' + n) (len' + n)) (.slice (some ⟨w.heap.size, 0, none⟩) (len' + n) (grownCap w (len' + n) cap' u)) := by
  obtain ⟨i, z, hi, hz, hze, hsz, hby, hf, hzl⟩ := helem_spec he
  have r2 := hR.drew.allocCells (olds ++ vs) (olds'.toArray ++ vs'.toArray ++ Builtin.zeroCells e.zero.toArray (grownCap w (len' + n) cap' u - (len' + n))) u
    (by
      have hle := (ho.append hv).length
      simp only [Array.toList_append]
      rw [← hle, List.take_left]
      exact ho.append hv)
    (fun v hv => (List.mem_append.1 hv).elim (ho1 v) (hv1 v))
  have s1 := (Step.drew hR).trans r2
  have s2 := s1.rel.pushTag (b := H1.next) (p := ⟨w.drew.heap.size, 0, (olds'.toArray ++ vs'.toArray ++ Builtin.zeroCells e.zero.toArray (grownCap w (len' + n) cap' u - (len' + n))).size⟩) (by simp [Mu.add]) rfl (heap_alloc_new w.drew _) 0 (fun h => absurd rfl h)
  rw [← hn]
  refine ⟨_, s1.trans s2, VRel.mono s2.sub ?_⟩
  have hge := grownCap_ge w (len' + n) cap' u
  refine .grown _ _ _ _ _ _ ⟨w.drew.heap.size, 0, (olds'.toArray ++ vs'.toArray ++ Builtin.zeroCells e.zero.toArray (grownCap w (len' + n) cap' u - (len' + n))).size⟩ (by simp [Mu.add]) (Nat.le_refl _) hge ?_
  have h1 := ho.length
  have h2 := hv.length
  simp only [Array.size_append, List.size_toArray, size_zeroCells]
  rw [h1, h2, hol, hvl, hzl, ← Nat.add_mul, ← Nat.add_mul]
  rw [show len' + n + (grownCap w (len' + n) cap' u - (len' + n)) = grownCap w (len' + n) cap' u by omega]
  omega
theorem sim_appendT0 {B : Nat} {μ : Mu} {H : HHeap} {w : World} (h : Rel B μ H w) {st xt ty u : TypeId} {e : Elem} {x x' : Value} {vs : List Value} {n : Nat} (hu : P.underlying st = some (.slice u)) (hxs : isStr P xt = true) (he : helem P u = some e)
    (hsrc : hsource H e.size x = some (vs, n)) (hx : VRel μ x x') (hn : n ≠ 0) (hb1 : n * e.bytes ≤ 1099511627776) (hb2 : n ≤ 1099511627776) :
    ∃ μ' w' v', (Builtin.append_ #[st, xt] ty #[.slice none 0 0, x']).run P w = .ok v' w' ∧ Step B μ H w μ' ((H.push (.cells vs true)).push (.tag u 0 H.next)) w' ∧ VRel μ' (.slice (some ⟨H.next, 0, some (2 * e.size)⟩) n n) v' := by
  obtain ⟨_, hvl, hv1, _⟩ := sim_source (P := P) h hsrc hx
  obtain ⟨vs', hv, hap⟩ := append_pre (ty := ty) h hu hxs he hsrc hx
  obtain ⟨μ', s1, s2⟩ := grown_typed (P := P) (H := H) (olds := []) (olds' := []) (len' := 0) (cap' := 0) h rfl he hv hv1 hvl .nil (by simp) (by simp)
  have hrun := (hap none 0 0).2 (by omega) (by simpa using hb1) (by simpa using hb2) [] (by simp [Builtin.firstCells])
  simp only [Nat.zero_add, List.nil_append] at hrun s1 s2
  exact ⟨μ', _, _, hrun, s1, s2⟩
theorem sim_appendT1 {B : Nat} {μ : Mu} {H : HHeap} {w : World} (h : Rel B μ H w) {st xt ty u : TypeId} {e : Elem} {x x' s' : Value} {vs cs : List Value} {n len cap b m : Nat} (hu : P.underlying st = some (.slice u)) (hxs : isStr P xt = true) (he : helem P u = some e)
    (hsrc : hsource H e.size x = some (vs, n)) (hx : VRel μ x x') (hn : n ≠ 0) (hb1 : (len + n) * e.bytes ≤ 1099511627776) (hb2 : len + n ≤ 1099511627776) (hb : H.get b = some (.cells cs true)) (ht : H.get (b + 1) = some (.tag u m b)) (hfit : len * e.size ≤ cs.length) (hcap : cap < len + n)
    (hs : VRel μ (.slice (some ⟨b, 0, some (2 * e.size)⟩) len cap) s') :
    ∃ μ' w' v', (Builtin.append_ #[st, xt] ty #[s', x']).run P w = .ok v' w' ∧ Step B μ H w μ' (((H.kill b).push (.cells (cs.take (len * e.size) ++ vs) true)).push (.tag u 0 H.next)) w' ∧ VRel μ' (.slice (some ⟨H.next, 0, some (2 * e.size)⟩) (len + n) (len + n)) v' := by
  obtain ⟨_, hvl, hv1, _⟩ := sim_source (P := P) h hsrc hx
  obtain ⟨vs', hv, hap⟩ := append_pre (ty := ty) h hu hxs he hsrc hx
  obtain ⟨q, arr, fz, t1, t2, td, th, _⟩ := h.tags _ u m _ ht
  obtain ⟨pb, hpb, hextb, hcb, hwb, hrb⟩ := h.cells b cs true hb
  have e8 : pb = q := by rw [hpb] at t2; exact Option.some.inj t2
  subst e8
  have hget : (b + 1) ≠ b := by omega
  generalize he2 : (.slice (some ⟨b, 0, some (2 * e.size)⟩) len cap : Value) = sv at hs
  cases hs <;> try (cases he2; done)
  · rename_i b' o' len' cap' cap2 e' p hp hlc hcc hx'
    have e0 : (b = b' ∧ 0 = o' ∧ 2 * e.size = 2 * e') ∧ len = len' ∧ cap = cap' := by simpa using he2
    obtain ⟨⟨e4, e5, e3⟩, e6, e7⟩ := e0
    have e3 : e.size = e' := by omega
    subst e3; subst e4; subst e5; subst e6; subst e7
    have e9 : pb = p := by rw [hpb] at hp; exact Option.some.inj hp
    subst e9
    by_cases hr : len + n ≤ cap2
    · have hmul : (len + n) * e.size ≤ cap2 * e.size := Nat.mul_le_mul_right _ hr
      rw [Nat.add_mul] at hmul
      have g1 := h.growIn hb hpb 0 (len * e.size) vs vs' hv hv1 (.inr (by omega)) (by rw [hvl]; omega)
      rw [List.drop_zero] at g1
      have hltb : b + 1 < H.next := h.bound _ _ t1
      obtain ⟨q2, arr2, fz2, k1, k2, k3, k4, _⟩ := g1.rel.tags (b + 1) u m b (by
        rw [HHeap.get_push, if_neg (by rw [HHeap.kill_next]; omega), HHeap.get_kill, if_neg hget]; exact ht)
      have hmb : (μ.add H.next ⟨pb.g, pb.d + 0, pb.ext - 0⟩) b = some pb := g1.sub _ _ hpb
      have e8 : pb = q2 := by rw [hmb] at k2; exact Option.some.inj k2
      subst e8
      have s2 := g1.rel.pushTag (b := H.next) (p := ⟨pb.g, pb.d + 0, pb.ext - 0⟩) (by simp [Mu.add]) (by simpa using td) k4 0 (fun h => absurd rfl h)
      refine ⟨_, _, _, ?_, g1.trans s2, VRel.mono s2.sub (.grown H.next 0 (len + n) (len + n) cap2 e.size ⟨pb.g, pb.d + 0, pb.ext - 0⟩ (by simp [Mu.add]) (Nat.le_refl _) hr (by simp; omega))⟩
      rw [(hap _ len cap2).1 hr]
      have hrunS := h.run_store P hb hpb (0 + len * e.size) vs vs' hv hv1 (by rw [hvl]; omega)
      simp only [add_cell]
      rw [Nat.add_assoc pb.d 0, hrunS]; rfl
    · obtain ⟨olds', g1, g2, g3⟩ := h.cellsAt hb hpb 0 (len * e.size) (by omega)
      rw [List.drop_zero] at g1
      have olds1 : ∀ v ∈ cs.take (len * e.size), v.oneCell' = true := fun v hv => by
        obtain ⟨i, hi⟩ := List.getElem?_of_mem hv
        rw [List.getElem?_take] at hi
        split at hi
        · exact (hcb _ v hi).1
        · cases hi
      obtain ⟨μ', s1, s2⟩ := grown_typed (P := P) (H := H) (len' := len) (cap' := cap2) (h.kill b) rfl he hv hv1 hvl g1 olds1 (by rw [List.length_take]; omega)
      have hrun := (hap (some ⟨pb.g, pb.d + 0, none⟩) len cap2).2 hr hb1 hb2 olds' (run_firstCells_some (P := P) w.drew e.size len _ len cap2 olds' g2 (by simpa using g3))
      exact ⟨μ', _, _, hrun, (Step.kill h b).trans s1, s2⟩
  · simp at he2; omega
noncomputable def kapT (P : Program) (st xt : TypeId) (s x : Operand) (u : TypeId) (e : Elem) : KOp := fun fr n h k =>
  kev s fr fun sv => kev x fr fun xv => ksource e.size xv h fun vs m => Bool.rec (kapT2 (kAppend P st xt s x fr n h k) u e sv vs m n h k) (kAppend P st xt s x fr n h k) (Nat.beq m 0)
where
  kapT3 (u : TypeId) (e : Elem) (r vs : List Value) (lm n : Nat) (h : Tr HObj) (k : Value → Nat → Tr HObj → KX) : KX :=
    kpush n h (.cells (r ++ vs) true) fun n1 h1 => kpush n1 h1 (.tag u 0 n) fun n2 h2 => k (.slice (some ⟨n, 0, some (Nat.mul 2 e.size)⟩) lm lm) n2 h2
  kapT2 (old : KX) (u : TypeId) (e : Elem) (sv : Value) (vs : List Value) (m n : Nat) (h : Tr HObj) (k : Value → Nat → Tr HObj → KX) : KX :=
    match sv with
    | .slice none 0 0 => Bool.rec .bad (Bool.rec .bad (kapT3 u e [] vs m n h k) (Nat.ble m 1099511627776)) (Nat.ble (Nat.mul m e.bytes) 1099511627776)
    | .slice (some ⟨b, 0, some q⟩) len cap => forceNat (Nat.add len m) fun lm => Bool.rec .bad (Bool.rec .bad (Bool.rec .bad (Bool.rec .bad
        (kcells b h fun cs rw => ktag (Nat.succ b) h fun t _ c => Bool.rec .bad (kpre 0 (Nat.mul len e.size) cs fun r => kkill b h fun h1 => kapT3 u e r vs lm n h1 k) (rw && (Nat.beq t u && (Nat.beq c b && Nat.ble (Nat.mul len e.size) cs.length))))
        (Nat.beq q (Nat.mul 2 e.size))) (Nat.ble (Nat.succ cap) lm)) (Nat.ble lm 1099511627776)) (Nat.ble (Nat.mul lm e.bytes) 1099511627776)
    | _ => old
theorem kapT3_ok {u : TypeId} {e : Elem} {r vs : List Value} {lm n : Nat} {h : Tr HObj} {k : Value → Nat → Tr HObj → KX} (hk : kapT.kapT3 u e r vs lm n h k ≠ .bad) :
    ∃ n' h', ((absH n h).push (.cells (r ++ vs) true)).push (.tag u 0 n) = absH n' h' ∧ kapT.kapT3 u e r vs lm n h k = k (.slice (some ⟨n, 0, some (2 * e.size)⟩) lm lm) n' h' := by
  unfold kapT.kapT3 at hk ⊢
  obtain ⟨n1, h1, e1, e2⟩ := kpush_ok hk
  rw [e2] at hk ⊢
  obtain ⟨n2, h2, e3, e4⟩ := kpush_ok hk
  exact ⟨n2, h2, by rw [e1, e3], e4⟩
theorem kapT_ok (sz : Nat) (o : Oper) (st xt : TypeId) (s x : Operand) (u : TypeId) (e : Elem) (ho : o.op = .call ⟨.builtin .append, ⟨[s, x]⟩, ⟨[st, xt]⟩⟩) (hu : P.underlying st = some (.slice u)) (hxs : isStr P xt = true) (he : helem P u = some e) (hpos : 0 < e.size) : MeetOk P sz o (kapT P st xt s x u e) := by
  intro fr n h k hk
  have old : kAppend P st xt s x fr n h k ≠ .bad → ∃ v n' h', HMeet P (absF sz fr) (absH n h) o v (absH n' h') ∧ kAppend P st xt s x fr n h k = k v n' h' := by
    intro hk
    obtain ⟨v, n', h', h1, h2⟩ := kAppend_ok (P := P) sz st xt s x fr n h k hk
    exact ⟨v, n', h', HMeet.of_hop (by rw [ho]; exact h1), h2⟩
  unfold kapT at hk ⊢
  obtain ⟨sv, h1, h2⟩ := kev_ok (sz := sz) _ hk
  rw [h2] at hk ⊢
  obtain ⟨xv, h3, h4⟩ := kev_ok (sz := sz) _ hk
  rw [h4] at hk ⊢
  obtain ⟨vs, m, h5, h6, h7⟩ := ksource_ok (n := n) hpos hk
  rw [h7] at hk ⊢
  cases hm : Nat.beq m 0 with
  | true => rw [hm] at hk; exact old hk
  | false =>
    rw [hm] at hk
    have hm0 : m ≠ 0 := fun e => by subst e; simp at hm
    have hk : kapT.kapT2 (kAppend P st xt s x fr n h k) u e sv vs m n h k ≠ .bad := hk
    show ∃ v n' h', _ ∧ kapT.kapT2 (kAppend P st xt s x fr n h k) u e sv vs m n h k = _
    unfold kapT.kapT2 at hk ⊢
    have hargs : ∀ a : Act, (⟨[s, x]⟩ : Array Operand).map a.eval = #[a.eval s, a.eval x] := fun a => by simp
    split at hk
    · cases c1 : Nat.ble (Nat.mul m e.bytes) 1099511627776 with
      | false => rw [c1] at hk; exact absurd rfl hk
      | true =>
        cases c2 : Nat.ble m 1099511627776 with
        | false => rw [c1, c2] at hk; exact absurd rfl hk
        | true =>
          rw [c1, c2] at hk
          obtain ⟨n', h', h8, h9⟩ := kapT3_ok hk
          refine ⟨_, n', h', ?_, h9⟩
          intro D B μ w a hR hf
          have rs := hev_rel hf h1
          have rx := hev_rel hf h3
          have e1 : a.eval s = .slice none 0 0 := by generalize a.eval s = z at rs; cases rs; rfl
          obtain ⟨μ', w', v', r1, r2, r3⟩ := sim_appendT0 (P := P) (ty := o.type) hR hu hxs he h5 rx hm0 (Nat.le_of_ble_eq_true c1) (Nat.le_of_ble_eq_true c2)
          rw [List.nil_append] at h8
          rw [← h8]
          exact ⟨μ', w', v', r2, r3, .inl (by simp [execOp, ho, resolve, invoke, builtin, e1, r1])⟩
    · rename_i b q len cap _
      rw [forceNat_eq] at hk ⊢
      cases c1 : Nat.ble (Nat.mul (Nat.add len m) e.bytes) 1099511627776 with
      | false => rw [c1] at hk; exact absurd rfl hk
      | true =>
      cases c2 : Nat.ble (Nat.add len m) 1099511627776 with
      | false => rw [c1, c2] at hk; exact absurd rfl hk
      | true =>
      cases c3 : Nat.ble (Nat.succ cap) (Nat.add len m) with
      | false => rw [c1, c2, c3] at hk; exact absurd rfl hk
      | true =>
      cases c4 : Nat.beq q (Nat.mul 2 e.size) with
      | false => rw [c1, c2, c3, c4] at hk; exact absurd rfl hk
      | true =>
        rw [c1, c2, c3, c4] at hk
        have hq := Nat.eq_of_beq_eq_true c4
        change kcells b h _ ≠ .bad at hk
        show ∃ v n' h', HMeet P (absF sz fr) (absH n h) o v (absH n' h') ∧ kcells b h _ = k v n' h'
        obtain ⟨hp, cs, rw', g1, g2⟩ := kcells_ok (n := n) _ hk
        rw [g2] at hk ⊢
        obtain ⟨t, tn, c, g3, g4⟩ := ktag_ok (n := n) _ hk
        rw [g4] at hk ⊢
        cases c5 : (rw' && (Nat.beq t u && (Nat.beq c b && Nat.ble (Nat.mul len e.size) cs.length))) with
        | false => rw [c5] at hk; exact absurd rfl hk
        | true =>
          rw [c5] at hk
          rw [Bool.and_eq_true, Bool.and_eq_true, Bool.and_eq_true] at c5
          obtain ⟨d1, d2, d3, d4⟩ := c5
          subst d1
          have d2 := Nat.eq_of_beq_eq_true d2
          have d3 := Nat.eq_of_beq_eq_true d3
          have d4 : len * e.size ≤ cs.length := Nat.le_of_ble_eq_true d4
          change kpre 0 _ cs _ ≠ .bad at hk
          show ∃ v n' h', HMeet P (absF sz fr) (absH n h) o v (absH n' h') ∧ kpre 0 _ cs _ = k v n' h'
          obtain ⟨g5, g6⟩ := kpre_ok _ _ _ _ hk
          rw [g6] at hk ⊢
          obtain ⟨h1', g7, g8⟩ := kkill_ok (n := n) hk
          rw [g8] at hk ⊢
          obtain ⟨n', h', h8, h9⟩ := kapT3_ok hk
          refine ⟨_, n', h', ?_, h9⟩
          clear hk h9 g8 g6 g4 g2 h7 h4 h2 old
          subst d2; subst d3; subst hq
          intro D B μ w a hR hf
          have rs := hev_rel hf h1
          have rx := hev_rel hf h3
          obtain ⟨μ', w', v', r1, r2, r3⟩ := sim_appendT1 (P := P) (ty := o.type) hR hu hxs he h5 rx hm0 (Nat.le_of_ble_eq_true c1) (Nat.le_of_ble_eq_true c2) g1 g3 d4 (Nat.le_of_ble_eq_true c3) rs
          rw [← h8, ← g7, List.drop_zero]
          exact ⟨μ', w', v', r2, r3, .inl (by simp [execOp, ho, resolve, invoke, builtin, r1])⟩
    · exact old hk

/-- A text turned into bytes. -/
theorem bytesWorld_alloc (w : World) (e : TypeId) (s : ByteArray) : Lib.bytesWorld w e s = w.drew.alloc (.cells (Lib.bytesCells w e s) e ((Lib.bytesCells w e s).size, (Lib.bytesCells w e s).size + 1)) := by
  have h1 : (Lib.bytesWorld w e s).heap = (w.drew.alloc (.cells (Lib.bytesCells w e s) e ((Lib.bytesCells w e s).size, (Lib.bytesCells w e s).size + 1))).heap := by
    apply Array.ext_getElem?
    intro i
    rcases Nat.lt_trichotomy i w.heap.size with hi | hi | hi
    · rw [Lib.bytesWorld_at_old w e s i hi, Below.heap_alloc _ _ _ (show i < w.drew.heap.size from hi)]; rfl
    · subst hi
      rw [Lib.bytesWorld_at_new]
      exact (heap_alloc_new w.drew _).symm
    · have e1 : (Lib.bytesWorld w e s).heap.size ≤ i := by rw [Lib.bytesWorld_size]; omega
      rw [Array.getElem?_eq_none e1, Array.getElem?_eq_none (by simp; exact hi)]
  unfold Lib.bytesWorld World.freeze at h1 ⊢
  rw [if_neg (by omega)] at h1 ⊢
  simp only [World.alloc] at h1 ⊢
  rw [h1]
theorem sim_s2b {B : Nat} {μ : Mu} {H : HHeap} {w : World} (h : Rel B μ H w) (e : TypeId) (s : ByteArray) :
    ∃ μ', Step B μ H w μ' (H.push (.cells (s.data.toList.map fun b => Value.int .u8 b.toNat) true)) (Lib.bytesWorld w e s) ∧ VRel μ' (.slice (some ⟨H.next, 0, some (2 * 1)⟩) s.size s.size) (.slice (some ⟨w.heap.size, 0, none⟩) s.size (grownCap w s.size 0 e)) := by
  have hge := grownCap_ge w s.size 0 e
  have hlen : (s.data.toList.map fun b => Value.int .u8 b.toNat).length = s.size := by rw [List.length_map, Array.length_toList, ByteArray.size_data]
  have hsz : (Lib.bytesCells w e s).size = grownCap w s.size 0 e := by
    unfold Lib.bytesCells
    simp only [Array.size_append, Array.size_map, ByteArray.size_data, Array.size_replicate]
    omega
  rw [bytesWorld_alloc]
  have st := h.drew.allocAny (.cells (s.data.toList.map fun b => Value.int .u8 b.toNat) true) (.cells (Lib.bytesCells w e s) e ((Lib.bytesCells w e s).size, (Lib.bytesCells w e s).size + 1)) (Lib.bytesCells w e s).size rfl
    (fun cs rw' hc => by
      cases hc
      refine ⟨by rw [hlen, hsz]; exact hge, fun i v hv => ?_, fun i hi => ⟨⟨(Lib.bytesCells w e s)[i]'hi, ?_⟩, ?_⟩⟩
      · have hi : i < s.data.toList.length := by
          have := (List.getElem?_eq_some_iff.1 hv).1
          rw [List.length_map] at this; exact this
        have hv' : v = .int .u8 ((s.data.toList[i]'hi).toNat) := by
          rw [List.getElem?_map, List.getElem?_eq_getElem hi] at hv
          exact (Option.some.inj hv).symm
        refine ⟨by rw [hv']; rfl, v, ?_, by rw [hv']; exact .int _ _⟩
        unfold World.cell?
        rw [show (w.drew.alloc (.cells (Lib.bytesCells w e s) e ((Lib.bytesCells w e s).size, (Lib.bytesCells w e s).size + 1))).heap[w.drew.heap.size]? = _ from heap_alloc_new w.drew _]
        simp only [Nat.zero_add]
        unfold Lib.bytesCells
        have hi' : i < s.data.size := by simpa using hi
        rw [Array.getElem?_append_left (by simpa using hi')]
        simp [hv']
        exact ⟨_, Array.getElem?_eq_getElem hi', rfl⟩
      · unfold World.cell?
        rw [show (w.drew.alloc (.cells (Lib.bytesCells w e s) e ((Lib.bytesCells w e s).size, (Lib.bytesCells w e s).size + 1))).heap[w.drew.heap.size]? = _ from heap_alloc_new w.drew _]
        simp [hi]
      · unfold World.frozen?
        rw [show (w.drew.alloc (.cells (Lib.bytesCells w e s) e ((Lib.bytesCells w e s).size, (Lib.bytesCells w e s).size + 1))).heap[w.drew.heap.size]? = _ from heap_alloc_new w.drew _]
        simp; omega)
    (fun es he => by cases he) (fun t i he => by cases he)
  refine ⟨_, (Step.drew h).trans st, ?_⟩
  exact .grown _ _ _ _ _ 1 ⟨w.drew.heap.size, 0, (Lib.bytesCells w e s).size⟩ (by show (Mu.add _ _ _) _ = _; simp [Mu.add]) (Nat.le_refl _) hge (by simp only [hsz]; omega)
def strBytes (P : Program) (s d : TypeId) : Option TypeId :=
  match P.underlying s, P.underlying d with
  | some .string, some (.slice e) => (match P.underlying e with | some (.int .u8) => some e | _ => none)
  | _, _ => none
noncomputable def kS2B (x : Operand) : KOp := fun fr n h k => kev x fr fun v => ks2b v n h k
where
  ks2b (v : Value) (n : Nat) (h : Tr HObj) (k : Value → Nat → Tr HObj → KX) : KX :=
    match v with
    | .string s => klist (s.data.toList.map fun b => Value.int .u8 b.toNat) fun cs => forceNat s.data.toList.length fun m => kpush n h (.cells cs true) fun n1 h1 => k (.slice (some ⟨n, 0, some 2⟩) m m) n1 h1
    | _ => .bad
theorem kS2B_ok (sz : Nat) (o : Oper) (s d e : TypeId) (x : Operand) (ho : o.op = .convert s d x) (hc : strBytes P s d = some e) : MeetOk P sz o (kS2B x) := by
  intro fr n h k hk
  unfold kS2B at hk ⊢
  obtain ⟨v, h1, h2⟩ := kev_ok (sz := sz) _ hk
  rw [h2] at hk ⊢
  unfold kS2B.ks2b at hk ⊢
  split at hk
  · rename_i t
    rw [klist_eq, forceNat_eq] at hk ⊢
    obtain ⟨n1, h1', e1, e2⟩ := kpush_ok hk
    refine ⟨_, n1, h1', ?_, e2⟩
    intro D B μ w a hR hf
    have hx := hev_rel hf h1
    have ex : a.eval x = .string t := by generalize a.eval x = z at hx; cases hx; rfl
    obtain ⟨μ', s1, s2⟩ := sim_s2b hR e t
    have hsz : t.data.toList.length = t.size := by rw [Array.length_toList, ByteArray.size_data]
    unfold strBytes at hc
    split at hc
    · rename_i e' hs hd
      split at hc
      · cases hc
        rename_i he
        have hrun := Lib.run_convert_string_bytes (P := P) w s d e t hs hd he
        rw [← e1, hsz]
        exact ⟨μ', _, _, s1, s2, .inl (by simp [execOp, ho, ex, hrun])⟩
      · cases hc
    · cases hc
  · exact absurd rfl hk

/-- What is done otherwise. -/
def apTyped (P : Program) (st xt : TypeId) : Option (TypeId × Elem) :=
  match P.underlying st with
  | some (.slice u) => if typedT u && isStr P xt then (match helem P u with | some e => if 0 < e.size then some (u, e) else none | none => none) else none
  | _ => none
theorem apTyped_spec {st xt u : TypeId} {e : Elem} (h : apTyped P st xt = some (u, e)) : P.underlying st = some (.slice u) ∧ isStr P xt = true ∧ helem P u = some e ∧ 0 < e.size := by
  unfold apTyped at h
  split at h
  · rename_i u' hu
    split at h
    · rename_i hc
      rw [Bool.and_eq_true] at hc
      split at h
      · rename_i e' he
        split at h <;> cases h
        exact ⟨hu, hc.2, he, ‹_›⟩
      · cases h
    · cases h
  · cases h
noncomputable def kmore (P : Program) (op : Op) : Option KOp :=
  match op with
  | .box t x => Bool.rec none (some (kBoxT t x)) (typedT t)
  | .alloc t => Bool.rec none (some (kAllocT P t)) (typedT t)
  | .convert s d x => Bool.rec (Option.rec (Option.rec none (fun _ => some (kS2B x)) (strBytes P s d)) (fun u => some (kFromUns P u x)) (fromUns P s d)) (some (kToUns x)) (toUns P s d)
  | .call ⟨.value (.func g), ⟨[x]⟩, _⟩ => Bool.rec none (some (kNoEsc x)) (isNoEsc P g)
  | .binOp .neq t (.tmp x) (.tmp y) _ => Bool.rec none (some (kPtrNe P t (.tmp x) (.tmp y))) (ptrPlain P t)
  | .binOp op t x (.const .nilIface) _ => Option.rec none (fun eq => Bool.rec none (some (kIfNil P eq t x (kBin P op t x (.const .nilIface)))) (Nat.beq (kindOf P t) 5)) (nilOp op)
  | .call ⟨.builtin .append, ⟨[s, x]⟩, ⟨[st, xt]⟩⟩ => Option.rec none (fun p => some (kapT P st xt s x p.1 p.2)) (apTyped P st xt)
  | _ => none
theorem kmore_ok (sz : Nat) (o : Oper) {g : KOp} (h : kmore P o.op = some g) : MeetOk P sz o g := by
  unfold kmore at h
  split at h
  · rename_i t x ho
    cases hc : typedT t with
    | false => rw [hc] at h; cases h
    | true => rw [hc] at h; cases h; exact kBoxT_ok sz o t x ho
  · rename_i t ho
    cases hc : typedT t with
    | false => rw [hc] at h; cases h
    | true => rw [hc] at h; cases h; exact kAllocT_ok sz o t ho
  · rename_i s d x ho
    cases hc : toUns P s d with
    | true => rw [hc] at h; cases h; exact kToUns_ok sz o s d x ho hc
    | false =>
      rw [hc] at h
      cases hf : fromUns P s d with
      | none =>
        rw [hf] at h
        cases hb : strBytes P s d with
        | none => rw [hb] at h; cases h
        | some e => rw [hb] at h; cases h; exact kS2B_ok sz o s d e x ho hb
      | some u => rw [hf] at h; cases h; exact kFromUns_ok sz o s d u x ho hf
  · rename_i g' x ts ho
    cases hc : isNoEsc P g' with
    | false => rw [hc] at h; cases h
    | true => rw [hc] at h; cases h; exact kNoEsc_ok sz o g' x ts ho hc
  · rename_i t x y u ho
    cases hc : ptrPlain P t with
    | false => rw [hc] at h; cases h
    | true => rw [hc] at h; cases h; exact kPtrNe_ok sz o t u _ _ ho hc
  · rename_i op t x u ho
    cases he : nilOp op with
    | none => rw [he] at h; cases h
    | some eq =>
      rw [he] at h
      cases hc : Nat.beq (kindOf P t) 5 with
      | false => simp only [hc] at h; cases h
      | true => simp only [hc] at h; cases h; exact kIfNil_ok sz o op t u x eq ho he (Nat.eq_of_beq_eq_true hc)
  · rename_i s x st xt ho
    cases hc : apTyped P st xt with
    | none => rw [hc] at h; cases h
    | some p =>
      obtain ⟨u, e⟩ := p
      rw [hc] at h
      cases h
      obtain ⟨h1, h2, h3, h4⟩ := apTyped_spec hc
      exact kapT_ok sz o st xt s x u e ho h1 h2 h3 h4
  · cases h
end Go.HL
