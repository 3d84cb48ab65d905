/-
  A way to run code on given data inside the kernel, part 6: rows of operations, calls.
-/
import Derived.Test.YtakjligkeplohaaGreatDoorKX
namespace Go.HL
open Go.RowKit
set_option linter.unusedSimpArgs false
set_option linter.unusedVariables false

variable {P : Program}

/-- A row of operations, each as the model does it. -/
def HRows (P : Program) (ops : Array Oper) : List Oper → HFrame → HHeap → (HFrame → HHeap → Prop) → Prop
  | [], fr, H, K => K fr H
  | o :: rest, fr, H, K =>
    (hwanted ops fr o = some false ∧ HRows P ops rest (hput fr o.dst undef) H K) ∨
    (hwanted ops fr o = some true ∧
      ((∃ v H', HMeet P fr H o v H' ∧ HRows P ops rest (hput fr o.dst v) H' K) ∨
       (∃ f args, hcallee P fr o.op = some (f, args) ∧ HCalls P f args H fun v H' => HRows P ops rest (hput fr o.dst v) H' K)))
theorem hrows_sound {ops : Array Oper} {Q : Exit → HFrame → HHeap → Prop} : ∀ (l : List Oper) (fr : HFrame) (H : HHeap), HRows P ops l fr H (Q .normal) → ∀ (B : Nat) (μ0 : Mu) (H0 : HHeap) (w0 : World) (μ : Mu) (w : World) (a : Act),
    Step B μ0 H0 w0 μ H w → FRel μ fr a → wpList P ops (Lift B μ0 H0 w0 Q) l a w
  | [], fr, H, h, B, μ0, H0, w0, μ, w, a, s, hf => ⟨fr, H, μ, h, hf, s⟩
  | o :: rest, fr, H, h, B, μ0, H0, w0, μ, w, a, s, hf => by
    unfold wpList
    rcases h with ⟨hw, h⟩ | ⟨hw, h⟩
    · rw [if_neg (by rw [wanted_of hf hw]; simp)]
      exact hrows_sound rest _ H h B μ0 H0 w0 μ w _ s (hf.put _ (.of_flat rfl))
    · rw [if_pos (wanted_of hf hw)]
      refine .inl ?_
      rcases h with ⟨v, H', h1, h2⟩ | ⟨f, args, h1, h2⟩
      · unfold Oper.wp
        obtain ⟨μ', w', v', s', hv, hr⟩ := h1 B μ w a s.rel hf
        rcases hr with hr | ⟨hr, hu⟩
        · rw [hr]; exact hrows_sound rest _ H' h2 B μ0 H0 w0 μ' w' _ (s.trans s') ((hf.mono s'.sub).put _ hv)
        · rw [hr]; subst hu; exact hrows_sound rest _ H' h2 B μ0 H0 w0 μ' w' _ (s.trans s') ((hf.mono s'.sub).put _ hv)
      · exact oper_wp s.rel hf (.inr ⟨f, args, _, h1, h2, fun v H' μ' w' v' r s' hv => hrows_sound rest _ H' r B μ0 H0 w0 μ' w' _ (s.trans s') ((hf.mono s'.sub).put _ hv)⟩)
theorem Hwp.rows {id : Nat} {ops : Array Oper} {Q : Exit → HFrame → HHeap → Prop} {fr : HFrame} {H : HHeap} (h : HRows P ops ops.toList fr H (Q .normal)) : Hwp P (.region id ops false) Q fr H :=
  fun B μ w a hR hf => wp_region_list (hrows_sound ops.toList fr H h B μ H w μ w a (Step.refl hR) hf)

/-- What calls come to. -/
abbrev KCall := FuncId → List Value → Nat → Tr HObj → KR
def CallOk (P : Program) (call : KCall) : Prop := ∀ f args n h v n' h', call f args n h = .ok v n' h' → HCalls P f args (absH n h) fun v' H' => v' = v ∧ H' = absH n' h'
abbrev KDyn := KCall → Nat → Tr Value → Nat → Tr HObj → KX

/-- A slot is written. -/
abbrev KPut := Value → Tr Value → (Tr Value → KX) → KX
def kputNone : KPut := fun _ fr k => k fr
def kputBad : KPut := fun _ _ _ => .bad
noncomputable def kputAt (p : List Bool) : KPut := fun v fr k => Tr.insK (some v) p fr k
noncomputable def kput (sz : Nat) (dst : Option Tmp) : KPut :=
  match dst with
  | none => kputNone
  | some d => Bool.rec kputBad (Bool.rec kputBad (kputAt (path d)) (Nat.ble (Nat.succ d) sz)) (placed d)
theorem kput_ok (sz : Nat) (dst : Option Tmp) (v : Value) (fr : Tr Value) (k : Tr Value → KX) (hk : kput sz dst v fr k ≠ .bad) : ∃ fr', hput (absF sz fr) dst v = absF sz fr' ∧ kput sz dst v fr k = k fr' := by
  cases dst with
  | none => exact ⟨fr, rfl, rfl⟩
  | some d =>
    have e : kput sz (some d) = Bool.rec kputBad (Bool.rec kputBad (kputAt (path d)) (Nat.ble (Nat.succ d) sz)) (placed d) := rfl
    rw [e] at hk ⊢
    cases hp : placed d with
    | false => rw [hp] at hk; exact absurd rfl hk
    | true =>
      cases hs : Nat.ble (Nat.succ d) sz with
      | false => rw [hp, hs] at hk; exact absurd rfl hk
      | true => exact ⟨_, absF_put hp (Nat.le_of_ble_eq_true hs) v, Tr.insK_eq _ _ _ _⟩

/-- A call of a function that is a value. -/
noncomputable def krK (r : KR) (k : Value → Nat → Tr HObj → KX) : KX := KR.rec .bad k r
noncomputable def kfunV (P : Program) (fv : Value) (k : FuncId → List Value → KX) : KX :=
  match fv with
  | .func (.func g) first cap => Bool.rec .bad (Bool.rec .bad (k g cap.toList) (isGo P g)) (Nat.beq first.size 0)
  | _ => .bad
noncomputable def kCallV (P : Program) (f : Operand) (args : List Operand) (call : KCall) : KOp := fun fr n h k =>
  kev f fr fun fv => kfunV P fv fun g cap => kevs args fr fun vs => krK (call g (vs ++ cap) n h) k

/-- An operation, done: it is a call, or none. -/
def OpOk (P : Program) (sz : Nat) (o : Oper) (g : KCall → KOp) : Prop := ∀ call fr n h k, CallOk P call → g call fr n h k ≠ .bad →
  ((∃ v n' h', HMeet P (absF sz fr) (absH n h) o v (absH n' h') ∧ g call fr n h k = k v n' h') ∨
   (∃ f args v n' h', hcallee P (absF sz fr) o.op = some (f, args) ∧ HCalls P f args (absH n h) (fun v' H' => v' = v ∧ H' = absH n' h') ∧ g call fr n h k = k v n' h'))
theorem kCallV_ok (sz : Nat) (f : Operand) (args : Array Operand) (ts : Array TypeId) (call : KCall) (fr : Tr Value) (n : Nat) (h : Tr HObj) (k : Value → Nat → Tr HObj → KX) (hc : CallOk P call) (hk : kCallV P f args.toList call fr n h k ≠ .bad) :
    ∃ g vs v n' h', hcallee P (absF sz fr) (.call ⟨.value f, args, ts⟩) = some (g, vs) ∧ HCalls P g vs (absH n h) (fun v' H' => v' = v ∧ H' = absH n' h') ∧ kCallV P f args.toList call fr n h k = k v n' h' := by
  unfold kCallV at hk ⊢
  obtain ⟨fv, h1, h2⟩ := kev_ok (sz := sz) _ hk
  rw [h2] at hk ⊢
  unfold kfunV at hk ⊢
  split at hk
  · rename_i g first cap
    cases h3 : Nat.beq first.size 0 with
    | false => rw [h3] at hk; exact absurd rfl hk
    | true =>
      cases h4 : isGo P g with
      | false => rw [h3, h4] at hk; exact absurd rfl hk
      | true =>
        rw [h3, h4] at hk
        simp only at hk ⊢
        obtain ⟨vs, h5, h6⟩ := kevs_ok (sz := sz) _ _ hk
        rw [h6] at hk ⊢
        cases hr : call g (vs ++ cap.toList) n h with
        | bad => rw [hr] at hk; exact absurd rfl hk
        | ok v n' h' =>
          refine ⟨g, vs ++ cap.toList, v, n', h', ?_, hc _ _ _ _ _ _ _ hr, rfl⟩
          simp only [hcallee, h1, h5]
          rw [if_pos ⟨Nat.eq_of_beq_eq_true h3, h4⟩]
  · exact absurd rfl hk
noncomputable def kdo (P : Program) (op : Op) : KCall → KOp :=
  match op with
  | .call ⟨.value f, args, _⟩ => kCallV P f args.toList
  | op => fun _ => kdisp P op
theorem kdo_ok (sz : Nat) (o : Oper) : OpOk P sz o (kdo P o.op) := by
  intro call fr n h k hc hk
  generalize hg : kdo P o.op = g at hk ⊢
  unfold kdo at hg
  split at hg
  · rename_i op f args ts ho
    subst hg
    obtain ⟨g, vs, v, n', h', h1, h2, h3⟩ := kCallV_ok sz f args ts call fr n h k hc hk
    exact .inr ⟨g, vs, v, n', h', by rw [ho]; exact h1, h2, h3⟩
  · subst hg
    obtain ⟨v, n', h', h1, h2⟩ := kdisp_ok sz o.op fr n h k hk
    exact .inl ⟨v, n', h', HMeet.of_hop h1, h2⟩

/-- The same, with what the high level has no word for. -/
noncomputable def kdoX (P : Program) (op : Op) : KCall → KOp :=
  match op with
  | .call ⟨.builtin .cap, ⟨[x]⟩, ⟨[t]⟩⟩ => fun _ => kCap P t x
  | .call ⟨.builtin .append, ⟨[s, x]⟩, ⟨[st, xt]⟩⟩ => Bool.rec (motive := fun _ => KCall → KOp) (kdo P (.call ⟨.builtin .append, ⟨[s, x]⟩, ⟨[st, xt]⟩⟩)) (fun _ => kAppMake P st xt s x) (apElem P st xt).isSome
  | .call ⟨.value (.func g), args, ts⟩ => Nat.rec (motive := fun _ => KCall → KOp) (kdo P (.call ⟨.value (.func g), args, ts⟩)) (fun m _ _ => kExt (Nat.succ m) args.toList) (extKind P g)
  | op => kdo P op
theorem kdoX_ok (sz : Nat) (o : Oper) : OpOk P sz o (kdoX P o.op) := by
  generalize hg : kdoX P o.op = g
  unfold kdoX at hg
  split at hg
  · rename_i x t ho
    subst hg
    intro call fr n h k hc hk
    obtain ⟨v, n', h', h1, h2⟩ := kCap_ok sz o t x ho fr n h k hk
    exact .inl ⟨v, n', h', h1, h2⟩
  · rename_i s x st xt ho
    cases he : (apElem P st xt).isSome with
    | false =>
      rw [he] at hg
      subst hg
      have := kdo_ok (P := P) sz o
      rw [ho] at this
      exact this
    | true =>
      rw [he] at hg
      subst hg
      intro call fr n h k hc hk
      obtain ⟨v, n', h', h1, h2⟩ := kAppMake_ok sz o st xt s x ho fr n h k hk
      exact .inl ⟨v, n', h', h1, h2⟩
  · rename_i g' args ts ho
    cases he : extKind P g' with
    | zero =>
      rw [he] at hg
      subst hg
      have := kdo_ok (P := P) sz o
      rw [ho] at this
      exact this
    | succ m =>
      rw [he] at hg
      subst hg
      intro call fr n h k hc hk
      have := kExt_ok (P := P) sz o g' args ts ho
      rw [he] at this
      obtain ⟨v, n', h', h1, h2⟩ := this fr n h k hk
      exact .inl ⟨v, n', h', h1, h2⟩
  · subst hg; exact kdo_ok sz o
/-- One operation of a row, and what comes then. -/
noncomputable def kplain (g : KCall → KOp) (put : KPut) (rest : KDyn) : KDyn := fun call f fr n h => g call fr n h fun v n h => put v fr fun fr => rest call f fr n h
noncomputable def kwant (want : Bool) (b : Value) (yes no : KX) : KX :=
  match b with
  | .bool b => Bool.rec (Bool.rec yes no want) (Bool.rec no yes want) b
  | .tuple _ => no
  | _ => .bad
noncomputable def kguarded (slot : Tr Value → (Value → KX) → KX) (want : Bool) (g : KCall → KOp) (put : KPut) (rest : KDyn) : KDyn := fun call f fr n h =>
  slot fr fun b => kwant want b (g call fr n h fun v n h => put v fr fun fr => rest call f fr n h) (put undef fr fun fr => rest call f fr n h)
noncomputable def kguardSlot (d : Option Tmp) : Tr Value → (Value → KX) → KX :=
  match d with
  | some d => kev (.tmp d)
  | none => kbad2
noncomputable def kone (P : Program) (sz : Nat) (ops : Array Oper) (o : Oper) (rest : KDyn) : KDyn :=
  match o.guard with
  | none => kplain (kdoX P o.op) (kput sz o.dst) rest
  | some (j, want) => kguarded (kguardSlot ((ops[j]?).bind (·.dst))) want (kdoX P o.op) (kput sz o.dst) rest
def RowOk (P : Program) (sz : Nat) (ops : Array Oper) (l : List Oper) (g : KDyn) : Prop := ∀ call f fr n h e fr' n' h', CallOk P call → g call f fr n h = .ok e fr' n' h' →
  e = .normal ∧ HRows P ops l (absF sz fr) (absH n h) fun F H => F = absF sz fr' ∧ H = absH n' h'
theorem kplain_ok {sz : Nat} {ops : Array Oper} {o : Oper} {l : List Oper} {g : KCall → KOp} (hg : OpOk P sz o g) {rest : KDyn} (hr : RowOk P sz ops l rest) {call : KCall} {f : Nat} {fr : Tr Value} {n : Nat} {h : Tr HObj} {e : Exit} {fr' : Tr Value} {n' : Nat} {h' : Tr HObj}
    (hc : CallOk P call) (hw : hwanted ops (absF sz fr) o = some true) (hk : (g call fr n h fun v n h => kput sz o.dst v fr fun fr => rest call f fr n h) = .ok e fr' n' h') :
    e = .normal ∧ HRows P ops (o :: l) (absF sz fr) (absH n h) fun F H => F = absF sz fr' ∧ H = absH n' h' := by
  have hne : (g call fr n h fun v n h => kput sz o.dst v fr fun fr => rest call f fr n h) ≠ .bad := by rw [hk]; simp
  rcases hg call fr n h _ hc hne with ⟨v, n1, h1, h2, h3⟩ | ⟨fn, args, v, n1, h1, h2, h2', h3⟩
  · rw [h3] at hk
    obtain ⟨fr1, h4, h5⟩ := kput_ok sz o.dst v fr (fun fr => rest call f fr n1 h1) (by rw [hk]; simp)
    rw [h5] at hk
    obtain ⟨h6, h7⟩ := hr call f fr1 n1 h1 e fr' n' h' hc hk
    exact ⟨h6, .inr ⟨hw, .inl ⟨v, _, h2, by rw [h4]; exact h7⟩⟩⟩
  · rw [h3] at hk
    obtain ⟨fr1, h4, h5⟩ := kput_ok sz o.dst v fr (fun fr => rest call f fr n1 h1) (by rw [hk]; simp)
    rw [h5] at hk
    obtain ⟨h6, h7⟩ := hr call f fr1 n1 h1 e fr' n' h' hc hk
    refine ⟨h6, .inr ⟨hw, .inr ⟨fn, args, h2, h2'.mono ?_⟩⟩⟩
    rintro v' H' ⟨rfl, rfl⟩
    rw [h4]; exact h7
theorem kskip_ok {sz : Nat} {ops : Array Oper} {o : Oper} {l : List Oper} {rest : KDyn} (hr : RowOk P sz ops l rest) {call : KCall} {f : Nat} {fr : Tr Value} {n : Nat} {h : Tr HObj} {e : Exit} {fr' : Tr Value} {n' : Nat} {h' : Tr HObj}
    (hc : CallOk P call) (hw : hwanted ops (absF sz fr) o = some false) (hk : (kput sz o.dst undef fr fun fr => rest call f fr n h) = .ok e fr' n' h') :
    e = .normal ∧ HRows P ops (o :: l) (absF sz fr) (absH n h) fun F H => F = absF sz fr' ∧ H = absH n' h' := by
  obtain ⟨fr1, h4, h5⟩ := kput_ok sz o.dst undef fr (fun fr => rest call f fr n h) (by rw [hk]; simp)
  rw [h5] at hk
  obtain ⟨h6, h7⟩ := hr call f fr1 n h e fr' n' h' hc hk
  exact ⟨h6, .inl ⟨hw, by rw [h4]; exact h7⟩⟩
/-- A guard: what it tells. -/
theorem kguard_ok {sz : Nat} {ops : Array Oper} {o : Oper} {j : Nat} {want : Bool} (hgd : o.guard = some (j, want)) {fr : Tr Value} {yes no : KX} (hk : (kguardSlot ((ops[j]?).bind (·.dst)) fr fun b => kwant want b yes no) ≠ .bad) :
    (hwanted ops (absF sz fr) o = some true ∧ (kguardSlot ((ops[j]?).bind (·.dst)) fr fun b => kwant want b yes no) = yes) ∨ (hwanted ops (absF sz fr) o = some false ∧ (kguardSlot ((ops[j]?).bind (·.dst)) fr fun b => kwant want b yes no) = no) := by
  unfold hwanted
  rw [hgd]
  simp only
  cases hd : (ops[j]?).bind (·.dst) with
  | none => rw [hd] at hk; exact absurd rfl hk
  | some d =>
    rw [hd] at hk
    have hk : (kev (.tmp d) fr fun b => kwant want b yes no) ≠ .bad := hk
    obtain ⟨b, h1, h2⟩ := kev_ok (sz := sz) _ hk
    have h1 : (absF sz fr).get d = some b := h1
    rw [show (kguardSlot (some d) fr fun b => kwant want b yes no) = (kev (.tmp d) fr fun b => kwant want b yes no) from rfl, h2]
    rw [h2] at hk
    simp only [Option.bind_some, h1]
    clear h1 h2
    unfold kwant at hk ⊢
    split at hk
    · rename_i _ b
      cases b <;> cases want
      · exact .inl ⟨rfl, rfl⟩
      · exact .inr ⟨rfl, rfl⟩
      · exact .inr ⟨rfl, rfl⟩
      · exact .inl ⟨rfl, rfl⟩
    · exact .inr ⟨rfl, rfl⟩
    · exact absurd rfl hk
theorem kone_ok {sz : Nat} {ops : Array Oper} {o : Oper} {l : List Oper} {rest : KDyn} (hr : RowOk P sz ops l rest) : RowOk P sz ops (o :: l) (kone P sz ops o rest) := by
  intro call f fr n h e fr' n' h' hc hk
  generalize hg : kone P sz ops o rest = g at hk
  unfold kone at hg
  split at hg
  · rename_i hgd
    subst hg
    exact kplain_ok (kdoX_ok sz o) hr hc (by unfold hwanted; rw [hgd]) hk
  · rename_i j want hgd
    subst hg
    unfold kguarded at hk
    rcases kguard_ok (sz := sz) hgd (by rw [hk]; simp) with ⟨h1, h2⟩ | ⟨h1, h2⟩
    · rw [h2] at hk
      exact kplain_ok (kdoX_ok sz o) hr hc h1 hk
    · rw [h2] at hk
      exact kskip_ok hr hc h1 hk
noncomputable def kops (P : Program) (sz : Nat) (ops : Array Oper) (l : List Oper) : KDyn :=
  List.rec (motive := fun _ => KDyn) (fun _ _ fr n h => .ok .normal fr n h) (fun o _ ih => kone P sz ops o ih) l
theorem kops_ok (sz : Nat) (ops : Array Oper) : ∀ (l : List Oper), RowOk P sz ops l (kops P sz ops l)
  | [] => by
    intro call f fr n h e fr' n' h' hc hk
    cases hk
    exact ⟨rfl, rfl, rfl⟩
  | o :: l => kone_ok (kops_ok sz ops l)
end Go.HL
