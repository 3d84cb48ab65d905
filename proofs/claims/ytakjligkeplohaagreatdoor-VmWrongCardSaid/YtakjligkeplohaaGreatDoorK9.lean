/-
  A way to run code on given data inside the kernel, part 9: rows whose order is drawn, walked; code; calls.
-/
import Derived.Test.YtakjligkeplohaaGreatDoorK8
namespace Go.HL
open Go.RowKit
set_option linter.unusedSimpArgs false
set_option linter.unusedVariables false

variable {P : Program}

theorem hcallee_none {fr : HFrame} {op : Op} (h : ∀ f args ts, op ≠ .call ⟨.value f, args, ts⟩) : hcallee P fr op = none := by
  unfold hcallee
  split
  · exact absurd rfl (h _ _ _)
  · rfl
/-- What an operation comes to, with the high level's own word for it. -/
theorem kdo_okH (sz : Nat) (op : Op) (call : KCall) (fr : Tr Value) (n : Nat) (h : Tr HObj) (k : Value → Nat → Tr HObj → KX) (hc : CallOk P call) (hk : kdo P op call fr n h k ≠ .bad) :
    (∃ v n' h', hcallee P (absF sz fr) op = none ∧ hop P (absF sz fr) (absH n h) op = some (v, absH n' h') ∧ kdo P op call fr n h k = k v n' h') ∨
    (∃ f args v n' h', hcallee P (absF sz fr) op = some (f, args) ∧ HCalls P f args (absH n h) (fun v' H' => v' = v ∧ H' = absH n' h') ∧ kdo P op call fr n h k = k v n' h') := by
  generalize hg : kdo P op = g at hk ⊢
  unfold kdo at hg
  split at hg
  · rename_i f args ts
    subst hg
    exact .inr (kCallV_ok sz f args ts call fr n h k hc hk)
  · rename_i hne
    subst hg
    obtain ⟨v, n', h', h1, h2⟩ := kdisp_ok sz op fr n h k hk
    exact .inl ⟨v, n', h', hcallee_none (fun f args ts e => hne f args ts e), h1, h2⟩

/-- What was read, and may be read later. -/
structure KLate where
  idx : Nat
  o : Oper
  fr : Tr Value
  v : Value
noncomputable def absL (sz : Nat) (l : KLate) : Late := ⟨l.idx, l.o, absF sz l.fr, l.v⟩
noncomputable def klate1 (P : Program) (l : KLate) (n : Nat) (h : Tr HObj) (k : KX) : KX :=
  Bool.rec .bad (kdisp P l.o.op l.fr n h fun v _ _ => Bool.rec .bad k (eqV v l.v)) (quiet l.o.op)
noncomputable def klate (P : Program) (ms : List Nat) (i : Nat) (n : Nat) (h : Tr HObj) (l : List KLate) (k : KX) : KX :=
  List.rec (motive := fun _ => KX) k (fun x _ ih => Bool.rec (klate1 P x n h ih) ih (anc ms x.idx i)) l
theorem klate1_ok {sz : Nat} {l : KLate} {n : Nat} {h : Tr HObj} {k : KX} (hk : klate1 P l n h k ≠ .bad) : hop P (absF sz l.fr) (absH n h) l.o.op = some (l.v, absH n h) ∧ klate1 P l n h k = k := by
  unfold klate1 at hk ⊢
  cases hq : quiet l.o.op with
  | false => rw [hq] at hk; exact absurd rfl hk
  | true =>
    rw [hq] at hk
    simp only at hk ⊢
    obtain ⟨v, n', h', h1, h2⟩ := kdisp_ok sz l.o.op l.fr n h _ hk
    rw [h2] at hk ⊢
    cases he : eqV v l.v with
    | false => rw [he] at hk; exact absurd rfl hk
    | true =>
      have := eqV_eq he
      subst this
      exact ⟨by rw [h1, quiet_same hq h1], rfl⟩
theorem klate_ok {sz : Nat} {ms : List Nat} {i n : Nat} {h : Tr HObj} {k : KX} : ∀ {l : List KLate}, klate P ms i n h l k ≠ .bad → LateOk P ms i (absH n h) (l.map (absL sz)) ∧ klate P ms i n h l k = k
  | [], _ => ⟨trivial, rfl⟩
  | x :: l, hk => by
    have e : klate P ms i n h (x :: l) k = Bool.rec (klate1 P x n h (klate P ms i n h l k)) (klate P ms i n h l k) (anc ms x.idx i) := rfl
    rw [e] at hk ⊢
    cases ha : anc ms x.idx i with
    | true =>
      rw [ha] at hk
      obtain ⟨h1, h2⟩ := klate_ok (sz := sz) hk
      exact ⟨⟨.inl ha, h1⟩, h2⟩
    | false =>
      rw [ha] at hk
      have hk : klate1 P x n h (klate P ms i n h l k) ≠ .bad := hk
      obtain ⟨h3, h4⟩ := klate1_ok (sz := sz) hk
      rw [h4] at hk
      obtain ⟨h1, h2⟩ := klate_ok (sz := sz) hk
      exact ⟨⟨.inr h3, h1⟩, h4.trans h2⟩

abbrev KDraw := Nat → List KLate → KDyn
noncomputable def kdQ1 (P : Program) (sz : Nat) (i : Nat) (o : Oper) (g : KOp) (put : KPut) (next : KDraw) : KDraw := fun n0 late call f fr n h =>
  g fr n h fun v _ _ => put v fr fun fr' => next n0 (Bool.rec late (⟨i, o, fr, v⟩ :: late) (reads o.op)) call f fr' n h
noncomputable def kdSkip (put : KPut) (next : KDraw) : KDraw := fun n0 late call f fr n h => put undef fr fun fr => next n0 late call f fr n h
noncomputable def kdE1 (P : Program) (sz : Nat) (ms : List Nat) (i : Nat) (g : KCall → KOp) (put : KPut) (next : KDraw) : KDraw := fun n0 late call f fr n h =>
  g call fr n h fun v n' h' => klate P ms i n' h' late (put v fr fun fr' => next n0 late call f fr' n' h')
noncomputable def kdGuard (slot : Tr Value → (Value → KX) → KX) (want : Bool) (yes no : KDraw) : KDraw := fun n0 late call f fr n h =>
  slot fr fun b => kwant want b (yes n0 late call f fr n h) (no n0 late call f fr n h)
def kdBad : KDraw := fun _ _ _ _ _ _ _ => .bad
noncomputable def kdG (ops : Array Oper) (o : Oper) (yes no : KDraw) : KDraw :=
  match o.guard with
  | none => yes
  | some (j, want) => kdGuard (kguardSlot ((ops[j]?).bind (·.dst))) want yes no
noncomputable def kdQ (P : Program) (sz : Nat) (ops : Array Oper) (i : Nat) (next : KDraw) : KDraw :=
  match ops[i]? with
  | some o => kdG ops o (kdQ1 P sz i o (kdisp P o.op) (kput sz o.dst) next) (kdSkip (kput sz o.dst) next)
  | none => kdBad
noncomputable def kdE (P : Program) (sz : Nat) (ops : Array Oper) (ms : List Nat) (i : Nat) (next : KDraw) : KDraw :=
  match ops[i]? with
  | some o => kdG ops o (kdE1 P sz ms i (kdo P o.op) (kput sz o.dst) next) (kdSkip (kput sz o.dst) next)
  | none => kdBad
noncomputable def kdMeet (a b : KDraw) : KDraw := fun n0 late call f fr n h => kmeet n0 (a n0 late call f fr n h) (b n0 late call f fr n h)
noncomputable def kdAlt (other : WT) (a b : KDraw) : KDraw := match other with | .stop => a | _ => kdMeet a b
noncomputable def kd (P : Program) (sz : Nat) (ops : Array Oper) (ms : List Nat) (t : WT) : KDraw :=
  WT.rec (motive := fun _ => KDraw) (fun _ _ _ _ fr n h => .ok .normal fr n h) (fun i _ ih => kdQ P sz ops i ih) (fun i _ other ih ih2 => kdAlt other (kdE P sz ops ms i ih) ih2) kdBad t

theorem HDraw.mono {ops : Array Oper} {ms : List Nat} {K K' : HFrame → HHeap → Prop} (hK : ∀ F H, K F H → K' F H) : ∀ (t : WT) (late : List Late) (fr : HFrame) (H : HHeap), HDraw P ops ms K t late fr H → HDraw P ops ms K' t late fr H := by
  intro t
  induction t with
  | done => exact fun late fr H h => hK _ _ h
  | stop => exact fun late fr H h => trivial
  | op i t ih =>
    intro late fr H h
    simp only [HDraw, HStepQ] at h ⊢
    split at h
    · exact h.elim
    · rename_i o ho
      (try simp only [ho])
      split at h
      · rename_i hw; (try simp only [hw]); exact ih _ _ _ h
      · rename_i hw
        (try simp only [hw])
        split at h
        · rename_i hv; (try simp only [hv]); exact ih _ _ _ h
        · exact h.elim
      · exact h.elim
  | eff i t other ih ih2 =>
    intro late fr H h
    obtain ⟨h, h2⟩ := h
    refine ⟨?_, ih2 _ _ _ h2⟩
    simp only [HStepE] at h ⊢
    split at h
    · exact h.elim
    · rename_i o ho
      (try simp only [ho])
      split at h
      · rename_i hw; (try simp only [hw]); exact ih _ _ _ h
      · rename_i hw
        (try simp only [hw])
        split at h
        · rename_i hc
          (try simp only [hc])
          exact h.mono fun v H' r => ⟨r.1, ih _ _ _ r.2⟩
        · rename_i hc
          (try simp only [hc])
          split at h
          · rename_i hv; (try simp only [hv]); exact ⟨h.1, ih _ _ _ h.2⟩
          · exact h.elim
      · exact h.elim

def DrawOk (P : Program) (sz : Nat) (ops : Array Oper) (ms : List Nat) (t : WT) (g : KDraw) : Prop := ∀ n0 late call f fr n h e fr' n' h', CallOk P call → g n0 late call f fr n h = .ok e fr' n' h' →
  e = .normal ∧ HDraw P ops ms (fun F H => Eqv n0 F H (absF sz fr') (absH n' h')) t (late.map (absL sz)) (absF sz fr) (absH n h)
/-- A guard in a drawn row. -/
theorem kdG_ok {sz : Nat} {ops : Array Oper} {o : Oper} {yes no : KDraw} {n0 : Nat} {late : List KLate} {call : KCall} {f : Nat} {fr : Tr Value} {n : Nat} {h : Tr HObj} (hk : kdG ops o yes no n0 late call f fr n h ≠ .bad) :
    (hwanted ops (absF sz fr) o = some true ∧ kdG ops o yes no n0 late call f fr n h = yes n0 late call f fr n h) ∨ (hwanted ops (absF sz fr) o = some false ∧ kdG ops o yes no n0 late call f fr n h = no n0 late call f fr n h) := by
  generalize hg : kdG ops o yes no = g at hk ⊢
  unfold kdG at hg
  split at hg
  · rename_i hgd
    subst hg
    exact .inl ⟨by unfold hwanted; rw [hgd], rfl⟩
  · rename_i j want hgd
    subst hg
    exact kguard_ok (sz := sz) hgd hk
theorem kdQ_ok {sz : Nat} {ops : Array Oper} {ms : List Nat} {i : Nat} {t : WT} {next : KDraw} (hn : DrawOk P sz ops ms t next) : DrawOk P sz ops ms (.op i t) (kdQ P sz ops i next) := by
  intro n0 late call f fr n h e fr' n' h' hc hk
  generalize hg : kdQ P sz ops i next = g at hk
  unfold kdQ at hg
  split at hg
  · rename_i o ho
    subst hg
    rcases kdG_ok (sz := sz) (by rw [hk]; simp) with ⟨hw, h2⟩ | ⟨hw, h2⟩
    · rw [h2] at hk
      unfold kdQ1 at hk
      obtain ⟨v, n1, h1, h3, h4⟩ := kdisp_ok sz o.op fr n h _ (by rw [hk]; simp)
      rw [h4] at hk
      obtain ⟨fr1, h5, h6⟩ := kput_ok sz o.dst v fr _ (by rw [hk]; simp)
      rw [h6] at hk
      obtain ⟨h7, h8⟩ := hn _ _ _ _ _ _ _ _ _ _ _ hc hk
      refine ⟨h7, ?_⟩
      simp only [HDraw, HStepQ, ho, hw, h3]
      rw [h5]
      cases hr : reads o.op with
      | true => rw [hr] at h8; exact h8
      | false => rw [hr] at h8; simpa using h8
    · rw [h2] at hk
      unfold kdSkip at hk
      obtain ⟨fr1, h5, h6⟩ := kput_ok sz o.dst undef fr _ (by rw [hk]; simp)
      rw [h6] at hk
      obtain ⟨h7, h8⟩ := hn _ _ _ _ _ _ _ _ _ _ _ hc hk
      refine ⟨h7, ?_⟩
      simp only [HDraw, HStepQ, ho, hw]
      rw [h5]; exact h8
  · subst hg; cases hk
theorem kdE_ok {sz : Nat} {ops : Array Oper} {ms : List Nat} {i : Nat} {t : WT} {next : KDraw} (hn : DrawOk P sz ops ms t next) {n0 : Nat} {late : List KLate} {call : KCall} {f : Nat} {fr : Tr Value} {n : Nat} {h : Tr HObj} {e : Exit} {fr' : Tr Value} {n' : Nat} {h' : Tr HObj} (hc : CallOk P call)
    (hk : kdE P sz ops ms i next n0 late call f fr n h = .ok e fr' n' h') :
    e = .normal ∧ HStepE P ops ms i (late.map (absL sz)) (absF sz fr) (absH n h) (HDraw P ops ms (fun F H => Eqv n0 F H (absF sz fr') (absH n' h')) t) := by
  generalize hg : kdE P sz ops ms i next = g at hk
  unfold kdE at hg
  split at hg
  · rename_i o ho
    subst hg
    rcases kdG_ok (sz := sz) (by rw [hk]; simp) with ⟨hw, h2⟩ | ⟨hw, h2⟩
    · rw [h2] at hk
      unfold kdE1 at hk
      rcases kdo_okH sz o.op call fr n h _ hc (by rw [hk]; simp) with ⟨v, n1, h1, h3, h3', h4⟩ | ⟨fn, args, v, n1, h1, h3, h3', h4⟩
      · rw [h4] at hk
        obtain ⟨h9, h10⟩ := klate_ok (sz := sz) (by rw [hk]; simp)
        rw [h10] at hk
        obtain ⟨fr1, h5, h6⟩ := kput_ok sz o.dst v fr _ (by rw [hk]; simp)
        rw [h6] at hk
        obtain ⟨h7, h8⟩ := hn _ _ _ _ _ _ _ _ _ _ _ hc hk
        refine ⟨h7, ?_⟩
        simp only [HStepE, ho, hw, h3, h3']
        rw [h5]
        exact ⟨h9, h8⟩
      · rw [h4] at hk
        obtain ⟨h9, h10⟩ := klate_ok (sz := sz) (by rw [hk]; simp)
        rw [h10] at hk
        obtain ⟨fr1, h5, h6⟩ := kput_ok sz o.dst v fr _ (by rw [hk]; simp)
        rw [h6] at hk
        obtain ⟨h7, h8⟩ := hn _ _ _ _ _ _ _ _ _ _ _ hc hk
        refine ⟨h7, ?_⟩
        simp only [HStepE, ho, hw, h3]
        refine h3'.mono ?_
        rintro v' H' ⟨rfl, rfl⟩
        rw [h5]
        exact ⟨h9, h8⟩
    · rw [h2] at hk
      unfold kdSkip at hk
      obtain ⟨fr1, h5, h6⟩ := kput_ok sz o.dst undef fr _ (by rw [hk]; simp)
      rw [h6] at hk
      obtain ⟨h7, h8⟩ := hn _ _ _ _ _ _ _ _ _ _ _ hc hk
      refine ⟨h7, ?_⟩
      simp only [HStepE, ho, hw]
      rw [h5]; exact h8
  · subst hg; cases hk
theorem kd_ok (sz : Nat) (ops : Array Oper) (ms : List Nat) : ∀ (t : WT), DrawOk P sz ops ms t (kd P sz ops ms t) := by
  intro t
  induction t with
  | done =>
    intro n0 late call f fr n h e fr' n' h' hc hk
    cases hk
    exact ⟨rfl, Eqv.refl _ _ _⟩
  | stop => intro n0 late call f fr n h e fr' n' h' hc hk; cases hk
  | op i t ih => exact kdQ_ok ih
  | eff i t other ih ih2 =>
    intro n0 late call f fr n h e fr' n' h' hc hk
    have e1 : kd P sz ops ms (.eff i t other) = kdAlt other (kdE P sz ops ms i (kd P sz ops ms t)) (kd P sz ops ms other) := rfl
    rw [e1] at hk
    generalize hg : kdAlt other (kdE P sz ops ms i (kd P sz ops ms t)) (kd P sz ops ms other) = g at hk
    unfold kdAlt at hg
    split at hg
    · subst hg
      obtain ⟨h1, h2⟩ := kdE_ok ih hc hk
      exact ⟨h1, h2, trivial⟩
    · subst hg
      obtain ⟨h1, e2, fr2, n2, h2, h3, h4⟩ := kmeet_ok hk sz
      obtain ⟨h5, h6⟩ := kdE_ok ih hc h1
      obtain ⟨h7, h8⟩ := ih2 _ _ _ _ _ _ _ _ _ _ _ hc h3
      exact ⟨h5, h6, HDraw.mono (fun F H q => q.trans h4) _ _ _ _ h8⟩

/-- The tree of a drawn row. -/
def readyOps (ops : Array Oper) (walked : List Nat) : List Nat := (List.range ops.size).filter fun i => nextOk ops walked i
def mkTree (ops : Array Oper) : Nat → List Nat → WT
  | 0, _ => .stop
  | f + 1, walked =>
    match readyOps ops walked with
    | [] => .done
    | i :: l => match (i :: l).find? (isQuiet ops) with
      | some j => .op j (mkTree ops f (walked ++ [j]))
      | none => (i :: l).foldr (fun j t => .eff j (mkTree ops f (walked ++ [j])) t) .stop
def kbadDyn : KDyn := fun _ _ _ _ _ => .bad
noncomputable def kdrawT (P : Program) (sz : Nat) (ops : Array Oper) (ms : List Nat) (t : WT) : KDyn := fun call f fr n h => kd P sz ops ms t n [] call f fr n h
/-- All drawn rows of a code are walked as they may be. -/
def drawnOk (P : Program) : Code → Bool
  | .region _ ops true => P.follows .mixedOrders && orderOk ops (ancMasks ops) (mkTree ops (Nat.succ ops.size) [])
  | .seq a b => drawnOk P a && drawnOk P b
  | .cond _ a b => drawnOk P a && drawnOk P b
  | .block _ a => drawnOk P a
  | .loop a => drawnOk P a
  | .scope a => drawnOk P a
  | _ => true
def AllOrd (P : Program) : Prop := ∀ (f : FuncId) (fn : Func) (c : Code), P.funcs[f]? = some fn → fn.body = some c → drawnOk P c = true
def allOrd (P : Program) : List Func → Bool
  | [] => true
  | fn :: l => (match fn.body with | some c => drawnOk P c | none => true) && allOrd P l
theorem allOrd_append (l l' : List Func) : allOrd P (l ++ l') = (allOrd P l && allOrd P l') := by
  induction l with
  | nil => rfl
  | cons fn l ih => simp only [List.cons_append, allOrd, ih, Bool.and_assoc]
theorem allOrd_of (h : allOrd P P.funcs.toList = true) : AllOrd P := by
  intro f fn c hf hb
  have hm : fn ∈ P.funcs.toList := by
    rw [← Array.getElem?_toList] at hf
    exact List.mem_of_getElem? hf
  revert h hm
  generalize P.funcs.toList = l
  induction l with
  | nil => intro _ hm; simp at hm
  | cons x l ih =>
    intro h hm
    rw [allOrd, Bool.and_eq_true] at h
    rcases List.mem_cons.1 hm with rfl | hm
    · have := h.1
      rw [hb] at this; exact this
    · exact ih h.2 hm
noncomputable def kdraw (P : Program) (sz : Nat) (ops : Array Oper) : KDyn := kdrawT P sz ops (ancMasks ops) (mkTree ops (Nat.succ ops.size) [])

/-- Code. -/
def DynOk (P : Program) (sz : Nat) (c : Code) (g : KDyn) : Prop := ∀ call f fr n h e fr' n' h', CallOk P call → g call f fr n h = .ok e fr' n' h' →
  Hwp P c (fun e' F H => e' = e ∧ F = absF sz fr' ∧ H = absH n' h') (absF sz fr) (absH n h)
noncomputable def kregion (P : Program) (sz : Nat) (ops : Array Oper) (draw : Bool) : KDyn := Bool.rec (kops P sz ops ops.toList) (kdraw P sz ops) draw
theorem kregion_ok (sz : Nat) (id : Nat) (ops : Array Oper) (draw : Bool) (hord : drawnOk P (.region id ops draw) = true) : DynOk P sz (.region id ops draw) (kregion P sz ops draw) := by
  intro call f fr n h e fr' n' h' hc hk
  cases draw with
  | false =>
    obtain ⟨rfl, h2⟩ := kops_ok sz ops ops.toList call f fr n h e fr' n' h' hc hk
    refine Hwp.rows ?_
    have key : ∀ (l : List Oper) (K K' : HFrame → HHeap → Prop) F H, (∀ F H, K F H → K' F H) → HRows P ops l F H K → HRows P ops l F H K' := by
      intro l K K'
      induction l with
      | nil => exact fun F H hK h => hK _ _ h
      | cons o l ih =>
        intro F H hK h
        rcases h with ⟨hw, h⟩ | ⟨hw, ⟨v, H', h1, h2⟩ | ⟨fn, args, h1, h2⟩⟩
        · exact .inl ⟨hw, ih _ _ hK h⟩
        · exact .inr ⟨hw, .inl ⟨v, H', h1, ih _ _ hK h2⟩⟩
        · exact .inr ⟨hw, .inr ⟨fn, args, h1, h2.mono fun v H' r => ih _ _ hK r⟩⟩
    exact key _ _ _ _ _ (fun F H q => ⟨rfl, q⟩) h2
  | true =>
    have hk : kdrawT P sz ops (ancMasks ops) (mkTree ops (Nat.succ ops.size) []) call f fr n h = .ok e fr' n' h' := hk
    have hb : (P.follows .mixedOrders && orderOk ops (ancMasks ops) (mkTree ops (Nat.succ ops.size) [])) = true := hord
    generalize ancMasks ops = ms at hk hb
    generalize mkTree ops (Nat.succ ops.size) [] = t at hk hb
    · unfold kdrawT at hk
      rw [Bool.and_eq_true] at hb
      obtain ⟨h1, h2⟩ := kd_ok sz ops ms t n [] call f fr n h e fr' n' h' hc hk
      subst h1
      refine Hwp.eqv (Hwp.draw hb.1 ms t hb.2 ?_)
      exact HDraw.mono (fun F H q => ⟨rfl, q⟩) _ _ _ _ h2
noncomputable def kseq2 (b : KDyn) (call : KCall) (f : Nat) (e : Exit) (fr : Tr Value) (n : Nat) (h : Tr HObj) : KX :=
  match e with
  | .normal => b call f fr n h
  | e => .ok e fr n h
noncomputable def kseq (a b : KDyn) : KDyn := fun call f fr n h => KX.rec .bad (fun e fr n h => kseq2 b call f e fr n h) (a call f fr n h)
theorem kseq_ok {sz : Nat} {x y : Code} {a b : KDyn} (ha : DynOk P sz x a) (hb : DynOk P sz y b) : DynOk P sz (.seq x y) (kseq a b) := by
  intro call f fr n h e fr' n' h' hc hk
  unfold kseq at hk
  cases hr : a call f fr n h with
  | bad => rw [hr] at hk; cases hk
  | ok e1 fr1 n1 h1 =>
    rw [hr] at hk
    have hk : kseq2 b call f e1 fr1 n1 h1 = .ok e fr' n' h' := hk
    refine Hwp.seq (Hwp.mono ?_ (ha _ _ _ _ _ _ _ _ _ hc hr))
    rintro e2 F H ⟨rfl, rfl, rfl⟩
    unfold kseq2 at hk
    cases e2 with
    | normal => exact hb _ _ _ _ _ _ _ _ _ hc hk
    | _ => cases hk; exact ⟨rfl, rfl, rfl⟩
noncomputable def kblock2 (id : Nat) (e : Exit) (fr : Tr Value) (n : Nat) (h : Tr HObj) : KX :=
  match e with
  | .exit id' => Bool.rec (.ok (.exit id') fr n h) (.ok .normal fr n h) (Nat.beq id' id)
  | e => .ok e fr n h
noncomputable def kblock (id : Nat) (a : KDyn) : KDyn := fun call f fr n h => KX.rec .bad (fun e fr n h => kblock2 id e fr n h) (a call f fr n h)
theorem kblock_ok {sz : Nat} {x : Code} {a : KDyn} (id : Nat) (ha : DynOk P sz x a) : DynOk P sz (.block id x) (kblock id a) := by
  intro call f fr n h e fr' n' h' hc hk
  unfold kblock at hk
  cases hr : a call f fr n h with
  | bad => rw [hr] at hk; cases hk
  | ok e1 fr1 n1 h1 =>
    rw [hr] at hk
    have hk : kblock2 id e1 fr1 n1 h1 = .ok e fr' n' h' := hk
    refine Hwp.block (Hwp.mono ?_ (ha _ _ _ _ _ _ _ _ _ hc hr))
    rintro e2 F H ⟨rfl, rfl, rfl⟩
    unfold kblock2 at hk
    cases e2 with
    | exit id' =>
      simp only [HBlock]
      cases hb : Nat.beq id' id with
      | true =>
        simp only [hb] at hk
        cases hk
        rw [if_pos (Nat.eq_of_beq_eq_true hb)]; exact ⟨rfl, rfl, rfl⟩
      | false =>
        simp only [hb] at hk
        cases hk
        rw [if_neg (fun e => by subst e; rw [Nat.beq_refl] at hb; cases hb)]; exact ⟨rfl, rfl, rfl⟩
    | _ => cases hk; exact ⟨rfl, rfl, rfl⟩
noncomputable def kcond (c : Operand) (x y : KDyn) : KDyn := fun call f fr n h => kev c fr fun v => kboolV v (x call f fr n h) (y call f fr n h)
theorem kcond_ok {sz : Nat} {x y : Code} {a b : KDyn} (c : Operand) (ha : DynOk P sz x a) (hb : DynOk P sz y b) : DynOk P sz (.cond c x y) (kcond c a b) := by
  intro call f fr n h e fr' n' h' hc hk
  unfold kcond at hk
  obtain ⟨v, h1, h2⟩ := kev_ok (sz := sz) _ (by rw [hk]; simp)
  rw [h2] at hk
  unfold kboolV at hk
  split at hk
  · rename_i t
    refine Hwp.cond h1 (fun e => ?_) (fun e => ?_)
    · subst e; exact ha _ _ _ _ _ _ _ _ _ hc hk
    · subst e; exact hb _ _ _ _ _ _ _ _ _ hc hk
  · cases hk
noncomputable def kloop2 (ih : Tr Value → Nat → Tr HObj → KX) (e : Exit) (fr : Tr Value) (n : Nat) (h : Tr HObj) : KX :=
  match e with
  | .normal => ih fr n h
  | e => .ok e fr n h
noncomputable def kloopN (a : KDyn) (call : KCall) (f : Nat) (m : Nat) : Tr Value → Nat → Tr HObj → KX :=
  Nat.rec (motive := fun _ => Tr Value → Nat → Tr HObj → KX) (fun _ _ _ => .bad) (fun _ ih fr n h => KX.rec .bad (fun e fr n h => kloop2 ih e fr n h) (a call f fr n h)) m
noncomputable def kloop (a : KDyn) : KDyn := fun call f => kloopN a call f f
theorem kloop_ok {sz : Nat} {x : Code} {a : KDyn} (ha : DynOk P sz x a) : DynOk P sz (.loop x) (kloop a) := by
  intro call f fr n h e fr' n' h' hc hk
  have hk : kloopN a call f f fr n h = .ok e fr' n' h' := hk
  refine Hwp.loop (fun m F H => ∃ fr n h, F = absF sz fr ∧ H = absH n h ∧ kloopN a call f m fr n h = .ok e fr' n' h') f ⟨fr, n, h, rfl, rfl, hk⟩ ?_
  rintro m F H ⟨fr, n, h, rfl, rfl, hm⟩
  cases m with
  | zero => cases hm
  | succ m =>
    have hm : KX.rec KX.bad (fun e fr n h => kloop2 (kloopN a call f m) e fr n h) (a call f fr n h) = KX.ok e fr' n' h' := hm
    cases hr : a call f fr n h with
    | bad => rw [hr] at hm; cases hm
    | ok e1 fr1 n1 h1 =>
      rw [hr] at hm
      have hm : kloop2 (kloopN a call f m) e1 fr1 n1 h1 = .ok e fr' n' h' := hm
      refine Hwp.mono ?_ (ha _ _ _ _ _ _ _ _ _ hc hr)
      rintro e2 F H ⟨rfl, rfl, rfl⟩
      unfold kloop2 at hm
      cases e2 with
      | normal => exact ⟨m, Nat.lt_succ_self m, fr1, n1, h1, rfl, rfl, hm⟩
      | _ => cases hm; exact ⟨rfl, rfl, rfl⟩
theorem Hwp.scope {c : Code} {Q : Exit → HFrame → HHeap → Prop} {fr : HFrame} {H : HHeap} (hq : ∀ l F H, ¬ Q (.goto l) F H) (h : Hwp P c Q fr H) : Hwp P (.scope c) Q fr H := by
  intro B μ w a hR hf
  refine wp_scope_straight (wp_mono (h B μ w a hR hf) ?_)
  rintro e a' w' ⟨fr', H', μ', q, f, s⟩
  cases e with
  | goto l => exact hq _ _ _ q
  | _ => exact ⟨fr', H', μ', q, f, s⟩
noncomputable def kscope2 (e : Exit) (fr : Tr Value) (n : Nat) (h : Tr HObj) : KX :=
  match e with
  | .goto _ => .bad
  | e => .ok e fr n h
noncomputable def kscope (a : KDyn) : KDyn := fun call f fr n h => KX.rec .bad (fun e fr n h => kscope2 e fr n h) (a call f fr n h)
theorem kscope_ok {sz : Nat} {x : Code} {a : KDyn} (ha : DynOk P sz x a) : DynOk P sz (.scope x) (kscope a) := by
  intro call f fr n h e fr' n' h' hc hk
  unfold kscope at hk
  cases hr : a call f fr n h with
  | bad => rw [hr] at hk; cases hk
  | ok e1 fr1 n1 h1 =>
    rw [hr] at hk
    have hk : kscope2 e1 fr1 n1 h1 = .ok e fr' n' h' := hk
    unfold kscope2 at hk
    cases e1 with
    | goto l => cases hk
    | _ => cases hk; exact Hwp.scope (fun l F H q => by simp at q) (ha _ _ _ _ _ _ _ _ _ hc hr)
noncomputable def kskip : KDyn := fun _ _ fr n h => .ok .normal fr n h
noncomputable def kexit (id : Nat) : KDyn := fun _ _ fr n h => .ok (.exit id) fr n h
noncomputable def kret : KDyn := fun _ _ fr n h => .ok .ret fr n h
noncomputable def kcode (P : Program) (sz : Nat) (c : Code) : KDyn :=
  Code.rec (motive := fun _ => KDyn) kskip (fun _ ops draw => kregion P sz ops draw) (fun _ _ a b => kseq a b) (fun c _ _ x y => kcond c x y) (fun id _ a => kblock id a) (fun _ a => kloop a)
    (fun _ _ _ _ _ _ => kbadDyn) (fun id => kexit id) (fun _ a => kscope a) (fun _ => kskip) (fun _ => kbadDyn) kret (fun _ => kbadDyn) c
theorem kcode_ok (sz : Nat) (c : Code) (hord : drawnOk P c = true) : DynOk P sz c (kcode P sz c) := by
  induction c with
  | skip => intro call f fr n h e fr' n' h' hc hk; cases hk; exact HW.sound .skip _ _ _ ⟨rfl, rfl, rfl⟩
  | label l => intro call f fr n h e fr' n' h' hc hk; cases hk; exact HW.sound (.label l) _ _ _ ⟨rfl, rfl, rfl⟩
  | exit id => intro call f fr n h e fr' n' h' hc hk; cases hk; exact HW.sound (.exit id) _ _ _ ⟨rfl, rfl, rfl⟩
  | ret => intro call f fr n h e fr' n' h' hc hk; cases hk; exact HW.sound .ret _ _ _ ⟨rfl, rfl, rfl⟩
  | region id ops draw => exact kregion_ok sz id ops draw hord
  | seq a b iha ihb =>
    simp only [drawnOk, Bool.and_eq_true] at hord
    exact kseq_ok (iha hord.1) (ihb hord.2)
  | cond c x y ihx ihy =>
    simp only [drawnOk, Bool.and_eq_true] at hord
    exact kcond_ok c (ihx hord.1) (ihy hord.2)
  | block id c ih => exact kblock_ok id (ih hord)
  | loop c ih => exact kloop_ok (ih hord)
  | scope c ih => exact kscope_ok (ih hord)
  | _ => intro call f fr n h e fr' n' h' hc hk; cases hk

/-- Functions. -/
noncomputable def kargs (l : List Value) : Nat → Tr Value → (Tr Value → KX) → KX :=
  List.rec (motive := fun _ => Nat → Tr Value → (Tr Value → KX) → KX) (fun _ t k => k t) (fun v _ ih n t k => Bool.rec .bad (Tr.insK (some v) (path n) t fun t => ih (Nat.succ n) t k) (placed n)) l
theorem kargs_ok : ∀ (l : List Value) (i : Nat) (t : Tr Value) (k : Tr Value → KX), kargs l i t k ≠ .bad → ∃ t', (∀ m, t'.at m = if i ≤ m ∧ m < i + l.length then l[m - i]? else t.at m) ∧ kargs l i t k = k t'
  | [], i, t, k, hk => ⟨t, fun m => by rw [if_neg (by simp <;> omega)], rfl⟩
  | v :: l, i, t, k, hk => by
    have e : kargs (v :: l) i t k = Bool.rec KX.bad (Tr.insK (some v) (path i) t fun t => kargs l (Nat.succ i) t k) (placed i) := rfl
    rw [e] at hk ⊢
    cases hp : placed i with
    | false => rw [hp] at hk; exact absurd rfl hk
    | true =>
      rw [hp] at hk
      simp only [Tr.insK_eq] at hk ⊢
      obtain ⟨t', h1, h2⟩ := kargs_ok l (i + 1) _ k hk
      refine ⟨t', fun m => ?_, h2⟩
      rw [h1, Tr.at_ins hp]
      by_cases h3 : m = i
      · subst h3
        rw [if_neg (by omega), if_pos rfl, if_pos (by simp <;> omega), Nat.sub_self]; rfl
      · by_cases h4 : i + 1 ≤ m ∧ m < i + 1 + l.length
        · rw [if_pos h4, if_pos (by simp <;> omega), show m - i = (m - (i + 1)) + 1 by omega]; simp
        · rw [if_neg h4, if_neg h3, if_neg (by simp <;> omega)]
noncomputable def kres1 (P : Program) (n : Nat) (h : Tr HObj) (r : ResultVar) (fr : Tr Value) (k : Value → KR) : KR :=
  match hresult P ⟨0, fr.at⟩ (absH n h) r with
  | some v => k v
  | none => .bad
noncomputable def kres (P : Program) (rs : List ResultVar) (n : Nat) (h : Tr HObj) (fr : Tr Value) : (List Value → KR) → KR :=
  List.rec (motive := fun _ => (List Value → KR) → KR) (fun k => k []) (fun r _ ih k => kres1 P n h r fr fun v => ih fun vs => k (v :: vs)) rs
theorem kres_ok {sz n : Nat} {h : Tr HObj} {fr : Tr Value} : ∀ (rs : List ResultVar) (k : List Value → KR), kres P rs n h fr k ≠ .bad → ∃ vs, hresults P (absF sz fr) (absH n h) rs = some vs ∧ kres P rs n h fr k = k vs
  | [], k, hk => ⟨[], rfl, rfl⟩
  | r :: rs, k, hk => by
    have e : kres P (r :: rs) n h fr k = kres1 P n h r fr fun v => kres P rs n h fr fun vs => k (v :: vs) := rfl
    rw [e] at hk ⊢
    unfold kres1 at hk ⊢
    have e2 : hresult P ⟨0, fr.at⟩ (absH n h) r = hresult P (absF sz fr) (absH n h) r := by cases r <;> rfl
    rw [e2] at hk ⊢
    cases hr : hresult P (absF sz fr) (absH n h) r with
    | none => rw [hr] at hk; exact absurd rfl hk
    | some v =>
      rw [hr] at hk
      simp only at hk ⊢
      obtain ⟨vs, h1, h2⟩ := kres_ok (sz := sz) rs _ hk
      exact ⟨v :: vs, by simp only [hresults, hr, h1, Option.bind_some, Option.map_some], h2⟩
def kends (e : Exit) (r : KR) : KR :=
  match e with
  | .normal => r
  | .ret => r
  | _ => .bad
noncomputable def kfun (P : Program) (sz : Nat) (rs : List ResultVar) (c : KDyn) : KCall → Nat → List Value → Nat → Tr HObj → KR := fun call f args n h =>
  Bool.rec .bad (KX.rec .bad (fun e fr n h => kends e (kres P rs n h fr fun vs => .ok (htuple vs) n h)) (kargs args 0 .nil fun fr => c call f fr n h)) (Nat.ble args.length sz)
def kbadFun : KCall → Nat → List Value → Nat → Tr HObj → KR := fun _ _ _ _ _ => .bad
noncomputable def kbody (P : Program) (fn : Func) : KCall → Nat → List Value → Nat → Tr HObj → KR :=
  match fn.body with
  | some c => kfun P fn.ntmps fn.results.toList (kcode P fn.ntmps c)
  | none => kbadFun
noncomputable def kfn (P : Program) (f : FuncId) : KCall → Nat → List Value → Nat → Tr HObj → KR :=
  match P.funcs[f]? with
  | some fn => kbody P fn
  | none => kbadFun
theorem kfn_ok (hP : AllOrd P) (g : FuncId) (call : KCall) (hc : CallOk P call) (f : Nat) (args : List Value) (n : Nat) (h : Tr HObj) (v : Value) (n' : Nat) (h' : Tr HObj) (hk : kfn P g call f args n h = .ok v n' h') : HCalls P g args (absH n h) fun v' H' => v' = v ∧ H' = absH n' h' := by
  generalize hg : kfn P g = k at hk
  unfold kfn at hg
  split at hg
  · rename_i fn hfn
    unfold kbody at hg
    split at hg
    · rename_i c hb
      subst hg
      unfold kfun at hk
      cases hl : Nat.ble args.length fn.ntmps with
      | false => rw [hl] at hk; cases hk
      | true =>
        rw [hl] at hk
        have hl := Nat.le_of_ble_eq_true hl
        simp only at hk
        cases hr : kargs args 0 .nil fun fr => kcode P fn.ntmps c call f fr n h with
        | bad => rw [hr] at hk; cases hk
        | ok e fr1 n1 h1 =>
          rw [hr] at hk
          obtain ⟨fr0, h2, h3⟩ := kargs_ok args 0 .nil _ (by rw [hr]; simp)
          rw [h3] at hr
          have hw := kcode_ok fn.ntmps c (hP _ _ _ hfn hb) _ _ _ _ _ _ _ _ _ hc hr
          refine HCalls.of_body hfn hb ?_
          have hf0 : hframe0 args fn.ntmps = absF fn.ntmps fr0 := by
            unfold hframe0 absF
            congr 1
            · omega
            · funext t
              rw [h2, Tr.at_nil]
              by_cases ht : t < args.length
              · rw [if_pos (by omega), Nat.sub_zero]
              · rw [if_neg (by omega), List.getElem?_eq_none (by omega)]
          rw [hf0]
          refine Hwp.mono ?_ hw
          rintro e2 F H ⟨rfl, rfl, rfl⟩
          have hk : kends e2 (kres P fn.results.toList n1 h1 fr1 fun vs => .ok (htuple vs) n1 h1) = .ok v n' h' := hk
          have fin : (kres P fn.results.toList n1 h1 fr1 fun vs => KR.ok (htuple vs) n1 h1) = .ok v n' h' → ∃ vs, hresults P (absF fn.ntmps fr1) (absH n1 h1) fn.results.toList = some vs ∧ (htuple vs = v ∧ absH n1 h1 = absH n' h') := by
            intro hq
            obtain ⟨vs, h4, h5⟩ := kres_ok (sz := fn.ntmps) _ _ (by rw [hq]; simp)
            rw [h5] at hq
            cases hq
            exact ⟨vs, h4, rfl, rfl⟩
          unfold kends at hk
          cases e2 with
          | normal => exact ⟨trivial, fin hk⟩
          | ret => exact ⟨trivial, fin hk⟩
          | _ => cases hk
    · subst hg; cases hk
  · subst hg; cases hk
/-- CALLS, so deep and so long at most. -/
noncomputable def kcall (P : Program) (f : Nat) (d : Nat) : KCall := Nat.rec (motive := fun _ => KCall) (fun _ _ _ _ => .bad) (fun _ ih g args n h => kfn P g ih f args n h) d
theorem kcall_ok (hP : AllOrd P) (f : Nat) : ∀ (d : Nat), CallOk P (kcall P f d)
  | 0 => fun _ _ _ _ _ _ _ hk => by cases hk
  | d + 1 => fun g args n h v n' h' hk => kfn_ok hP g (kcall P f d) (kcall_ok hP f d) f args n h v n' h' hk
end Go.HL
