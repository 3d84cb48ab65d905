/-
  Joined: U1, U2.
-/
import Derived.Test.YtoflnkdngcdejaaGreatDoorPK13
import Derived.Recover
set_option linter.unusedVariables false
set_option linter.unusedSimpArgs false
/-
  A high level over the model: a function that defers one call ahead of all else.
-/
namespace Go.HL
open Go.RowKit
set_option linter.unusedSimpArgs false
set_option linter.unusedVariables false

variable {P : Program}

/-- A deferred call that changes nothing where its caller returns. -/
def Calm (P : Program) (g : FuncId) : Prop := ∀ w, CallsD P g #[] .returning w fun e u w' => u = .returning ∧ e = .returned (.tuple #[]) ∧ Below w.heap.size w w'

theorem HCalls.of_defer {f g : FuncId} {fn : Func} {id : Nat} {o : Oper} {c : Code} {ts : Array TypeId} {args : List Value} {H : HHeap} {R : Value → HHeap → Prop}
    (hfn : P.funcs[f]? = some fn) (hc : fn.body = some (.seq (.region id #[o] false) c)) (ho : o.op = .defer ⟨.value (.func g), #[], ts⟩) (hog : o.guard = none) (hod : o.dst = none)
    (hgo : isGo P g = true) (hcalm : Calm P g)
    (h : Hwp P c (fun e fr H' => (match e with | .normal | .ret => True | _ => False) ∧ ∃ vs, hresults P fr H' fn.results.toList = some vs ∧ R (htuple vs) H') (hframe0 args fn.ntmps) H) : HCalls P f args H R := by
  intro B μ w args' hR hv
  refine calls_of_wp_defers hfn hc (wp_seq (wp_region_list ?_))
  unfold wpList
  rw [if_pos (by simp [Region.wanted, hog])]
  refine .inl ?_
  unfold Oper.wp
  have hrun : ∀ (ρ : Operand → Value) w, ρ (.func g) = .func (.func g) #[] #[] → (execOp ρ o).run P w = .ok (.defer ⟨.fn (.func g) #[], #[]⟩) w := by
    intro ρ w hρ
    simp [execOp, ho, resolve, hρ, Deferred.ofValue]
  rw [hrun _ _ rfl]
  rw [Oper.upon_defer, hod]
  have hf : FRel [⟨.fn (.func g) #[], #[]⟩] μ (hframe0 args fn.ntmps) (({ tmps := args'.toArray ++ Array.replicate (fn.ntmps - args'.toArray.size) undef, defers := [⟨.fn (.func g) #[], #[]⟩] } : Act).put none undef) := by
    have hl := hv.length
    refine ⟨by simp [hframe0, hl, Act.put], fun t v e => ?_, rfl⟩
    obtain ⟨v', h1, h2⟩ := hv.get t v e
    refine ⟨v', ?_, h2⟩
    have hlt : t < args'.length := by
      rcases Nat.lt_or_ge t args'.length with hh | hh
      · exact hh
      · rw [List.getElem?_eq_none hh] at h1; cases h1
    show (args'.toArray ++ Array.replicate (fn.ntmps - args'.toArray.size) undef)[t]? = some v'
    rw [Array.getElem?_append_left (by simpa using hlt)]
    simpa using h1
  show c.wp P _ _ _
  refine wp_mono (h _ B μ w _ hR hf) ?_
  rintro e a' w' ⟨fr', H', μ', ⟨q1, vs, q2, q3⟩, f', s⟩
  have key : ∀ w2, Rel B μ' H' w2 → ∃ v', (results fn a'.tmps).run P w2 = .ok v' w2 ∧ VRel μ' (htuple vs) v' := by
    intro w2 hR2
    obtain ⟨vs', k1, k2⟩ := run_results hR2 f' _ _ q2
    refine ⟨htuple vs', ?_, ?_⟩
    · rw [results_eq, Sem.run_bind, Array.mapM_eq_mapM_toList, Sem.run_map]
      rw [k2]
      simp only [Result.andThen_ok, Sem.run_pure]
      cases vs' with
      | nil => rfl
      | cons x xs => cases xs with
        | nil => rfl
        | cons y ys => simp [htuple]
    · cases k1 with
      | nil => exact .tuple [] [] .nil
      | cons _ _ _ _ h1 h2 => cases h2 with
        | nil => exact h1
        | cons _ _ _ _ h3 h4 => exact .tuple _ _ (.cons _ _ _ _ h1 (.cons _ _ _ _ h3 h4))
  have hend : Leaves P fn a'.tmps (fun e w' => ∃ μ' v H' v', e = Ending.returned v' ∧ R v H' ∧ VRel μ' v v' ∧ Step B μ H w μ' H' w') a'.defers .returning w' := by
    rw [f'.defers]
    refine leaves_cons (f := g) (args := #[]) (by simp) ?_ ((hcalm w').mono ?_)
    · have hb := hgo
      unfold isGo at hb
      cases hfn : P.funcs[g]? with
      | none => rw [hfn] at hb; cases hb
      | some fn =>
        simp only [hfn, Bool.and_eq_true, bne_iff_ne, ne_eq] at hb
        have hbn : fn.body ≠ none := by
          cases hbb : fn.body <;> simp [hbb] at hb ⊢
        simp [invoke, callFunc, hfn, hb.2, hbn]
    · rintro e u w2 ⟨rfl, rfl, hb⟩
      have s2 := s.trans (Step.of_below s.rel hb)
      obtain ⟨v', hres, hrel⟩ := key w2 s2.rel
      exact ⟨_, hres, μ', _, H', _, rfl, q3, hrel, s2⟩
  cases e with
  | normal => exact hend
  | ret => exact hend
  | _ => exact absurd q1 (by simp)
end Go.HL
/-
  A way to run code on given data inside the kernel: functions that defer one calm call ahead of all else.
-/
namespace Go.HL
open Go.RowKit
set_option linter.unusedSimpArgs false
set_option linter.unusedVariables false

variable {P : Program}

theorem kfun_hwp {fn : Func} {c : Code} (hd : drawnOk P c = true) {call : KCall} (hc : CallOk P call) {f : Nat} {args : List Value} {n : Nat} {h : Tr HObj} {v : Value} {n' : Nat} {h' : Tr HObj}
    (hk : kfun P fn.ntmps fn.results.toList (kcode P fn.ntmps c) call f args n h = .ok v n' h') :
    Hwp P c (fun e fr H' => (match e with | .normal | .ret => True | _ => False) ∧ ∃ vs, hresults P fr H' fn.results.toList = some vs ∧ (htuple vs = v ∧ H' = absH n' h')) (hframe0 args fn.ntmps) (absH n h) := by
  unfold kfun at hk
  cases hl : Nat.ble args.length fn.ntmps with
  | false => rw [hl] at hk; cases hk
  | true =>
    rw [hl] at hk
    have hl := Nat.le_of_ble_eq_true hl
    simp only at hk
    cases hr : kargs args 0 .nil fun fr => kcode P fn.ntmps c call f fr n h with
    | bad => rw [hr] at hk; cases hk
    | ok e fr1 n1 h1 =>
      rw [hr] at hk
      obtain ⟨fr0, h2, h3⟩ := kargs_ok args 0 .nil _ (by rw [hr]; simp)
      rw [h3] at hr
      have hw := kcode_ok fn.ntmps c hd _ _ _ _ _ _ _ _ _ hc hr
      have hf0 : hframe0 args fn.ntmps = absF fn.ntmps fr0 := by
        unfold hframe0 absF
        congr 1
        · omega
        · funext t
          rw [h2, Tr.at_nil]
          by_cases ht : t < args.length
          · rw [if_pos (by omega), Nat.sub_zero]
          · rw [if_neg (by omega), List.getElem?_eq_none (by omega)]
      rw [hf0]
      refine Hwp.mono ?_ hw
      rintro e2 F H ⟨rfl, rfl, rfl⟩
      have hk : kends e2 (kres P fn.results.toList n1 h1 fr1 fun vs => .ok (htuple vs) n1 h1) = .ok v n' h' := hk
      have fin : (kres P fn.results.toList n1 h1 fr1 fun vs => KR.ok (htuple vs) n1 h1) = .ok v n' h' → ∃ vs, hresults P (absF fn.ntmps fr1) (absH n1 h1) fn.results.toList = some vs ∧ (htuple vs = v ∧ absH n1 h1 = absH n' h') := by
        intro hq
        obtain ⟨vs, h4, h5⟩ := kres_ok (sz := fn.ntmps) _ _ (by rw [hq]; simp)
        rw [h5] at hq
        cases hq
        exact ⟨vs, h4, rfl, rfl⟩
      unfold kends at hk
      cases e2 with
      | normal => exact ⟨trivial, fin hk⟩
      | ret => exact ⟨trivial, fin hk⟩
      | _ => cases hk

/-- A body that defers one call of a function without words, and goes on. -/
def deferOf (c : Code) : Option (FuncId × Code) :=
  match c with
  | .seq (.region _ ⟨[⟨none, .defer ⟨.value (.func g), ⟨[]⟩, _⟩, _, _, _, none⟩]⟩ false) c => some (g, c)
  | _ => none
theorem deferOf_spec {c c' : Code} {g : FuncId} (h : deferOf c = some (g, c')) : ∃ id o ts, c = .seq (.region id #[o] false) c' ∧ o.op = .defer ⟨.value (.func g), #[], ts⟩ ∧ o.guard = none ∧ o.dst = none := by
  unfold deferOf at h
  split at h
  · cases h
    exact ⟨_, _, _, rfl, rfl, rfl, rfl⟩
  · cases h
noncomputable def kbodyD (P : Program) (calm : FuncId → Bool) (fn : Func) : Bx KFun :=
  match fn.body with
  | some c => Option.rec (motive := fun _ => Bx KFun) (kbodyB P fn) (fun p => Bool.rec (motive := fun _ => Bx KFun) (.mk kbadFun) ((kcodeB P fn.ntmps p.2).on fun g => forceNat fn.ntmps fun sz => .mk (kfun P sz fn.results.toList g)) (calm p.1 && isGo P p.1)) (deferOf c)
  | none => .mk kbadFun
noncomputable def kfnD (P : Program) (calm : FuncId → Bool) (f : FuncId) : Bx KFun :=
  match P.funcs[f]? with
  | some fn => kbodyD P calm fn
  | none => .mk kbadFun
theorem kfnD_ok (hP : AllOrd P) {calm : FuncId → Bool} (hcalm : ∀ g, calm g = true → Calm P g) (g : FuncId) (call : KCall) (hc : CallOk P call) (f : Nat) (args : List Value) (n : Nat) (h : Tr HObj) (v : Value) (n' : Nat) (h' : Tr HObj)
    (hk : ((kfnD P calm g).on fun F => F call f args n h) = .ok v n' h') : HCalls P g args (absH n h) fun v' H' => v' = v ∧ H' = absH n' h' := by
  have old : ((kfnB P g).on fun F => F call f args n h) = .ok v n' h' → HCalls P g args (absH n h) fun v' H' => v' = v ∧ H' = absH n' h' := by
    intro hk
    rw [kfnB_eq, Bx.on_mk] at hk
    exact kfn_ok hP g call hc f args n h v n' h' hk
  cases hfn : P.funcs[g]? with
  | none =>
    have e : kfnD P calm g = .mk kbadFun := by unfold kfnD; rw [hfn]
    rw [e, Bx.on_mk] at hk; cases hk
  | some fn =>
    have e : kfnD P calm g = kbodyD P calm fn := by unfold kfnD; rw [hfn]
    have e2 : kfnB P g = kbodyB P fn := by unfold kfnB; rw [hfn]
    rw [e] at hk
    rw [e2] at old
    cases hb : fn.body with
    | none =>
      have e : kbodyD P calm fn = .mk kbadFun := by unfold kbodyD; rw [hb]
      rw [e, Bx.on_mk] at hk; cases hk
    | some c =>
      have e3 : kbodyD P calm fn = Option.rec (motive := fun _ => Bx KFun) (kbodyB P fn) (fun p => Bool.rec (motive := fun _ => Bx KFun) (.mk kbadFun) ((kcodeB P fn.ntmps p.2).on fun g => forceNat fn.ntmps fun sz => .mk (kfun P sz fn.results.toList g)) (calm p.1 && isGo P p.1)) (deferOf c) := by unfold kbodyD; rw [hb]
      rw [e3] at hk
      cases hd : deferOf c with
      | none => rw [hd] at hk; exact old hk
      | some p =>
        rw [hd] at hk
        obtain ⟨d, c'⟩ := p
        have hk : (Bool.rec (motive := fun _ => Bx KFun) (.mk kbadFun) ((kcodeB P fn.ntmps c').on fun g => forceNat fn.ntmps fun sz => .mk (kfun P sz fn.results.toList g)) (calm d && isGo P d)).on (fun F => F call f args n h) = .ok v n' h' := hk
        cases hq : calm d && isGo P d with
        | false => rw [hq] at hk; cases hk
        | true =>
          rw [hq] at hk
          rw [Bool.and_eq_true] at hq
          have hk : ((kcodeB P fn.ntmps c').on fun g => forceNat fn.ntmps fun sz => Bx.mk (kfun P sz fn.results.toList g)).on (fun F => F call f args n h) = .ok v n' h' := hk
          have e8 : ((kcodeB P fn.ntmps c').on fun g => forceNat fn.ntmps fun sz => Bx.mk (kfun P sz fn.results.toList g)) = Bx.mk (kfun P fn.ntmps fn.results.toList (kcode P fn.ntmps c')) := by
            rw [kcodeB_eq]
            show forceNat fn.ntmps (fun sz => Bx.mk (kfun P sz fn.results.toList (kcode P fn.ntmps c'))) = _
            rw [forceNat_eq]
          rw [e8] at hk
          obtain ⟨id, o, ts, e4, e5, e6, e7⟩ := deferOf_spec hd
          have hdr := hP _ _ _ hfn hb
          rw [e4] at hdr
          have hdr : drawnOk P c' = true := by
            simp only [drawnOk, Bool.and_eq_true] at hdr
            exact hdr.2
          exact HCalls.of_defer hfn (by rw [hb, e4]) e5 e6 e7 hq.2 (hcalm d hq.1) (kfun_hwp hdr hc hk)
/-- What is known of calls that read the heap. -/
abbrev KOrcH := FuncId → List Value → Tr HObj → Option Value
def OrcHOk (P : Program) (orc : KOrcH) : Prop := ∀ g args n h v, orc g args h = some v → HCalls P g args (absH n h) fun v' H' => v' = v ∧ H' = absH n h
def noOrcH : KOrcH := fun _ _ _ => none
theorem noOrcH_ok : OrcHOk P noOrcH := fun _ _ _ _ _ h => by cases h
/-- CALLS, with a table of what is known, and of the calm ones. -/
noncomputable def kcallD (P : Program) (calm : FuncId → Bool) (orc : KOrc) (orh : KOrcH) (f : Nat) (d : Nat) : KCall := Nat.rec (motive := fun _ => KCall) (fun _ _ _ _ => .bad)
  (fun _ ih g args n h => Option.rec (Option.rec ((kfnD P calm g).on fun F => F ih f args n h) (fun v => .ok v n h) (orh g args h)) (fun v => .ok v n h) (orc g args)) d
theorem kcallD_ok (hP : AllOrd P) {calm : FuncId → Bool} (hcalm : ∀ g, calm g = true → Calm P g) {orc : KOrc} (ho : OrcOk P orc) {orh : KOrcH} (hh : OrcHOk P orh) (f : Nat) : ∀ (d : Nat), CallOk P (kcallD P calm orc orh f d)
  | 0 => fun _ _ _ _ _ _ _ hk => by cases hk
  | d + 1 => fun g args n h v n' h' hk => by
    have hk : Option.rec (Option.rec ((kfnD P calm g).on fun F => F (kcallD P calm orc orh f d) f args n h) (fun v => KR.ok v n h) (orh g args h)) (fun v => KR.ok v n h) (orc g args) = KR.ok v n' h' := hk
    cases hr : orc g args with
    | none =>
      rw [hr] at hk
      cases hq : orh g args h with
      | none =>
        rw [hq] at hk
        exact kfnD_ok hP hcalm g _ (kcallD_ok hP hcalm ho hh f d) f args n h v n' h' hk
      | some u =>
        rw [hq] at hk
        cases hk
        exact hh g args n h _ hq
    | some u =>
      rw [hr] at hk
      cases hk
      exact ho g args _ hr _
end Go.HL
