/-
  A high level over the model, part 9: code: what a function's body comes to at the high level, and that the model's run of it meets that.
-/
import Derived.Test.YtakjligkeplohaaGreatDoorH8
namespace Go.HL
open Go.RowKit

variable {P : Program}

/-- A CONTRACT: called with values that meet these, over any world that meets this heap, the function returns a value, and there is a heap, of which R is said. -/
def HCalls (P : Program) (f : FuncId) (args : List Value) (H : HHeap) (R : Value → HHeap → Prop) : Prop :=
  ∀ B μ w args', Rel B μ H w → VRels μ args args' →
    Calls P f args'.toArray w fun e w' => ∃ μ' v H' v', e = .returned v' ∧ R v H' ∧ VRel μ' v v' ∧ Step B μ H w μ' H' w'

theorem HCalls.mono {f : FuncId} {args : List Value} {H : HHeap} {R R' : Value → HHeap → Prop} (h : HCalls P f args H R) (hr : ∀ v H', R v H' → R' v H') : HCalls P f args H R' :=
  fun B μ w args' hR hv => (h B μ w args' hR hv).mono fun _ _ ⟨μ', v, H', v', e, r, x, s⟩ => ⟨μ', v, H', v', e, hr _ _ r, x, s⟩

/-- All blocks have been given. -/
def HHeap.Ok (H : HHeap) : Prop := ∀ b o, H.get b = some o → b < H.next
theorem Rel.ok {B : Nat} {μ : Mu} {H : HHeap} {w : World} (h : Rel B μ H w) : H.Ok := by
  intro b o hb
  cases o with
  | cells cs rw =>
    obtain ⟨p, hp, _⟩ := h.cells b cs rw hb
    exact h.bound b p hp
  | map es =>
    obtain ⟨p, _, _, hp, _⟩ := h.maps b es hb
    exact h.bound b p hp
theorem HCalls.ok {f : FuncId} {args : List Value} {H : HHeap} {R : Value → HHeap → Prop} (h : H.Ok → HCalls P f args H R) : HCalls P f args H R :=
  fun B μ w args' hR hv => h hR.ok B μ w args' hR hv
theorem HCalls.gotOk {f : FuncId} {args : List Value} {H : HHeap} {R : Value → HHeap → Prop} (h : HCalls P f args H fun v H' => H'.Ok → H.next ≤ H'.next → R v H') : HCalls P f args H R :=
  fun B μ w args' hR hv => (h B μ w args' hR hv).mono fun _ _ ⟨μ', v, H', v', e, r, x, s⟩ => ⟨μ', v, H', v', e, r s.rel.ok s.next, x, s⟩

/-- A function that has a body. -/
def isGo (P : Program) (f : FuncId) : Bool :=
  match P.funcs[f]? with
  | some fn => fn.body.isSome && fn.name != "runtime.NumGoroutine"
  | none => false

/-- The function that an operation calls, and what with. -/
def hcallee (P : Program) (fr : HFrame) (op : Op) : Option (FuncId × List Value) :=
  match op with
  | .call { callee := .value x, args, .. } =>
    match hev fr x, hevs fr args.toList with
    | some (.func (.func f) first captured), some vs =>
      if first.size = 0 ∧ isGo P f then some (f, vs ++ captured.toList) else none
    | _, _ => none
  | _ => none

theorem callee_run {μ : Mu} {fr : HFrame} {a : Act} (hf : FRel μ fr a) {o : Oper} {f : FuncId} {args : List Value} (h : hcallee P fr o.op = some (f, args)) (w : World) :
    ∃ args', VRels μ args args' ∧ (execOp a.eval o).run P w = .ok (.enter f args'.toArray) w := by
  unfold hcallee at h
  split at h
  · rename_i x as ts ho
    split at h
    · rename_i g first captured vs hx hvs
      split at h <;> cases h
      rename_i hc
      obtain ⟨hz, hb⟩ := hc
      have hr := hev_rel hf hx
      have hvr := hevs_rel hf _ _ hvs
      have hargs : as.map a.eval = (as.toList.map a.eval).toArray := by apply Array.ext'; simp
      generalize hq : a.eval x = q at hr
      cases hr with
      | func _ cs cs' hcs =>
      refine ⟨as.toList.map a.eval ++ cs', hvr.append hcs, ?_⟩
      cases hfn : P.funcs[f]? with
      | none => simp [isGo, hfn] at hb
      | some fn =>
        simp only [isGo, hfn, Bool.and_eq_true, bne_iff_ne, ne_eq] at hb
        have hbn : fn.body ≠ none := by
          cases hbb : fn.body <;> simp [hbb] at hb ⊢
        simp [execOp, ho, resolve, hq, Deferred.ofValue, invoke, callFunc, hfn, hb.2, hbn, hargs]
    · cases h
  · cases h

/-- A test on what an operation is guarded by. -/
def hwanted (ops : Array Oper) (fr : HFrame) (o : Oper) : Option Bool :=
  match o.guard with
  | none => some true
  | some (j, want) =>
    match ((ops[j]?).bind (·.dst)).bind fr.get with
    | some (.bool b) => some (b == want)
    | some (.tuple _) => some false
    | _ => none

theorem wanted_of {μ : Mu} {fr : HFrame} {a : Act} (hf : FRel μ fr a) {ops : Array Oper} {o : Oper} {b : Bool} (h : hwanted ops fr o = some b) : Region.wanted o (yielded ops a.tmps) = b := by
  unfold hwanted at h
  unfold Region.wanted
  split at h
  · rename_i hg; cases h; simp [hg]
  · rename_i j want hg
    split at h
    · rename_i b' hb
      cases h
      simp only [Option.bind_eq_some_iff] at hb
      obtain ⟨d, hd, hv⟩ := hb
      obtain ⟨o', ho', hd'⟩ := hd
      obtain ⟨v', hv', hr⟩ := hf.vals d _ hv
      cases hr
      have : a.tmps[d]? = some (.bool b') := hv'
      have hy : yielded ops a.tmps j = some b' := by simp [yielded, ho', hd', this]
      simp only [hg, hy]
      cases b' <;> cases want <;> rfl
    · rename_i cs hb
      cases h
      simp only [Option.bind_eq_some_iff] at hb
      obtain ⟨d, hd, hv⟩ := hb
      obtain ⟨o', ho', hd'⟩ := hd
      obtain ⟨v', hv', hr⟩ := hf.vals d _ hv
      have hy : yielded ops a.tmps j = none := by
        have : a.tmps[d]? = some v' := hv'
        cases hr
        simp [yielded, ho', hd', this]
      simp only [hg, hy]
      rfl
    · cases h

/-- A row of operations, in the order of the text. -/
def HOps (P : Program) (ops : Array Oper) : List Oper → HFrame → HHeap → (HFrame → HHeap → Prop) → Prop
  | [], fr, H, K => K fr H
  | o :: rest, fr, H, K =>
    (hwanted ops fr o = some false ∧ HOps P ops rest (hput fr o.dst undef) H K) ∨
    (hwanted ops fr o = some true ∧
      ((∃ v H', hop P fr H o.op = some (v, H') ∧ HOps P ops rest (hput fr o.dst v) H' K) ∨
       (∃ f args, hcallee P fr o.op = some (f, args) ∧ HCalls P f args H fun v H' => HOps P ops rest (hput fr o.dst v) H' K)))

/-- What a run leaves, said of a world. -/
def Lift (B : Nat) (μ : Mu) (H : HHeap) (w : World) (Q : Exit → HFrame → HHeap → Prop) : Exit → Act → World → Prop :=
  fun e a' w' => ∃ fr' H' μ', Q e fr' H' ∧ FRel μ' fr' a' ∧ Step B μ H w μ' H' w'

theorem Lift.mono {B : Nat} {μ : Mu} {H : HHeap} {w : World} {Q Q' : Exit → HFrame → HHeap → Prop} (h : ∀ e fr H, Q e fr H → Q' e fr H) {e : Exit} {a : Act} {w' : World} : Lift B μ H w Q e a w' → Lift B μ H w Q' e a w' :=
  fun ⟨fr, H', μ', q, f, s⟩ => ⟨fr, H', μ', h _ _ _ q, f, s⟩

theorem Lift.trans {B : Nat} {μ μ1 : Mu} {H H1 : HHeap} {w w1 : World} {Q : Exit → HFrame → HHeap → Prop} (s : Step B μ H w μ1 H1 w1) {e : Exit} {a : Act} {w' : World} : Lift B μ1 H1 w1 Q e a w' → Lift B μ H w Q e a w' :=
  fun ⟨fr, H', μ', q, f, s'⟩ => ⟨fr, H', μ', q, f, s.trans s'⟩

/-- One operation of the model, by what it comes to at the high level. -/
theorem oper_wp {B : Nat} {μ : Mu} {H : HHeap} {w : World} (h : Rel B μ H w) {fr : HFrame} {a : Act} (hf : FRel μ fr a) {o : Oper} {next : Act → World → Prop} {Q : Exit → Act → World → Prop}
    (hh : (∃ v H', hop P fr H o.op = some (v, H') ∧ ∀ μ' w' v', Step B μ H w μ' H' w' → VRel μ' v v' → next (a.put o.dst v') w') ∨
       (∃ f args R, hcallee P fr o.op = some (f, args) ∧ HCalls P f args H R ∧ ∀ v H' μ' w' v', R v H' → Step B μ H w μ' H' w' → VRel μ' v v' → next (a.put o.dst v') w')) : o.wp P a w next Q := by
  unfold Oper.wp
  rcases hh with ⟨v, H', h1, h2⟩ | ⟨f, args, R, h1, h2, h3⟩
  · obtain ⟨μ', w', v', s, hv, hr⟩ := sim_hop h hf h1
    rcases hr with hr | ⟨hr, hu⟩
    · rw [hr]; exact h2 μ' w' v' s hv
    · rw [hr]; subst hu; exact h2 μ' w' undef s hv
  · obtain ⟨args', ha, hr⟩ := callee_run hf h1 w
    rw [hr]
    refine (h2 B μ w args' h ha).mono fun e w' ⟨μ', v, H', v', he, r, hv, s⟩ => ?_
    subst he
    exact h3 v H' μ' w' v' r s hv

theorem hops_sound {ops : Array Oper} {Q : Exit → HFrame → HHeap → Prop} : ∀ (l : List Oper) (fr : HFrame) (H : HHeap), HOps P ops l fr H (Q .normal) → ∀ (B : Nat) (μ0 : Mu) (H0 : HHeap) (w0 : World) (μ : Mu) (w : World) (a : Act),
    Step B μ0 H0 w0 μ H w → FRel μ fr a → wpList P ops (Lift B μ0 H0 w0 Q) l a w
  | [], fr, H, h, B, μ0, H0, w0, μ, w, a, s, hf => ⟨fr, H, μ, h, hf, s⟩
  | o :: rest, fr, H, h, B, μ0, H0, w0, μ, w, a, s, hf => by
    unfold wpList
    rcases h with ⟨hw, h⟩ | ⟨hw, h⟩
    · rw [if_neg (by rw [wanted_of hf hw]; simp)]
      exact hops_sound rest _ H h B μ0 H0 w0 μ w _ s (hf.put _ (.of_flat rfl))
    · rw [if_pos (wanted_of hf hw)]
      refine .inl (oper_wp s.rel hf ?_)
      rcases h with ⟨v, H', h1, h2⟩ | ⟨f, args, h1, h2⟩
      · exact .inl ⟨v, H', h1, fun μ' w' v' s' hv => hops_sound rest _ H' h2 B μ0 H0 w0 μ' w' _ (s.trans s') ((hf.mono s'.sub).put _ hv)⟩
      · exact .inr ⟨f, args, _, h1, h2, fun v H' μ' w' v' r s' hv => hops_sound rest _ H' r B μ0 H0 w0 μ' w' _ (s.trans s') ((hf.mono s'.sub).put _ hv)⟩

/-- Code, over any world that meets the heap. -/
def Hwp (P : Program) (c : Code) (Q : Exit → HFrame → HHeap → Prop) (fr : HFrame) (H : HHeap) : Prop :=
  ∀ B μ w a, Rel B μ H w → FRel μ fr a → c.wp P (Lift B μ H w Q) a w

def HThen (next : HFrame → HHeap → Prop) (Q : Exit → HFrame → HHeap → Prop) : Exit → HFrame → HHeap → Prop
  | .normal, fr, H => next fr H
  | e, fr, H => Q e fr H

def HBlock (id : Nat) (Q : Exit → HFrame → HHeap → Prop) : Exit → HFrame → HHeap → Prop
  | .exit id', fr, H => if id' = id then Q .normal fr H else Q (.exit id') fr H
  | e, fr, H => Q e fr H

theorem Hwp.mono {c : Code} {Q Q' : Exit → HFrame → HHeap → Prop} {fr : HFrame} {H : HHeap} (hq : ∀ e fr H, Q e fr H → Q' e fr H) (h : Hwp P c Q fr H) : Hwp P c Q' fr H :=
  fun B μ w a hR hf => wp_mono (h B μ w a hR hf) fun _ _ _ => Lift.mono hq

theorem Hwp.ok {c : Code} {Q : Exit → HFrame → HHeap → Prop} {fr : HFrame} {H : HHeap} (h : H.Ok → Hwp P c Q fr H) : Hwp P c Q fr H :=
  fun B μ w a hR hf => h hR.ok B μ w a hR hf

theorem Hwp.seq {x y : Code} {Q : Exit → HFrame → HHeap → Prop} {fr : HFrame} {H : HHeap} (h : Hwp P x (HThen (Hwp P y Q) Q) fr H) : Hwp P (.seq x y) Q fr H := by
  intro B μ w a hR hf
  refine wp_seq (wp_mono (h B μ w a hR hf) ?_)
  rintro e a' w' ⟨fr', H', μ', q, f, s⟩
  cases e with
  | normal => exact wp_mono (q B μ' w' a' s.rel f) fun _ _ _ => Lift.trans s
  | _ => exact ⟨fr', H', μ', q, f, s⟩

theorem Hwp.block {id : Nat} {c : Code} {Q : Exit → HFrame → HHeap → Prop} {fr : HFrame} {H : HHeap} (h : Hwp P c (HBlock id Q) fr H) : Hwp P (.block id c) Q fr H := by
  intro B μ w a hR hf
  refine wp_block (wp_mono (h B μ w a hR hf) ?_)
  rintro e a' w' ⟨fr', H', μ', q, f, s⟩
  cases e with
  | exit id' =>
    simp only [Exit.inBlock, HBlock] at q ⊢
    split at q
    · rw [if_pos ‹_›]; exact ⟨fr', H', μ', q, f, s⟩
    · rw [if_neg ‹_›]; exact ⟨fr', H', μ', q, f, s⟩
  | _ => exact ⟨fr', H', μ', q, f, s⟩

theorem Hwp.cond {c : Operand} {x y : Code} {Q : Exit → HFrame → HHeap → Prop} {fr : HFrame} {H : HHeap} {b : Bool} (hb : hev fr c = some (.bool b)) (h1 : b = true → Hwp P x Q fr H) (h2 : b = false → Hwp P y Q fr H) : Hwp P (.cond c x y) Q fr H := by
  intro B μ w a hR hf
  have hr := hev_rel hf hb
  have he : a.eval c = .bool b := by generalize a.eval c = z at hr; cases hr; rfl
  exact wp_cond_split he (fun e => h1 e B μ w a hR hf) (fun e => h2 e B μ w a hR hf)

theorem Hwp.region {id : Nat} {ops : Array Oper} {Q : Exit → HFrame → HHeap → Prop} {fr : HFrame} {H : HHeap} (h : HOps P ops ops.toList fr H (Q .normal)) : Hwp P (.region id ops false) Q fr H :=
  fun B μ w a hR hf => wp_region_list (hops_sound ops.toList fr H h B μ H w μ w a (Step.refl hR) hf)

/-- A measure by which a loop ends need not be a function of the frame. -/
theorem wp_loop_rel {c : Code} {Q : Exit → Act → World → Prop} {a : Act} {w : World} (I : Nat → Act → World → Prop) (n : Nat) (h0 : I n a w)
    (round : ∀ n a w, I n a w → c.wp P (Exit.then (fun a' w' => ∃ m, m < n ∧ I m a' w') Q) a w) : (Code.loop c).wp P Q a w := by
  have least : ∀ a w, (∃ n, I n a w) → ∃ n, I n a w ∧ ∀ m, m < n → ¬ I m a w := by
    intro a w ⟨n, hn⟩
    induction n using Nat.strongRecOn with
    | _ n ih =>
      by_cases hm : ∃ m, m < n ∧ I m a w
      · obtain ⟨m, hm1, hm2⟩ := hm; exact ih m hm1 hm2
      · exact ⟨n, hn, fun m h1 h2 => hm ⟨m, h1, h2⟩⟩
  let ms : Act → World → Nat := fun a w => open Classical in if h : ∃ n, I n a w then Classical.choose (least a w h) else 0
  have hms : ∀ a w (h : ∃ n, I n a w), I (ms a w) a w ∧ ∀ m, I m a w → ms a w ≤ m := by
    intro a w h
    have hd : ms a w = Classical.choose (least a w h) := by simp only [ms, dif_pos h]
    have hs := Classical.choose_spec (least a w h)
    rw [hd]
    exact ⟨hs.1, fun m hm => Nat.le_of_not_lt fun hlt => hs.2 m hlt hm⟩
  refine wp_loop (fun a w => ∃ n, I n a w) ms ⟨n, h0⟩ fun a w hI => ?_
  obtain ⟨k1, k2⟩ := hms a w hI
  refine wp_mono (round _ a w k1) ?_
  intro e a' w' q
  cases e with
  | normal =>
    obtain ⟨m, hm, hI'⟩ := q
    exact ⟨⟨m, hI'⟩, Nat.lt_of_le_of_lt ((hms a' w' ⟨m, hI'⟩).2 m hI') hm⟩
  | _ => exact q

/-- A loop: what holds at each head, and a number that goes down. -/
theorem Hwp.loop {c : Code} {Q : Exit → HFrame → HHeap → Prop} {fr : HFrame} {H : HHeap} (I : Nat → HFrame → HHeap → Prop) (n : Nat) (h0 : I n fr H)
    (round : ∀ n fr H, I n fr H → Hwp P c (HThen (fun fr' H' => ∃ m, m < n ∧ I m fr' H') Q) fr H) : Hwp P (.loop c) Q fr H := by
  intro B μ w a hR hf
  refine wp_loop_rel (fun n a' w' => ∃ fr' H' μ', I n fr' H' ∧ FRel μ' fr' a' ∧ Step B μ H w μ' H' w') n ⟨fr, H, μ, h0, hf, Step.refl hR⟩ ?_
  rintro n a' w' ⟨fr', H', μ', hI, hf', s⟩
  refine wp_mono (round n fr' H' hI B μ' w' a' s.rel hf') ?_
  rintro e a2 w2 ⟨fr2, H2, μ2, q, f2, s2⟩
  cases e with
  | normal =>
    obtain ⟨m, hm, hI2⟩ := q
    exact ⟨m, hm, fr2, H2, μ2, hI2, f2, s.trans s2⟩
  | _ => exact ⟨fr2, H2, μ2, q, f2, s.trans s2⟩

/-- The results of a function. -/
def hresult (P : Program) (fr : HFrame) (H : HHeap) : ResultVar → Option Value
  | .tmp t => fr.get t
  | .cell a t => match fr.get a with
    | some p => hload P H t p
    | none => none

def hresults (P : Program) (fr : HFrame) (H : HHeap) : List ResultVar → Option (List Value)
  | [] => some []
  | r :: rs => (hresult P fr H r).bind fun v => (hresults P fr H rs).map fun vs => v :: vs

def htuple : List Value → Value
  | [v] => v
  | vs => .tuple vs.toArray

/-- How the model reads one result. -/
def resVar (tmps : Array Value) : ResultVar → Sem Value
  | .tmp t => pure (tmps.getD t undef)
  | .cell a t => do loadVar t (← asAddr (tmps.getD a undef))

theorem results_eq (fn : Func) (tmps : Array Value) : results fn tmps = (do let vs ← fn.results.mapM (resVar tmps); pure (if h : vs.size = 1 then vs[0] else .tuple vs)) := by
  rfl

theorem run_results {B : Nat} {μ : Mu} {H : HHeap} {w : World} (h : Rel B μ H w) {fr : HFrame} {a : Act} (hf : FRel μ fr a) : ∀ (rs : List ResultVar) (vs : List Value), hresults P fr H rs = some vs →
    ∃ vs', VRels μ vs vs' ∧ (rs.mapM (m := Sem) (resVar a.tmps)).run P w = .ok vs' w
  | [], vs, e => by simp [hresults] at e; subst e; exact ⟨[], .nil, rfl⟩
  | r :: rs, vs, e => by
    simp only [hresults, Option.bind_eq_some_iff, Option.map_eq_some_iff] at e
    obtain ⟨v, hv, vs1, hvs, e⟩ := e
    subst e
    obtain ⟨vs', h1, h2⟩ := run_results h hf rs vs1 hvs
    have hget : ∀ (t : Nat) (u : Value), fr.get t = some u → VRel μ u (a.tmps.getD t undef) := fun t u e => by
      have := hev_rel hf (x := .tmp t) (v := u) e
      exact this
    cases r with
    | tmp t =>
      refine ⟨a.tmps.getD t undef :: vs', .cons _ _ _ _ (hget t v hv) h1, ?_⟩
      simp only [List.mapM_cons, resVar, Sem.run_bind, Sem.run_pure, Result.andThen_ok, h2]
    | cell ad t =>
      simp only [hresult] at hv
      split at hv
      · rename_i p hp
        have hr := hget ad p hp
        obtain ⟨u', k1, k2⟩ := sim_load (P := P) h hv hr
        have hpq : ∃ x, a.tmps.getD ad undef = .pointer (some x) := by
          generalize a.tmps.getD ad undef = q at hr
          unfold hload at hv
          split at hv
          · cases hr; exact ⟨_, rfl⟩
          · cases hv
        obtain ⟨x, hx⟩ := hpq
        have k1' : (loadVar t x).run P w = .ok u' w := by simpa [Instr.loadAt, Instr.sureAddr, hx] using k1
        have ka : (asAddr (a.tmps.getD ad undef)).run P w = .ok x w := by rw [hx]; rfl
        refine ⟨u' :: vs', .cons _ _ _ _ k2 h1, ?_⟩
        simp only [List.mapM_cons, resVar, Sem.run_bind, Sem.run_pure, Result.andThen_ok, ka, k1', h2]
      · cases hv

/-- The frame at a function's head: its arguments. -/
def hframe0 (args : List Value) (n : Nat) : HFrame := ⟨args.length + (n - args.length), fun t => args[t]?⟩

/-- A FUNCTION, BY ITS BODY. -/
theorem HCalls.of_body {f : FuncId} {fn : Func} {c : Code} {args : List Value} {H : HHeap} {R : Value → HHeap → Prop} (hfn : P.funcs[f]? = some fn) (hc : fn.body = some c)
    (h : Hwp P c (fun e fr H' => (match e with | .normal | .ret => True | _ => False) ∧ ∃ vs, hresults P fr H' fn.results.toList = some vs ∧ R (htuple vs) H')
      (hframe0 args fn.ntmps) H) : HCalls P f args H R := by
  intro B μ w args' hR hv
  refine calls_of_wp hfn hc ?_
  have hf : FRel μ (hframe0 args fn.ntmps) { tmps := args'.toArray ++ Array.replicate (fn.ntmps - args'.toArray.size) undef, defers := [] } := by
    have hl := hv.length
    refine ⟨by simp [hframe0, hl], fun t v e => ?_, rfl⟩
    obtain ⟨v', h1, h2⟩ := hv.get t v e
    refine ⟨v', ?_, h2⟩
    have hlt : t < args'.length := by
      rcases Nat.lt_or_ge t args'.length with hh | hh
      · exact hh
      · rw [List.getElem?_eq_none hh] at h1; cases h1
    rw [Array.getElem?_append_left (by simpa using hlt)]
    simpa using h1
  refine wp_mono (h B μ w _ hR hf) ?_
  rintro e a' w' ⟨fr', H', μ', ⟨q1, vs, q2, q3⟩, f', s⟩
  obtain ⟨vs', k1, k2⟩ := run_results s.rel f' _ _ q2
  have hres : (results fn a'.tmps).run P w' = .ok (htuple vs') w' := by
    rw [results_eq, Sem.run_bind, Array.mapM_eq_mapM_toList, Sem.run_map]
    rw [k2]
    simp only [Result.andThen_ok, Sem.run_pure]
    cases vs' with
    | nil => rfl
    | cons x xs => cases xs with
      | nil => rfl
      | cons y ys => simp [htuple]
  have hrel : VRel μ' (htuple vs) (htuple vs') := by
    cases k1 with
    | nil => exact .tuple [] [] .nil
    | cons _ _ _ _ h1 h2 => cases h2 with
      | nil => exact h1
      | cons _ _ _ _ h3 h4 => exact .tuple _ _ (.cons _ _ _ _ h1 (.cons _ _ _ _ h3 h4))
  cases e with
  | normal => exact ⟨f'.defers, _, hres, μ', _, H', _, rfl, q3, hrel, s⟩
  | ret => exact ⟨f'.defers, _, hres, μ', _, H', _, rfl, q3, hrel, s⟩
  | _ => exact absurd q1 (by simp)

end Go.HL
