/-
  A way to run code on given data inside the kernel, part 11: rows, code, calls, worked out once.
-/
import Derived.Test.YtakjligkeplohaaGreatDoorK10
namespace Go.HL
open Go.RowKit
set_option linter.unusedSimpArgs false
set_option linter.unusedVariables false

variable {P : Program}

noncomputable def kputB (sz : Nat) (dst : Option Tmp) : Bx KPut :=
  match dst with
  | none => .mk kputNone
  | some d => Bool.rec (.mk kputBad) (Bool.rec (.mk kputBad) (tput (path d) fun g => .mk fun v => g (some v)) (Nat.ble (Nat.succ d) sz)) (placed d)
theorem kputB_eq (sz : Nat) (dst : Option Tmp) : kputB sz dst = .mk (kput sz dst) := by
  cases dst with
  | none => rfl
  | some d =>
    have e1 : kputB sz (some d) = Bool.rec (.mk kputBad) (Bool.rec (.mk kputBad) (tput (path d) fun g => .mk fun v => g (some v)) (Nat.ble (Nat.succ d) sz)) (placed d) := rfl
    have e2 : kput sz (some d) = Bool.rec kputBad (Bool.rec kputBad (kputAt (path d)) (Nat.ble (Nat.succ d) sz)) (placed d) := rfl
    rw [e1, e2, tput_eq]
    have e3 : (fun v => tputOf (path d) (some v)) = kputAt (path d) := by
      funext v fr k
      exact (Tr.insK_eq _ _ _ _).symm
    rw [e3]
    cases placed d <;> cases Nat.ble (Nat.succ d) sz <;> rfl
/-- A function that may be called; with no captured words mostly. -/
noncomputable def kisGoB (P : Program) (g : FuncId) : Bx Bool := Bool.rec (.mk false) (.mk true) (isGo P g)
theorem kisGoB_eq (g : FuncId) : kisGoB P g = .mk (isGo P g) := by unfold kisGoB; cases isGo P g <;> rfl
noncomputable def kfunVB (P : Program) (fv : Value) (k : FuncId → List Value → KX) : KX :=
  match fv with
  | .func (.func g) first cap => Bool.rec .bad ((kisGoB P g).on fun b => Bool.rec .bad (k g cap.toList) b) (Nat.beq first.size 0)
  | _ => .bad
theorem kfunVB_eq (fv : Value) (k : FuncId → List Value → KX) : kfunVB P fv k = kfunV P fv k := by
  cases fv with
  | func fn first cap =>
    cases fn with
    | func g =>
      show (Bool.rec (motive := fun _ => KX) KX.bad ((kisGoB P g).on fun b => Bool.rec (motive := fun _ => KX) KX.bad (k g cap.toList) b) (Nat.beq first.size 0)) = (Bool.rec (motive := fun _ => KX) KX.bad (Bool.rec (motive := fun _ => KX) KX.bad (k g cap.toList) (isGo P g)) (Nat.beq first.size 0))
      rw [kisGoB_eq, Bx.on_mk]
    | _ => rfl
  | _ => rfl
noncomputable def kCallVG (P : Program) (f : KGet) (args : List KGet) (call : KCall) : KOp := fun fr n h k =>
  f fr fun fv => kfunVB P fv fun g cap => kevsG args fr fun vs => krK (call g (vs ++ cap) n h) k
noncomputable def kcallB1 (P : Program) (f : Operand) (args : List Operand) : Bx (KCall → KOp) := (kevB f).on fun g => (kevsB args).on fun gs => .mk (kCallVG P g gs)
theorem kcallB1_eq (f : Operand) (args : List Operand) : kcallB1 P f args = .mk (kCallV P f args) := by
  unfold kcallB1
  rw [kevB_eq, Bx.on_mk, kevsB_eq, Bx.on_mk]
  unfold kCallVG kCallV
  rw [kevsG_eq]
  congr 1
  funext call fr n h k
  congr 1
  funext fv
  rw [kfunVB_eq]
noncomputable def kdoB (P : Program) (op : Op) : Bx (KCall → KOp) :=
  match op with
  | .call ⟨.value f, args, _⟩ => kcallB1 P f args.toList
  | op => (kdispB P op).on fun g => .mk fun _ => g
theorem kdoB_eq (op : Op) : kdoB P op = .mk (kdo P op) := by
  have key : ∀ op, (kdispB P op).on (fun g => Bx.mk fun _ : KCall => g) = .mk fun _ => kdisp P op := fun op => by rw [kdispB_eq, Bx.on_mk]
  cases op with
  | call c =>
    obtain ⟨cal, args, ts⟩ := c
    cases cal with
    | value f => exact kcallB1_eq _ _
    | _ => simp only [kdoB, kdo]; exact key _
  | _ => simp only [kdoB, kdo]; exact key _
noncomputable def kdoXB (P : Program) (op : Op) : Bx (KCall → KOp) :=
  match op with
  | .call ⟨.builtin .cap, ⟨[x]⟩, ⟨[t]⟩⟩ => .mk fun _ => kCap P t x
  | .call ⟨.builtin .append, ⟨[s, x]⟩, ⟨[st, xt]⟩⟩ => Bool.rec (motive := fun _ => Bx (KCall → KOp)) (kdoB P (.call ⟨.builtin .append, ⟨[s, x]⟩, ⟨[st, xt]⟩⟩)) (.mk fun _ => kAppMake P st xt s x) (apElem P st xt).isSome
  | .call ⟨.value (.func g), args, ts⟩ => Nat.rec (motive := fun _ => Bx (KCall → KOp)) (kdoB P (.call ⟨.value (.func g), args, ts⟩)) (fun m _ => .mk fun _ => kExt (Nat.succ m) args.toList) (extKind P g)
  | op => kdoB P op
theorem kdoXB_eq (op : Op) : kdoXB P op = .mk (kdoX P op) := by
  generalize hg : kdoX P op = g
  unfold kdoX at hg
  split at hg
  · subst hg; rfl
  · rename_i s x st xt
    subst hg
    show Bool.rec (motive := fun _ => Bx (KCall → KOp)) (kdoB P (.call ⟨.builtin .append, ⟨[s, x]⟩, ⟨[st, xt]⟩⟩)) (.mk fun _ => kAppMake P st xt s x) (apElem P st xt).isSome = _
    cases (apElem P st xt).isSome with
    | false => exact kdoB_eq _
    | true => rfl
  · rename_i g' args ts
    subst hg
    show Nat.rec (motive := fun _ => Bx (KCall → KOp)) (kdoB P (.call ⟨.value (.func g'), args, ts⟩)) (fun m _ => .mk fun _ => kExt (Nat.succ m) args.toList) (extKind P g') = _
    cases extKind P g' with
    | zero => exact kdoB_eq _
    | succ m => rfl
  · rename_i h1 h0 h2
    subst hg
    have : kdoXB P op = kdoB P op := by
      unfold kdoXB
      split
      · exact absurd rfl (h1 _ _)
      · exact absurd rfl (h0 _ _ _ _)
      · exact absurd rfl (h2 _ _ _)
      · rfl
    rw [this, kdoB_eq]
noncomputable def kguardSlotB (d : Option Tmp) : Bx KGet := match d with | some d => kevB (.tmp d) | none => .mk kbad2
theorem kguardSlotB_eq (d : Option Tmp) : kguardSlotB d = .mk (kguardSlot d) := by
  cases d with
  | none => rfl
  | some d => exact kevB_eq (.tmp d)
noncomputable def koneB (P : Program) (sz : Nat) (ops : Array Oper) (o : Oper) (rest : Bx KDyn) : Bx KDyn :=
  rest.on fun rest => (kdoXB P o.op).on fun g => (kputB sz o.dst).on fun put =>
  match o.guard with
  | none => .mk (kplain g put rest)
  | some (j, want) => (kguardSlotB ((ops[j]?).bind (·.dst))).on fun slot => .mk (kguarded slot want g put rest)
theorem koneB_eq (sz : Nat) (ops : Array Oper) (o : Oper) (rest : KDyn) : koneB P sz ops o (.mk rest) = .mk (kone P sz ops o rest) := by
  unfold koneB kone
  rw [Bx.on_mk, kdoXB_eq, Bx.on_mk, kputB_eq, Bx.on_mk]
  generalize o.guard = u
  rcases u with _ | ⟨j, want⟩
  · rfl
  · show (kguardSlotB _).on _ = _
    rw [kguardSlotB_eq]; rfl
noncomputable def kopsB (P : Program) (sz : Nat) (ops : Array Oper) (l : List Oper) : Bx KDyn :=
  List.rec (motive := fun _ => Bx KDyn) (.mk fun _ _ fr n h => .ok .normal fr n h) (fun o _ ih => koneB P sz ops o ih) l
theorem kopsB_eq (sz : Nat) (ops : Array Oper) : ∀ (l : List Oper), kopsB P sz ops l = .mk (kops P sz ops l)
  | [] => rfl
  | o :: l => by
    show koneB P sz ops o (kopsB P sz ops l) = _
    rw [kopsB_eq sz ops l, koneB_eq]; rfl

/-- Drawn rows. -/
noncomputable def klate1B (P : Program) (l : KLate) (n : Nat) (h : Tr HObj) (k : KX) : KX :=
  Bool.rec .bad ((kdispB P l.o.op).on fun g => g l.fr n h fun v _ _ => Bool.rec .bad k (eqV v l.v)) (quiet l.o.op)
noncomputable def klateB (P : Program) (ms : List Nat) (i : Nat) (n : Nat) (h : Tr HObj) (l : List KLate) (k : KX) : KX :=
  List.rec (motive := fun _ => KX) k (fun x _ ih => Bool.rec (klate1B P x n h ih) ih (anc ms x.idx i)) l
theorem klateB_eq (ms : List Nat) (i : Nat) (n : Nat) (h : Tr HObj) (k : KX) : ∀ (l : List KLate), klateB P ms i n h l k = klate P ms i n h l k
  | [] => rfl
  | x :: l => by
    show (Bool.rec (motive := fun _ => KX) (klate1B P x n h (klateB P ms i n h l k)) (klateB P ms i n h l k) (anc ms x.idx i)) = (Bool.rec (motive := fun _ => KX) (klate1 P x n h (klate P ms i n h l k)) (klate P ms i n h l k) (anc ms x.idx i))
    rw [klateB_eq ms i n h k l]
    unfold klate1B klate1
    rw [kdispB_eq, Bx.on_mk]
noncomputable def kdE1B (P : Program) (sz : Nat) (ms : List Nat) (i : Nat) (g : KCall → KOp) (put : KPut) (next : KDraw) : KDraw := fun n0 late call f fr n h =>
  g call fr n h fun v n' h' => klateB P ms i n' h' late (put v fr fun fr' => next n0 late call f fr' n' h')
theorem kdE1B_eq (sz : Nat) (ms : List Nat) (i : Nat) (g : KCall → KOp) (put : KPut) (next : KDraw) : kdE1B P sz ms i g put next = kdE1 P sz ms i g put next := by
  unfold kdE1B kdE1
  funext n0 late call f fr n h
  congr 1
  funext v n' h'
  rw [klateB_eq]
noncomputable def kdGB (ops : Array Oper) (o : Oper) (yes no : KDraw) : Bx KDraw :=
  match o.guard with
  | none => .mk yes
  | some (j, want) => (kguardSlotB ((ops[j]?).bind (·.dst))).on fun slot => .mk (kdGuard slot want yes no)
theorem kdGB_eq (ops : Array Oper) (o : Oper) (yes no : KDraw) : kdGB ops o yes no = .mk (kdG ops o yes no) := by
  unfold kdGB kdG
  generalize o.guard = u
  rcases u with _ | ⟨j, want⟩
  · rfl
  · show (kguardSlotB _).on _ = _
    rw [kguardSlotB_eq]; rfl
noncomputable def kdQB (P : Program) (sz : Nat) (ops : Array Oper) (i : Nat) (next : Bx KDraw) : Bx KDraw :=
  next.on fun next =>
  match ops[i]? with
  | some o => (kdispB P o.op).on fun g => (kputB sz o.dst).on fun put => kdGB ops o (kdQ1 P sz i o g put next) (kdSkip put next)
  | none => .mk kdBad
theorem kdQB_eq (sz : Nat) (ops : Array Oper) (i : Nat) (next : KDraw) : kdQB P sz ops i (.mk next) = .mk (kdQ P sz ops i next) := by
  unfold kdQB kdQ
  rw [Bx.on_mk]
  generalize ops[i]? = u
  rcases u with _ | o
  · rfl
  · show (kdispB P o.op).on _ = _
    rw [kdispB_eq, Bx.on_mk, kputB_eq, Bx.on_mk, kdGB_eq]
noncomputable def kdEB (P : Program) (sz : Nat) (ops : Array Oper) (ms : List Nat) (i : Nat) (next : Bx KDraw) : Bx KDraw :=
  next.on fun next =>
  match ops[i]? with
  | some o => (kdoB P o.op).on fun g => (kputB sz o.dst).on fun put => kdGB ops o (kdE1B P sz ms i g put next) (kdSkip put next)
  | none => .mk kdBad
theorem kdEB_eq (sz : Nat) (ops : Array Oper) (ms : List Nat) (i : Nat) (next : KDraw) : kdEB P sz ops ms i (.mk next) = .mk (kdE P sz ops ms i next) := by
  unfold kdEB kdE
  rw [Bx.on_mk]
  generalize ops[i]? = u
  rcases u with _ | o
  · rfl
  · show (kdoB P o.op).on _ = _
    rw [kdoB_eq, Bx.on_mk, kputB_eq, Bx.on_mk, kdGB_eq, kdE1B_eq]
noncomputable def kdAltB (other : WT) (a b : Bx KDraw) : Bx KDraw := match other with | .stop => a | _ => a.on fun a => b.on fun b => .mk (kdMeet a b)
theorem kdAltB_eq (other : WT) (a b : KDraw) : kdAltB other (.mk a) (.mk b) = .mk (kdAlt other a b) := by cases other <;> rfl
noncomputable def kdB (P : Program) (sz : Nat) (ops : Array Oper) (ms : List Nat) (t : WT) : Bx KDraw :=
  WT.rec (motive := fun _ => Bx KDraw) (.mk fun _ _ _ _ fr n h => .ok .normal fr n h) (fun i _ ih => kdQB P sz ops i ih) (fun i _ other ih ih2 => kdAltB other (kdEB P sz ops ms i ih) ih2) (.mk kdBad) t
theorem kdB_eq (sz : Nat) (ops : Array Oper) (ms : List Nat) : ∀ (t : WT), kdB P sz ops ms t = .mk (kd P sz ops ms t) := by
  intro t
  induction t with
  | done => rfl
  | stop => rfl
  | op i t ih =>
    show kdQB P sz ops i (kdB P sz ops ms t) = _
    rw [ih, kdQB_eq]; rfl
  | eff i t other ih ih2 =>
    show kdAltB other (kdEB P sz ops ms i (kdB P sz ops ms t)) (kdB P sz ops ms other) = _
    rw [ih, ih2, kdEB_eq, kdAltB_eq]; rfl
noncomputable def fnats {β : Type} (l : List Nat) : (List Nat → β) → β :=
  List.rec (motive := fun _ => (List Nat → β) → β) (fun k => k []) (fun x _ ih k => forceNat x fun x => ih fun r => k (x :: r)) l
theorem fnats_eq {β : Type} : ∀ (l : List Nat) (k : List Nat → β), fnats l k = k l
  | [], _ => rfl
  | x :: l, k => by
    show forceNat x (fun x => fnats l fun r => k (x :: r)) = _
    rw [forceNat_eq, fnats_eq l]
noncomputable def kdrawRun (g : KDraw) : KDyn := fun call f fr n h => g n [] call f fr n h
noncomputable def kdrawB (P : Program) (sz : Nat) (ops : Array Oper) : Bx KDyn :=
  fnats (ancMasks ops) fun ms => (kdB P sz ops ms (mkTree ops (Nat.succ ops.size) [])).on fun g => .mk (kdrawRun g)
theorem kdrawB_eq (sz : Nat) (ops : Array Oper) : kdrawB P sz ops = .mk (kdraw P sz ops) := by
  unfold kdrawB kdraw
  rw [fnats_eq, kdB_eq, Bx.on_mk]
  rfl
noncomputable def kregionB (P : Program) (sz : Nat) (ops : Array Oper) (draw : Bool) : Bx KDyn := Bool.rec (kopsB P sz ops ops.toList) (kdrawB P sz ops) draw
theorem kregionB_eq (sz : Nat) (ops : Array Oper) (draw : Bool) : kregionB P sz ops draw = .mk (kregion P sz ops draw) := by
  cases draw
  · exact kopsB_eq _ _ _
  · exact kdrawB_eq _ _
/-- Code. -/
noncomputable def kcondG (c : KGet) (x y : KDyn) : KDyn := fun call f fr n h => c fr fun v => kboolV v (x call f fr n h) (y call f fr n h)
noncomputable def kcondB (c : Operand) (x y : Bx KDyn) : Bx KDyn := (kevB c).on fun c => x.on fun x => y.on fun y => .mk (kcondG c x y)
noncomputable def kcodeB (P : Program) (sz : Nat) (c : Code) : Bx KDyn :=
  Code.rec (motive := fun _ => Bx KDyn) (.mk kskip) (fun _ ops draw => kregionB P sz ops draw) (fun _ _ a b => a.on fun a => b.on fun b => .mk (kseq a b)) (fun c _ _ x y => kcondB c x y) (fun id _ a => a.on fun a => .mk (kblock id a)) (fun _ a => a.on fun a => .mk (kloop a))
    (fun _ _ _ _ _ _ => .mk kbadDyn) (fun id => .mk (kexit id)) (fun _ a => a.on fun a => .mk (kscope a)) (fun _ => .mk kskip) (fun _ => .mk kbadDyn) (.mk kret) (fun _ => .mk kbadDyn) c
theorem kcodeB_eq (sz : Nat) (c : Code) : kcodeB P sz c = .mk (kcode P sz c) := by
  induction c with
  | region id ops draw => exact kregionB_eq _ _ _
  | seq a b iha ihb =>
    show (kcodeB P sz a).on (fun a => (kcodeB P sz b).on fun b => Bx.mk (kseq a b)) = _
    rw [iha, ihb]; rfl
  | cond c x y ihx ihy =>
    show kcondB c (kcodeB P sz x) (kcodeB P sz y) = _
    unfold kcondB
    rw [ihx, ihy, kevB_eq]; rfl
  | block id c ih =>
    show (kcodeB P sz c).on (fun a => Bx.mk (kblock id a)) = _
    rw [ih]; rfl
  | scope c ih =>
    show (kcodeB P sz c).on (fun a => Bx.mk (kscope a)) = _
    rw [ih]; rfl
  | loop c ih =>
    show (kcodeB P sz c).on (fun a => Bx.mk (kloop a)) = _
    rw [ih]; rfl
  | _ => rfl
/-- Functions. -/
abbrev KFun := KCall → Nat → List Value → Nat → Tr HObj → KR
noncomputable def kbodyB (P : Program) (fn : Func) : Bx KFun :=
  match fn.body with
  | some c => (kcodeB P fn.ntmps c).on fun g => forceNat fn.ntmps fun sz => .mk (kfun P sz fn.results.toList g)
  | none => .mk kbadFun
theorem kbodyB_eq (fn : Func) : kbodyB P fn = .mk (kbody P fn) := by
  unfold kbodyB kbody
  generalize fn.body = u
  rcases u with _ | c
  · rfl
  · show (kcodeB P fn.ntmps c).on (fun g => forceNat fn.ntmps fun sz => Bx.mk (kfun P sz fn.results.toList g)) = _
    rw [kcodeB_eq, Bx.on_mk, forceNat_eq]
noncomputable def kfnB (P : Program) (f : FuncId) : Bx KFun :=
  match P.funcs[f]? with
  | some fn => kbodyB P fn
  | none => .mk kbadFun
theorem kfnB_eq (f : FuncId) : kfnB P f = .mk (kfn P f) := by
  unfold kfnB kfn
  generalize P.funcs[f]? = u
  rcases u with _ | fn
  · rfl
  · exact kbodyB_eq _
noncomputable def kcallB (P : Program) (f : Nat) (d : Nat) : KCall := Nat.rec (motive := fun _ => KCall) (fun _ _ _ _ => .bad) (fun _ ih g args n h => (kfnB P g).on fun F => F ih f args n h) d
theorem kcallB_eq (f : Nat) : ∀ (d : Nat), kcallB P f d = kcall P f d
  | 0 => rfl
  | d + 1 => by
    funext g args n h
    show ((kfnB P g).on fun F => F (kcallB P f d) f args n h) = kfn P g (kcall P f d) f args n h
    rw [kfnB_eq, Bx.on_mk, kcallB_eq f d]
theorem kcallB_ok (hP : AllOrd P) (f d : Nat) : CallOk P (kcallB P f d) := by rw [kcallB_eq]; exact kcall_ok hP f d
end Go.HL
