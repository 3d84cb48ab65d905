/-
  A high level over the model, part 13: code as one relation that simp unfolds, step by step, as far as it is decided.
-/
import Derived.Test.YtaghhialaplgoaaGreatDoorPFH12
set_option linter.unusedVariables false
set_option linter.unusedSimpArgs false
namespace Go.HL
open Go.RowKit

variable {P : Program}

/-- What comes behind a call. -/
def HLater (R : Value → HHeap → Prop) : Value → HHeap → Prop := R

/-- An operation's outcome, and what comes then. -/
def HGo (o : Option (Value × HHeap)) (K : Value → HHeap → Prop) : Prop :=
  match o with
  | some (v, H) => K v H
  | none => False
theorem HGo_some (v : Value) (H : HHeap) (K : Value → HHeap → Prop) : HGo (some (v, H)) K = K v H := by unfold HGo; rfl

def HWant (b : Option Bool) (no : Value → HHeap → Prop) (yes : HHeap → Prop) (H : HHeap) : Prop :=
  match b with
  | some true => yes H
  | some false => no undef H
  | none => False
theorem HWant_true (no : Value → HHeap → Prop) (yes : HHeap → Prop) (H : HHeap) : HWant (some true) no yes H = yes H := by unfold HWant; rfl
theorem HWant_false (no : Value → HHeap → Prop) (yes : HHeap → Prop) (H : HHeap) : HWant (some false) no yes H = no undef H := by unfold HWant; rfl

def HCallee (P : Program) (c : Option (FuncId × List Value)) (K : Value → HHeap → Prop) (o : Option (Value × HHeap)) (H : HHeap) : Prop :=
  match c with
  | some (f, args) => HCalls P f args H (HLater K)
  | none => HGo o K
theorem HCallee_some (f : FuncId) (args : List Value) (K : Value → HHeap → Prop) (o : Option (Value × HHeap)) (H : HHeap) : HCallee P (some (f, args)) K o H = HCalls P f args H (HLater K) := by unfold HCallee; rfl
theorem HCallee_none (K : Value → HHeap → Prop) (o : Option (Value × HHeap)) (H : HHeap) : HCallee P none K o H = HGo o K := by unfold HCallee; rfl

/-- A row of operations, for simp: nothing that comes later is unfolded ahead of its time. -/
def HRow (P : Program) (ops : Array Oper) (K : HFrame → HHeap → Prop) : List Oper → HFrame → HHeap → Prop
  | [], fr, H => K fr H
  | o :: rest, fr, H => HWant (hwanted ops fr o) (fun v H' => HRow P ops K rest (hput fr o.dst v) H')
      (fun H => HCallee P (hcallee P fr o.op) (fun v H' => HRow P ops K rest (hput fr o.dst v) H') (hop P fr H o.op) H) H

def HNext (P : Program) (ops : Array Oper) (K : HFrame → HHeap → Prop) (rest : List Oper) (dst : Option Tmp) (fr : HFrame) (v : Value) (H : HHeap) : Prop := HRow P ops K rest (hput fr dst v) H
def HDo (P : Program) (ops : Array Oper) (K : HFrame → HHeap → Prop) (rest : List Oper) (dst : Option Tmp) (op : Op) (fr : HFrame) (H : HHeap) : Prop :=
  HCallee P (hcallee P fr op) (HNext P ops K rest dst fr) (hop P fr H op) H
theorem HRow_nil (ops : Array Oper) (K : HFrame → HHeap → Prop) (fr : HFrame) (H : HHeap) : HRow P ops K [] fr H = K fr H := by unfold HRow; rfl
theorem HRow_cons (ops : Array Oper) (K : HFrame → HHeap → Prop) (dst : Option Tmp) (op : Op) (ty : TypeId) (pos : String) (af : Array Edge) (g : Option (Nat × Bool)) (rest : List Oper) (fr : HFrame) (H : HHeap) :
    HRow P ops K (⟨dst, op, ty, pos, af, g⟩ :: rest) fr H = HWant (hwanted ops fr ⟨dst, op, ty, pos, af, g⟩) (HNext P ops K rest dst fr) (HDo P ops K rest dst op fr) H := by unfold HRow; rfl
theorem HNext_apply (ops : Array Oper) (K : HFrame → HHeap → Prop) (rest : List Oper) (dst : Option Tmp) (fr : HFrame) (v : Value) (H : HHeap) : HNext P ops K rest dst fr v H = HRow P ops K rest (hput fr dst v) H := by unfold HNext; rfl
theorem HDo_apply (ops : Array Oper) (K : HFrame → HHeap → Prop) (rest : List Oper) (dst : Option Tmp) (op : Op) (fr : HFrame) (H : HHeap) :
    HDo P ops K rest dst op fr H = HCallee P (hcallee P fr op) (HNext P ops K rest dst fr) (hop P fr H op) H := by unfold HDo; rfl
theorem HLater_apply (K : Value → HHeap → Prop) (v : Value) (H : HHeap) : HLater K v H = K v H := by unfold HLater; rfl

theorem HRow.sound {ops : Array Oper} {K : HFrame → HHeap → Prop} : ∀ (l : List Oper) (fr : HFrame) (H : HHeap), HRow P ops K l fr H → HOps P ops l fr H K
  | [], fr, H, h => h
  | o :: rest, fr, H, h => by
    simp only [HRow, HWant] at h
    split at h
    · refine .inr ⟨‹_›, ?_⟩
      simp only [HCallee] at h
      split at h
      · exact .inr ⟨_, _, ‹_›, h.mono fun v H' r => HRow.sound rest _ H' r⟩
      · simp only [HGo] at h
        split at h
        · exact .inl ⟨_, _, ‹_›, HRow.sound rest _ _ h⟩
        · exact h.elim
    · exact .inl ⟨‹_›, HRow.sound rest _ H h⟩
    · exact h.elim

/-- A test that may be open. -/
def HIf (b : Bool) (X Y : HFrame → HHeap → Prop) (fr : HFrame) (H : HHeap) : Prop :=
  match b with
  | true => X fr H
  | false => Y fr H
theorem HIf.of {b : Bool} {X Y : HFrame → HHeap → Prop} {fr : HFrame} {H : HHeap} (h1 : b = true → X fr H) (h2 : b = false → Y fr H) : HIf b X Y fr H := by cases b <;> simp_all [HIf]
theorem HIf_true (X Y : HFrame → HHeap → Prop) (fr : HFrame) (H : HHeap) : HIf true X Y fr H = X fr H := by simp [HIf]
theorem HIf_false (X Y : HFrame → HHeap → Prop) (fr : HFrame) (H : HHeap) : HIf false X Y fr H = Y fr H := by simp [HIf]

def HTest (v : Option Value) (X Y : HFrame → HHeap → Prop) (fr : HFrame) (H : HHeap) : Prop :=
  match v with
  | some (.bool b) => HIf b X Y fr H
  | _ => False
theorem HTest_bool (b : Bool) (X Y : HFrame → HHeap → Prop) (fr : HFrame) (H : HHeap) : HTest (some (.bool b)) X Y fr H = HIf b X Y fr H := by unfold HTest; rfl

/-- Code, for simp. -/
def HW (P : Program) : Code → (Exit → HFrame → HHeap → Prop) → HFrame → HHeap → Prop
  | .skip, Q, fr, H => Q .normal fr H
  | .region id ops draw, Q, fr, H => match draw with
    | true => Hwp P (.region id ops true) Q fr H
    | false => HRow P ops (Q .normal) ops.toList fr H
  | .seq a b, Q, fr, H => HW P a (HThen (HW P b Q) Q) fr H
  | .cond c x y, Q, fr, H => HTest (hev fr c) (HW P x Q) (HW P y Q) fr H
  | .block id c, Q, fr, H => HW P c (HBlock id Q) fr H
  | .exit id, Q, fr, H => Q (.exit id) fr H
  | .ret, Q, fr, H => Q .ret fr H
  | .loop c, Q, fr, H => Hwp P (.loop c) Q fr H
  | .label _, Q, fr, H => Q .normal fr H
  | _, _, _, _ => False

theorem HW_skip (Q : Exit → HFrame → HHeap → Prop) (fr : HFrame) (H : HHeap) : HW P .skip Q fr H = Q .normal fr H := by first | (unfold HW; rfl) | exact (Eq.trans rfl rfl)
theorem HW_region (id : Nat) (l : List Oper) (Q : Exit → HFrame → HHeap → Prop) (fr : HFrame) (H : HHeap) : HW P (.region id l.toArray false) Q fr H = HRow P l.toArray (Q .normal) l fr H := by first | (unfold HW; rfl) | exact (Eq.trans rfl rfl)
theorem HW_draw (id : Nat) (ops : Array Oper) (Q : Exit → HFrame → HHeap → Prop) (fr : HFrame) (H : HHeap) : HW P (.region id ops true) Q fr H = Hwp P (.region id ops true) Q fr H := by first | (unfold HW; rfl) | exact (Eq.trans rfl rfl)
theorem HW_seq (a b : Code) (Q : Exit → HFrame → HHeap → Prop) (fr : HFrame) (H : HHeap) : HW P (.seq a b) Q fr H = HW P a (HThen (HW P b Q) Q) fr H := by first | (unfold HW; rfl) | exact (Eq.trans rfl rfl)
theorem HW_cond (c : Operand) (x y : Code) (Q : Exit → HFrame → HHeap → Prop) (fr : HFrame) (H : HHeap) : HW P (.cond c x y) Q fr H = HTest (hev fr c) (HW P x Q) (HW P y Q) fr H := by first | (unfold HW; rfl) | exact (Eq.trans rfl rfl)
theorem HW_block (id : Nat) (c : Code) (Q : Exit → HFrame → HHeap → Prop) (fr : HFrame) (H : HHeap) : HW P (.block id c) Q fr H = HW P c (HBlock id Q) fr H := by first | (unfold HW; rfl) | exact (Eq.trans rfl rfl)
theorem HW_exit (id : Nat) (Q : Exit → HFrame → HHeap → Prop) (fr : HFrame) (H : HHeap) : HW P (.exit id) Q fr H = Q (.exit id) fr H := by first | (unfold HW; rfl) | exact (Eq.trans rfl rfl)
theorem HW_ret (Q : Exit → HFrame → HHeap → Prop) (fr : HFrame) (H : HHeap) : HW P .ret Q fr H = Q .ret fr H := by first | (unfold HW; rfl) | exact (Eq.trans rfl rfl)
theorem HW_loop (c : Code) (Q : Exit → HFrame → HHeap → Prop) (fr : HFrame) (H : HHeap) : HW P (.loop c) Q fr H = Hwp P (.loop c) Q fr H := by first | (unfold HW; rfl) | exact (Eq.trans rfl rfl)
theorem HThen_normal (n : HFrame → HHeap → Prop) (Q : Exit → HFrame → HHeap → Prop) (fr : HFrame) (H : HHeap) : HThen n Q .normal fr H = n fr H := by first | (unfold HThen; rfl) | exact (Eq.trans rfl rfl)
theorem HThen_ret (n : HFrame → HHeap → Prop) (Q : Exit → HFrame → HHeap → Prop) (fr : HFrame) (H : HHeap) : HThen n Q .ret fr H = Q .ret fr H := by first | (unfold HThen; rfl) | exact (Eq.trans rfl rfl)
theorem HThen_exit (n : HFrame → HHeap → Prop) (id : Nat) (Q : Exit → HFrame → HHeap → Prop) (fr : HFrame) (H : HHeap) : HThen n Q (.exit id) fr H = Q (.exit id) fr H := by first | (unfold HThen; rfl) | exact (Eq.trans rfl rfl)
theorem HBlock_normal (id : Nat) (Q : Exit → HFrame → HHeap → Prop) (fr : HFrame) (H : HHeap) : HBlock id Q .normal fr H = Q .normal fr H := by first | (unfold HBlock; rfl) | exact (Eq.trans rfl rfl)
theorem HBlock_ret (id : Nat) (Q : Exit → HFrame → HHeap → Prop) (fr : HFrame) (H : HHeap) : HBlock id Q .ret fr H = Q .ret fr H := by first | (unfold HBlock; rfl) | exact (Eq.trans rfl rfl)
theorem HBlock_exit_same (id : Nat) (Q : Exit → HFrame → HHeap → Prop) (fr : HFrame) (H : HHeap) : HBlock id Q (.exit id) fr H = Q .normal fr H := by simp [HBlock]
theorem HBlock_exit_other (id id' : Nat) (Q : Exit → HFrame → HHeap → Prop) (fr : HFrame) (H : HHeap) (h : (id' == id) = false) : HBlock id Q (.exit id') fr H = Q (.exit id') fr H := by
  simp at h; simp [HBlock, h]

theorem HW.sound : ∀ (c : Code) (Q : Exit → HFrame → HHeap → Prop) (fr : HFrame) (H : HHeap), HW P c Q fr H → Hwp P c Q fr H := by
  intro c
  induction c with
  | skip => intro Q fr H h D B μ w a hR hf; exact wp_skip ⟨fr, H, μ, h, hf, Step.refl hR⟩
  | label l => intro Q fr H h D B μ w a hR hf; exact wp_label ⟨fr, H, μ, h, hf, Step.refl hR⟩
  | exit id => intro Q fr H h D B μ w a hR hf; exact wp_exit ⟨fr, H, μ, h, hf, Step.refl hR⟩
  | ret => intro Q fr H h D B μ w a hR hf; exact wp_ret ⟨fr, H, μ, h, hf, Step.refl hR⟩
  | region id ops draw =>
    intro Q fr H h
    cases draw with
    | true => exact h
    | false => exact Hwp.region (HRow.sound _ _ _ h)
  | seq a b iha ihb =>
    intro Q fr H h
    refine Hwp.seq (Hwp.mono ?_ (iha _ fr H h))
    intro e fr H h
    cases e with
    | normal => exact ihb _ _ _ h
    | _ => exact h
  | cond c x y ihx ihy =>
    intro Q fr H h
    simp only [HW, HTest] at h
    split at h
    · rename_i b hb
      refine Hwp.cond hb (fun e => ihx _ _ _ ?_) (fun e => ihy _ _ _ ?_)
      · subst e; exact h
      · subst e; exact h
    · exact h.elim
  | block id c ih => intro Q fr H h; exact Hwp.block (ih _ _ _ h)
  | loop c ih => intro Q fr H h; exact h
  | _ => intro Q fr H h; exact h.elim

/-- The end of a function. -/
def HRes (vs : Option (List Value)) (R : Value → HHeap → Prop) (H : HHeap) : Prop :=
  match vs with
  | some vs => R (htuple vs) H
  | none => False
theorem HRes_one (v : Value) (R : Value → HHeap → Prop) (H : HHeap) : HRes (some [v]) R H = R v H := by first | (unfold HRes; rfl) | exact (Eq.trans rfl rfl)
theorem HRes_nil (R : Value → HHeap → Prop) (H : HHeap) : HRes (some []) R H = R (.tuple #[]) H := by first | (unfold HRes; rfl) | exact (Eq.trans rfl rfl)
theorem HRes_more (v u : Value) (vs : List Value) (R : Value → HHeap → Prop) (H : HHeap) : HRes (some (v :: u :: vs)) R H = R (.tuple (v :: u :: vs).toArray) H := by first | (unfold HRes; rfl) | exact (Eq.trans rfl rfl)

def HEnd (P : Program) (rs : List ResultVar) (R : Value → HHeap → Prop) : Exit → HFrame → HHeap → Prop
  | .normal, fr, H | .ret, fr, H => HRes (hresults P fr H rs) R H
  | _, _, _ => False
theorem HEnd_normal (rs : List ResultVar) (R : Value → HHeap → Prop) (fr : HFrame) (H : HHeap) : HEnd P rs R .normal fr H = HRes (hresults P fr H rs) R H := by first | (unfold HEnd; rfl) | exact (Eq.trans rfl rfl)
theorem HEnd_ret (rs : List ResultVar) (R : Value → HHeap → Prop) (fr : HFrame) (H : HHeap) : HEnd P rs R .ret fr H = HRes (hresults P fr H rs) R H := by first | (unfold HEnd; rfl) | exact (Eq.trans rfl rfl)

theorem HCalls.of_hw {f : FuncId} {fn : Func} {c : Code} {args : List Value} {H : HHeap} {R : Value → HHeap → Prop} (hfn : P.funcs[f]? = some fn) (hc : fn.body = some c) (n : Nat) (hn : fn.ntmps = n)
    (rs : List ResultVar) (hrs : fn.results.toList = rs) (h : HW P c (HEnd P rs R) (hframe0 args n) H) : HCalls P f args H R := by
  subst hn; subst hrs
  refine HCalls.of_body hfn hc (Hwp.mono ?_ (HW.sound c _ _ H h))
  intro e fr H h
  cases e <;> simp only [HEnd, HRes] at h <;> first
    | exact h.elim
    | (split at h
       · exact ⟨trivial, _, ‹_›, h⟩
       · exact h.elim)

/-- Less is known of a frame. -/
def FLe (fr fr' : HFrame) : Prop := fr.size = fr'.size ∧ ∀ t v, fr.get t = some v → fr'.get t = some v

theorem Hwp.weaken {c : Code} {Q : Exit → HFrame → HHeap → Prop} {fr fr' : HFrame} {H : HHeap} (hl : FLe fr fr') (h : Hwp P c Q fr H) : Hwp P c Q fr' H :=
  fun D B μ w a hR hf => h D B μ w a hR ⟨hf.size.trans hl.1.symm, fun t v e => hf.vals t v (hl.2 t v e), hf.defers⟩

/-- A frame by a row of what is known. -/
def flook : List (Nat × Value) → Nat → Option Value
  | [], _ => none
  | (k, v) :: l, t => if t = k then some v else flook l t
def hfr (n : Nat) (l : List (Nat × Value)) : HFrame := ⟨n, flook l⟩

theorem fle_hfr {n : Nat} {fr : HFrame} (hs : n = fr.size) : ∀ (l : List (Nat × Value)), (∀ p ∈ l, fr.get p.1 = some p.2) → FLe (hfr n l) fr := by
  intro l h
  refine ⟨hs, fun t v e => ?_⟩
  induction l with
  | nil => simp [hfr, flook] at e
  | cons p l ih =>
    simp only [hfr, flook] at e
    split at e
    · rename_i ht; cases e; rw [ht]; exact h p (by simp)
    · exact ih (fun q hq => h q (by simp [hq])) e

theorem hfr_get (n : Nat) (l : List (Nat × Value)) (t : Nat) : (hfr n l).get t = flook l t := by first | (unfold hfr; rfl) | exact (Eq.trans rfl rfl)
theorem hfr_size (n : Nat) (l : List (Nat × Value)) : (hfr n l).size = n := by first | (unfold hfr; rfl) | exact (Eq.trans rfl rfl)
theorem hput_hfr (n : Nat) (l : List (Nat × Value)) (d : Nat) (v : Value) (h : d < n) : hput (hfr n l) (some d) v = hfr n ((d, v) :: l) := by
  unfold hput
  simp only
  rw [if_pos (show d < (hfr n l).size from h)]
  rfl
theorem hput_none (fr : HFrame) (v : Value) : hput fr none v = fr := by first | (unfold hput; rfl) | exact (Eq.trans rfl rfl)
theorem hframe0_eq (args : List Value) (n : Nat) (h : args.length ≤ n) : hframe0 args n = hfr n (args.zipIdx.map fun p => (p.2, p.1)) := by
  unfold hframe0 hfr
  congr 1
  · omega
  · have key : ∀ (l : List Value) (k t : Nat), flook ((l.zipIdx k).map fun p => (p.2, p.1)) t = if k ≤ t then l[t - k]? else none := by
      intro l
      induction l with
      | nil => intro k t; simp [flook]
      | cons x l ih =>
        intro k t
        simp only [List.zipIdx_cons, List.map_cons, flook, ih]
        by_cases ht : t = k
        · subst ht; simp
        · rw [if_neg ht]
          by_cases hk : k ≤ t
          · rw [if_pos (by omega), if_pos hk, show t - k = (t - (k + 1)) + 1 by omega]; rfl
          · rw [if_neg (by omega), if_neg hk]
    funext t
    rw [key]; simp

end Go.HL
