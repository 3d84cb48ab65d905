/-
  A high level over the model, part 15: drawn rows for simp; numbers.
-/
import Derived.Test.YtaghhialaplgoaaGreatDoorPFH14
set_option linter.unusedVariables false
set_option linter.unusedSimpArgs false
namespace Go.HL
open Go.RowKit

variable {P : Program} {ops : Array Oper}

/-- What was read, held against a heap. -/
def HStay (b : Bool) (X : Prop) : Prop := match b with | true => True | false => X
theorem HStay_true (X : Prop) : HStay true X = True := by unfold HStay; rfl
theorem HStay_false (X : Prop) : HStay false X = X := by unfold HStay; rfl

def HSame (P : Program) (fr : HFrame) (op : Op) (v : Value) (H : HHeap) : Prop := hop P fr H op = some (v, H)
theorem HSame_eq (fr : HFrame) (op : Op) (v : Value) (H : HHeap) : HSame P fr op v H = (hop P fr H op = some (v, H)) := by unfold HSame; rfl

def HKept (P : Program) (ms : List Nat) (k : Nat) (H : HHeap) : List Late → Prop
  | [] => True
  | l :: ls => HStay (anc ms l.idx k) (HSame P l.fr l.o.op l.v H) ∧ HKept P ms k H ls
theorem HKept_nil (ms : List Nat) (k : Nat) (H : HHeap) : HKept P ms k H [] = True := by unfold HKept; rfl
theorem HKept_cons (ms : List Nat) (k : Nat) (H : HHeap) (i : Nat) (d : Option Tmp) (op : Op) (ty : TypeId) (pos : String) (af : Array Edge) (g : Option (Nat × Bool)) (fr : HFrame) (v : Value) (ls : List Late) :
    HKept P ms k H (⟨i, ⟨d, op, ty, pos, af, g⟩, fr, v⟩ :: ls) = (HStay (anc ms i k) (HSame P fr op v H) ∧ HKept P ms k H ls) := by rw [HKept]
theorem HKept.sound {ms : List Nat} {k : Nat} {H : HHeap} : ∀ (ls : List Late), HKept P ms k H ls → LateOk P ms k H ls
  | [], _ => trivial
  | l :: ls, h => by
    obtain ⟨h1, h2⟩ := h
    refine ⟨?_, HKept.sound ls h2⟩
    cases ha : anc ms l.idx k with
    | true => exact .inl rfl
    | false => rw [ha] at h1; exact .inr h1

def HGo1 (o : Option (Value × HHeap)) (K : Value → HHeap → Prop) (H : HHeap) : Prop :=
  match o with
  | some (v, _) => K v H
  | none => False
theorem HGo1_some (v : Value) (H' H : HHeap) (K : Value → HHeap → Prop) : HGo1 (some (v, H')) K H = K v H := by unfold HGo1; rfl

abbrev Next := List Late → HFrame → HHeap → Prop

def HQNext (next : Next) (d : Option Tmp) (late : List Late) (fr : HFrame) (v : Value) (H : HHeap) : Prop := next late (hput fr d v) H
theorem HQNext_eq (next : Next) (d : Option Tmp) (late : List Late) (fr : HFrame) (v : Value) (H : HHeap) : HQNext next d late fr v H = next late (hput fr d v) H := by unfold HQNext; rfl
def HQLate (b : Bool) (l : Late) (late : List Late) : List Late := match b with | true => l :: late | false => late
theorem HQLate_true (l : Late) (late : List Late) : HQLate true l late = l :: late := by unfold HQLate; rfl
theorem HQLate_false (l : Late) (late : List Late) : HQLate false l late = late := by unfold HQLate; rfl
def HQRead (next : Next) (i : Nat) (o : Oper) (late : List Late) (fr : HFrame) (v : Value) (H : HHeap) : Prop := next (HQLate (reads o.op) ⟨i, o, fr, v⟩ late) (hput fr o.dst v) H
theorem HQRead_eq (next : Next) (i : Nat) (d : Option Tmp) (op : Op) (ty : TypeId) (pos : String) (af : Array Edge) (g : Option (Nat × Bool)) (late : List Late) (fr : HFrame) (v : Value) (H : HHeap) :
    HQRead next i ⟨d, op, ty, pos, af, g⟩ late fr v H = next (HQLate (reads op) ⟨i, ⟨d, op, ty, pos, af, g⟩, fr, v⟩ late) (hput fr d v) H := by unfold HQRead; rfl
def HQDo (P : Program) (next : Next) (i : Nat) (o : Oper) (late : List Late) (fr : HFrame) (H : HHeap) : Prop := HGo1 (hop P fr H o.op) (HQRead next i o late fr) H
theorem HQDo_eq (next : Next) (i : Nat) (d : Option Tmp) (op : Op) (ty : TypeId) (pos : String) (af : Array Edge) (g : Option (Nat × Bool)) (late : List Late) (fr : HFrame) (H : HHeap) :
    HQDo P next i ⟨d, op, ty, pos, af, g⟩ late fr H = HGo1 (hop P fr H op) (HQRead next i ⟨d, op, ty, pos, af, g⟩ late fr) H := by unfold HQDo; rfl
def HENext (P : Program) (ms : List Nat) (i : Nat) (next : Next) (d : Option Tmp) (late : List Late) (fr : HFrame) (v : Value) (H : HHeap) : Prop := HKept P ms i H late ∧ next late (hput fr d v) H
theorem HENext_eq (ms : List Nat) (i : Nat) (next : Next) (d : Option Tmp) (late : List Late) (fr : HFrame) (v : Value) (H : HHeap) :
    HENext P ms i next d late fr v H = (HKept P ms i H late ∧ next late (hput fr d v) H) := by unfold HENext; rfl
def HEDo (P : Program) (ms : List Nat) (i : Nat) (next : Next) (o : Oper) (late : List Late) (fr : HFrame) (H : HHeap) : Prop := HCallee P (hcallee P fr o.op) (HENext P ms i next o.dst late fr) (hop P fr H o.op) H
theorem HEDo_eq (ms : List Nat) (i : Nat) (next : Next) (d : Option Tmp) (op : Op) (ty : TypeId) (pos : String) (af : Array Edge) (g : Option (Nat × Bool)) (late : List Late) (fr : HFrame) (H : HHeap) :
    HEDo P ms i next ⟨d, op, ty, pos, af, g⟩ late fr H = HCallee P (hcallee P fr op) (HENext P ms i next d late fr) (hop P fr H op) H := by unfold HEDo; rfl

def HSQ (P : Program) (ops : Array Oper) (next : Next) (i : Nat) (o : Option Oper) (late : List Late) (fr : HFrame) (H : HHeap) : Prop :=
  match o with
  | some o => HWant (hwanted ops fr o) (HQNext next o.dst late fr) (HQDo P next i o late fr) H
  | none => False
theorem HSQ_some (next : Next) (i : Nat) (d : Option Tmp) (op : Op) (ty : TypeId) (pos : String) (af : Array Edge) (g : Option (Nat × Bool)) (late : List Late) (fr : HFrame) (H : HHeap) :
    HSQ P ops next i (some ⟨d, op, ty, pos, af, g⟩) late fr H = HWant (hwanted ops fr ⟨d, op, ty, pos, af, g⟩) (HQNext next d late fr) (HQDo P next i ⟨d, op, ty, pos, af, g⟩ late fr) H := by unfold HSQ; rfl
def HSE (P : Program) (ops : Array Oper) (ms : List Nat) (next : Next) (i : Nat) (o : Option Oper) (late : List Late) (fr : HFrame) (H : HHeap) : Prop :=
  match o with
  | some o => HWant (hwanted ops fr o) (HQNext next o.dst late fr) (HEDo P ms i next o late fr) H
  | none => False
theorem HSE_some (ms : List Nat) (next : Next) (i : Nat) (d : Option Tmp) (op : Op) (ty : TypeId) (pos : String) (af : Array Edge) (g : Option (Nat × Bool)) (late : List Late) (fr : HFrame) (H : HHeap) :
    HSE P ops ms next i (some ⟨d, op, ty, pos, af, g⟩) late fr H = HWant (hwanted ops fr ⟨d, op, ty, pos, af, g⟩) (HQNext next d late fr) (HEDo P ms i next ⟨d, op, ty, pos, af, g⟩ late fr) H := by unfold HSE; rfl

/-- A drawn row, for simp. -/
def HD (P : Program) (ops : Array Oper) (ms : List Nat) (K : HFrame → HHeap → Prop) : WT → Next
  | .done, _, fr, H => K fr H
  | .op i t, late, fr, H => HSQ P ops (HD P ops ms K t) i (ops[i]?) late fr H
  | .eff i t other, late, fr, H => HSE P ops ms (HD P ops ms K t) i (ops[i]?) late fr H ∧ HD P ops ms K other late fr H
  | .stop, _, _, _ => True
theorem HD_done (ms : List Nat) (K : HFrame → HHeap → Prop) (late : List Late) (fr : HFrame) (H : HHeap) : HD P ops ms K .done late fr H = K fr H := by rw [HD]
theorem HD_op (ms : List Nat) (K : HFrame → HHeap → Prop) (i : Nat) (t : WT) (late : List Late) (fr : HFrame) (H : HHeap) : HD P ops ms K (.op i t) late fr H = HSQ P ops (HD P ops ms K t) i (ops[i]?) late fr H := by rw [HD]
theorem HD_eff (ms : List Nat) (K : HFrame → HHeap → Prop) (i : Nat) (t other : WT) (late : List Late) (fr : HFrame) (H : HHeap) :
    HD P ops ms K (.eff i t other) late fr H = (HSE P ops ms (HD P ops ms K t) i (ops[i]?) late fr H ∧ HD P ops ms K other late fr H) := by rw [HD]
theorem HD_stop (ms : List Nat) (K : HFrame → HHeap → Prop) (late : List Late) (fr : HFrame) (H : HHeap) : HD P ops ms K .stop late fr H = True := by rw [HD]

theorem HD.sound {ms : List Nat} {K : HFrame → HHeap → Prop} : ∀ (t : WT) (late : List Late) (fr : HFrame) (H : HHeap), HD P ops ms K t late fr H → HDraw P ops ms K t late fr H := by
  intro t
  induction t with
  | done => intro late fr H h; exact h
  | stop => intro late fr H h; trivial
  | op i t ih =>
    intro late fr H h
    simp only [HD, HSQ] at h
    simp only [HDraw, HStepQ]
    split at h
    · rename_i o ho
      simp only [ho]
      simp only [HWant] at h
      split at h
      · rename_i hw
        simp only [hw]
        simp only [HQDo, HGo1] at h
        split at h
        · rename_i v H' hv
          simp only [hv]
          simp only [HQRead, HQLate] at h
          have := ih _ _ _ h
          cases hr : reads o.op <;> simp only [hr] at this ⊢ <;> simpa using this
        · exact h.elim
      · rename_i hw; simp only [hw]; exact ih _ _ _ h
      · exact h.elim
    · exact h.elim
  | eff i t other ih ih2 =>
    intro late fr H h
    obtain ⟨h, h2⟩ := h
    refine ⟨?_, ih2 _ _ _ h2⟩
    simp only [HSE] at h
    simp only [HStepE]
    split at h
    · rename_i o ho
      simp only [ho]
      simp only [HWant] at h
      split at h
      · rename_i hw
        simp only [hw]
        simp only [HEDo, HCallee] at h
        split at h
        · rename_i f args hc
          simp only [hc]
          refine HCalls.mono h (fun v H' r => ?_)
          exact ⟨HKept.sound _ r.1, ih _ _ _ r.2⟩
        · rename_i hc
          simp only [hc]
          simp only [HGo] at h
          split at h
          · rename_i v H' hv
            simp only [hv]
            exact ⟨HKept.sound _ h.1, ih _ _ _ h.2⟩
          · exact h.elim
      · rename_i hw; simp only [hw]; exact ih _ _ _ h
      · exact h.elim
    · exact h.elim

theorem Hwp.drawn {id : Nat} {Q : Exit → HFrame → HHeap → Prop} {fr : HFrame} {H : HHeap} (hm : P.follows .mixedOrders = true) (ms : List Nat) (tree : WT) (hok : orderOk ops ms tree = true)
    (h : HD P ops ms (Q .normal) tree [] fr H) : Hwp P (.region id ops true) Q fr H := Hwp.draw hm ms tree hok (HD.sound _ _ _ _ h)

theorem HWant.of {b : Bool} {no : Value → HHeap → Prop} {yes : HHeap → Prop} {H : HHeap} (h1 : b = true → yes H) (h2 : b = false → no undef H) : HWant (some b) no yes H := by cases b <;> simp_all [HWant]

end Go.HL
