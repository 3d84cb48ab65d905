/-
  A high level over the model, part 3: what an operation comes to at the high level, and that the model's own operation meets it.
-/
import Derived.Test.YtakjligkeplohaaGreatDoorH2
namespace Go.HL
open Go.RowKit

/-- A frame: how many slots there are, and what is known of some. -/
@[ext] structure HFrame where
  size : Nat
  get : Nat → Option Value

def hev (fr : HFrame) : Operand → Option Value
  | .tmp t => fr.get t
  | .const v => if flat v then some v else none
  | .func f => some (.func (.func f) #[] #[])
  | .global _ => none

def hput (fr : HFrame) (dst : Option Tmp) (v : Value) : HFrame :=
  match dst with
  | some (d : Nat) => if d < fr.size then ⟨fr.size, fun t => if t = d then some v else fr.get t⟩ else fr
  | none => fr

structure FRel (μ : Mu) (fr : HFrame) (a : Act) : Prop where
  size : a.tmps.size = fr.size
  vals : ∀ t v, fr.get t = some v → ∃ v', a.tmps[t]? = some v' ∧ VRel μ v v'
  defers : a.defers = []

theorem FRel.mono {μ ν : Mu} {fr : HFrame} {a : Act} (h : FRel μ fr a) (s : Sub μ ν) : FRel ν fr a :=
  ⟨h.size, fun t v e => let ⟨v', h1, h2⟩ := h.vals t v e; ⟨v', h1, h2.mono s⟩, h.defers⟩

theorem VRels.set {μ : Mu} {a a' : List Value} (h : VRels μ a a') (n : Nat) {v v' : Value} (hv : VRel μ v v') : VRels μ (a.set n v) (a'.set n v') := by
  refine .of_get (by simp [h.length]) fun i u u' e e' => ?_
  by_cases hi : n = i
  · subst hi
    have h1 : n < a.length := by
      rcases Nat.lt_or_ge n a.length with hh | hh
      · exact hh
      · rw [List.getElem?_eq_none (by simpa using hh)] at e; cases e
    rw [List.getElem?_set_self h1] at e
    rw [List.getElem?_set_self (by rw [h.length]; exact h1)] at e'
    cases e; cases e'; exact hv
  · rw [List.getElem?_set_ne hi] at e e'
    obtain ⟨x, hx, hr⟩ := h.get i u e
    rw [hx] at e'; cases e'; exact hr

theorem FRel.put {μ : Mu} {fr : HFrame} {a : Act} (h : FRel μ fr a) (dst : Option Tmp) {v v' : Value} (hv : VRel μ v v') : FRel μ (hput fr dst v) (a.put dst v') := by
  cases dst with
  | none => exact h
  | some d =>
    simp only [hput, Act.put]
    by_cases hd : d < fr.size
    · rw [if_pos hd]
      refine ⟨by simpa using h.size, fun t u e => ?_, h.defers⟩
      simp only at e
      split at e
      · subst_vars; cases e
        exact ⟨v', by simp [h.size, hd], hv⟩
      · rename_i ht
        obtain ⟨u', h1, h2⟩ := h.vals t u e
        exact ⟨u', by rw [Array.getElem?_setIfInBounds_ne (Ne.symm ht)]; exact h1, h2⟩
    · rw [if_neg hd]
      refine ⟨by simpa using h.size, fun t u e => ?_, h.defers⟩
      obtain ⟨u', h1, h2⟩ := h.vals t u e
      have : d ≠ t := by
        rintro rfl
        have hsz : a.tmps.size ≤ d := by rw [h.size]; exact Nat.le_of_not_lt hd
        rw [Array.getElem?_eq_none hsz] at h1; cases h1
      exact ⟨u', by rw [Array.getElem?_setIfInBounds_ne this]; exact h1, h2⟩

theorem hev_rel {μ : Mu} {fr : HFrame} {a : Act} (h : FRel μ fr a) {x : Operand} {v : Value} (e : hev fr x = some v) : VRel μ v (a.eval x) := by
  cases x with
  | tmp t =>
    simp only [hev] at e
    obtain ⟨v', hv', hr⟩ := h.vals t v e
    have : a.tmps.getD t undef = v' := by simp [hv']
    simp only [Act.eval, this]; exact hr
  | const u =>
    simp only [hev] at e
    split at e
    · cases e; exact .of_flat ‹_›
    · cases e
  | func f =>
    simp only [hev] at e; cases e
    exact .func _ [] [] .nil
  | global g => simp [hev] at e

/-- Whole numbers. -/
def hint (op : BinOp) (k : IntKind) (x y : Int) : Option Value :=
  match op with
  | .add => some (.int k (k.wrap (x + y)))
  | .sub => some (.int k (k.wrap (x - y)))
  | .mul => some (.int k (k.wrap (x * y)))
  | .quo => if y = 0 then none else some (.int k (k.wrap (x.tdiv y)))
  | .rem => if y = 0 then none else some (.int k (x.tmod y))
  | .and => some (.int k (k.wrap (BitVec.ofInt k.bits x &&& BitVec.ofInt k.bits y).toNat))
  | .or => some (.int k (k.wrap (BitVec.ofInt k.bits x ||| BitVec.ofInt k.bits y).toNat))
  | .xor => some (.int k (k.wrap (BitVec.ofInt k.bits x ^^^ BitVec.ofInt k.bits y).toNat))
  | .andNot => some (.int k (k.wrap (BitVec.ofInt k.bits x &&& ~~~BitVec.ofInt k.bits y).toNat))
  | .eql => some (.bool (x == y))
  | .neq => some (.bool (x != y))
  | .lss => some (.bool (x < y))
  | .leq => some (.bool (x ≤ y))
  | .gtr => some (.bool (x > y))
  | .geq => some (.bool (x ≥ y))
  | _ => none

def hshift (op : BinOp) (k : IntKind) (x y : Int) : Option Value :=
  if y < 0 then none else
  match op with
  | .shl => some (.int k (k.wrap (x * 2 ^ (min y.toNat k.bits))))
  | .shr => some (.int k (x.fdiv (2 ^ (min y.toNat k.bits))))
  | _ => none

def hstr (op : BinOp) (x y : ByteArray) : Option Value :=
  match op with
  | .add => if x.size + y.size ≤ 1099511627776 then some (.string (x ++ y)) else none
  | .eql => some (.bool (x.toList == y.toList))
  | .neq => some (.bool !(x.toList == y.toList))
  | .lss => some (.bool (Op.bytesLess x.toList y.toList))
  | .leq => some (.bool (Op.bytesLess x.toList y.toList || x.toList == y.toList))
  | .gtr => some (.bool !(Op.bytesLess x.toList y.toList || x.toList == y.toList))
  | .geq => some (.bool !(Op.bytesLess x.toList y.toList))
  | _ => none

/-- Is it nil, where something is held against nil? -/
def isNil : Value → Option Bool
  | .pointer a => some a.isNone
  | .slice a _ _ => some a.isNone
  | .map r => some r.isNone
  | .nilFunc => some true
  | .func .. => some false
  | _ => none

def nilOne : Value → Bool
  | .pointer none | .slice none 0 0 | .map none | .nilFunc => true
  | _ => false

def kindOf (P : Program) (t : TypeId) : Nat :=
  match P.underlying t with
  | some .bool => 1
  | some (.pointer _) => 2
  | some (.slice _) => 3
  | some (.func ..) => 4
  | some (.interface _) => 5
  | some (.map ..) => 6
  | _ => 0

theorem kind_bool {P : Program} {t : TypeId} (h : kindOf P t = 1) : P.underlying t = some .bool := by
  unfold kindOf at h; split at h <;> first | assumption | omega
theorem kind_pointer {P : Program} {t : TypeId} (h : kindOf P t = 2) : ∃ e, P.underlying t = some (.pointer e) := by
  unfold kindOf at h; split at h <;> first | exact ⟨_, ‹_›⟩ | omega
theorem kind_slice {P : Program} {t : TypeId} (h : kindOf P t = 3) : ∃ e, P.underlying t = some (.slice e) := by
  unfold kindOf at h; split at h <;> first | exact ⟨_, ‹_›⟩ | omega
theorem kind_func {P : Program} {t : TypeId} (h : kindOf P t = 4) : ∃ a b c, P.underlying t = some (.func a b c) := by
  unfold kindOf at h; split at h <;> first | exact ⟨_, _, _, ‹_›⟩ | omega
theorem kind_interface {P : Program} {t : TypeId} (h : kindOf P t = 5) : ∃ e, P.underlying t = some (.interface e) := by
  unfold kindOf at h; split at h <;> first | exact ⟨_, ‹_›⟩ | omega

def hbin (P : Program) (op : BinOp) (t : TypeId) (x y : Value) : Option Value :=
  match x, y with
  | .int k a, .int k' b =>
    match op with
    | .shl | .shr => hshift op k a b
    | _ => if k = k' then hint op k a b else none
  | .string a, .string b => hstr op a b
  | .bool a, .bool b => if kindOf P t = 1 then (match op with | .eql => some (.bool (a == b)) | .neq => some (.bool (!(a == b))) | _ => none) else none
  | .pointer a, .pointer b =>
    if kindOf P t = 2 then
      (if a.isNone || b.isNone then (match op with | .eql => some (.bool (a.isNone && b.isNone)) | .neq => some (.bool (!(a.isNone && b.isNone))) | _ => none) else none)
    else none
  | .slice a _ _, .slice b _ _ =>
    if kindOf P t = 3 then
      (if a.isNone || b.isNone then (match op with | .eql => some (.bool (a.isNone && b.isNone)) | .neq => some (.bool (!(a.isNone && b.isNone))) | _ => none) else none)
    else none
  | .nilFunc, .func .. | .func .., .nilFunc =>
    if kindOf P t = 4 then (match op with | .eql => some (.bool false) | .neq => some (.bool true) | _ => none) else none
  | .nilFunc, .nilFunc =>
    if kindOf P t = 4 then (match op with | .eql => some (.bool true) | .neq => some (.bool false) | _ => none) else none
  | .nilIface, .iface .. | .iface .., .nilIface =>
    if kindOf P t = 5 then (match op with | .eql => some (.bool false) | .neq => some (.bool true) | _ => none) else none
  | _, _ => none

def hunary (op : UnOp) (x : Value) : Option Value :=
  match op, x with
  | .neg, .int k n => some (.int k (k.wrap (0 - n)))
  | .not, .bool b => some (.bool !b)
  | _, _ => none

def hsize (P : Program) (t : TypeId) : Option Nat := (P.info? t).map (·.size)
def hagg (P : Program) (t : TypeId) : Option Bool :=
  match P.underlying t with
  | some (.struct _) | some (.array _ _) => some true
  | some _ => some false
  | none => none

/-- A variable of a type is read. -/
def hload (P : Program) (H : HHeap) (t : TypeId) (v : Value) : Option Value :=
  match v with
  | .pointer (some ⟨b, o, none⟩) =>
    match H.get b with
    | some (.cells cs _) =>
      match hagg P t with
      | some true => (hsize P t).bind fun n => if o + n ≤ cs.length then some (.agg ((cs.drop o).take n).toArray) else none
      | some false => cs[o]?
      | none => none
    | _ => none
  | _ => none

def allOne (vs : List Value) : Bool := vs.all Value.oneCell'

def hstore (P : Program) (H : HHeap) (t : TypeId) (p x : Value) : Option HHeap :=
  match p with
  | .pointer (some ⟨b, o, none⟩) =>
    match H.get b with
    | some (.cells cs true) => (hsize P t).bind fun n =>
      if x.cells.size = n ∧ o + n ≤ cs.length ∧ allOne x.cells.toList then some (H.set b (.cells (splice cs o x.cells.toList) true)) else none
    | _ => none
  | _ => none

def hfieldAt (P : Program) (s : TypeId) (p : Value) (f : Nat) : Option Value :=
  match p with
  | .pointer (some ⟨b, o, none⟩) =>
    match P.underlying s with
    | some (.struct fs) => (fs[f]?).bind fun fd => (hsize P fd.type).bind fun n => if n = 0 then none else some (.pointer (some ⟨b, o + fd.offset, none⟩))
    | _ => none
  | _ => none

def hindexAt (P : Program) (t : TypeId) (x ix : Value) : Option Value :=
  match ix with
  | .int _ i =>
    match P.underlying t, x with
    | some (.slice e), .slice (some ⟨b, o, _⟩) len _ => (hsize P e).bind fun n => if 0 ≤ i ∧ i < len then some (.pointer (some ⟨b, o + i.toNat * n, none⟩)) else none
    | some (.array l e), .pointer (some ⟨b, o, none⟩) => (hsize P e).bind fun n => if 0 ≤ i ∧ i < l then some (.pointer (some ⟨b, o + i.toNat * n, none⟩)) else none
    | _, _ => none
  | _ => none

def hpart (P : Program) (t : TypeId) (cs : List Value) (off : Nat) : Option Value :=
  match hagg P t with
  | some true => (hsize P t).bind fun n => if off + n ≤ cs.length then some (.agg ((cs.drop off).take n).toArray) else none
  | some false => cs[off]?
  | none => none

def hfield (P : Program) (t : TypeId) (x : Value) (f : Nat) : Option Value :=
  match P.underlying t, x with
  | some (.struct fs), .agg cs => (fs[f]?).bind fun fd => hpart P fd.type cs.toList fd.offset
  | _, _ => none

def hindex (P : Program) (t : TypeId) (x ix : Value) : Option Value :=
  match ix with
  | .int _ i =>
    match P.underlying t, x with
    | some .string, .string s => if 0 ≤ i then (s.data[i.toNat]?).map fun b => .int .u8 b.toNat else none
    | some (.array l e), .agg cs => (hsize P e).bind fun n => if 0 ≤ i ∧ i < l then hpart P e cs.toList (i.toNat * n) else none
    | _, _ => none
  | _ => none

/-- The bounds of a slicing: none where it panics. -/
def hbound (len : Nat) (d : Nat) (x : Option Value) : Option Nat :=
  match x with
  | none => some d
  | some (.int _ i) => if 0 ≤ i ∧ i ≤ len then some i.toNat else none
  | some _ => none

def hslice (P : Program) (t : TypeId) (x : Value) (lo hi mx : Option Value) : Option Value :=
  match P.underlying t, x with
  | some .string, .string s =>
    if mx.isSome then none else
    (hbound s.size s.size hi).bind fun h => (hbound h 0 lo).bind fun l => some (.string (s.extract l h))
  | some (.slice e), .slice a len cap =>
    if mx.isSome && hi.isNone then none else
    (hbound cap cap mx).bind fun m => (hbound m len hi).bind fun h => (hbound h 0 lo).bind fun l => (hsize P e).bind fun n =>
    match a with
    | none => some (.slice none 0 0)
    | some ⟨b, o, none⟩ => some (.slice (some ⟨b, if m = l then o else o + l * n, none⟩) (h - l) (m - l))
    | some ⟨b, o, some k⟩ =>
      if k / 2 ≠ n then none
      else if mx.isSome then (if k % 2 = 0 then some (.slice (some ⟨b, if m = l then o else o + l * n, none⟩) (h - l) (m - l)) else none)
      else if m = l then some (.slice (some ⟨b, o, some (2 * n + 1)⟩) 0 0)
      else some (.slice (some ⟨b, o + l * n, some k⟩) (h - l) (m - l))
  | _, _ => none

end Go.HL
