/-
  A high level over the model, part 14: the equations by which simp walks.
-/
import Derived.Test.YtaghhialaplgoaaGreatDoorPFH13
set_option linter.unusedVariables false
set_option linter.unusedSimpArgs false
namespace Go.HL
open Go.RowKit

variable {P : Program} {ops : Array Oper} {fr : HFrame} {H : HHeap}

theorem hwanted_none (d : Option Tmp) (op : Op) (t : TypeId) (pos : String) (af : Array Edge) : hwanted ops fr ⟨d, op, t, pos, af, none⟩ = some true := by unfold hwanted; rfl
/-- What a guard finds. -/
def hguard (v : Option Value) (want : Bool) : Option Bool :=
  match v with
  | some (.bool b) => some (b == want)
  | some (.tuple _) => some false
  | _ => none
theorem hwanted_some (d : Option Tmp) (op : Op) (t : TypeId) (pos : String) (af : Array Edge) (j : Nat) (want : Bool) : hwanted ops fr ⟨d, op, t, pos, af, some (j, want)⟩ = hguard (((ops[j]?).bind (·.dst)).bind fr.get) want := by
  unfold hwanted hguard; rfl

theorem hev_tmp (t : Nat) : hev fr (.tmp t) = fr.get t := by unfold hev; rfl
theorem hev_const (v : Value) (h : flat v = true) : hev fr (.const v) = some v := by simp [hev, h]
theorem hev_int (k : IntKind) (n : Int) : hev fr (.const (.int k n)) = some (.int k n) := hev_const _ rfl
theorem hev_bool (b : Bool) : hev fr (.const (.bool b)) = some (.bool b) := hev_const _ rfl
theorem hev_string (b : ByteArray) : hev fr (.const (.string b)) = some (.string b) := hev_const _ rfl
theorem hev_nilptr : hev fr (.const (.pointer none)) = some (.pointer none) := hev_const _ rfl
theorem hev_nilslice : hev fr (.const (.slice none 0 0)) = some (.slice none 0 0) := hev_const _ rfl
theorem hev_nilmap : hev fr (.const (.map none)) = some (.map none) := hev_const _ rfl
theorem hev_nilfunc : hev fr (.const .nilFunc) = some .nilFunc := hev_const _ rfl
theorem hev_niliface : hev fr (.const .nilIface) = some .nilIface := hev_const _ rfl
theorem hev_func (f : FuncId) : hev fr (.func f) = some (.func (.func f) #[] #[]) := by unfold hev; rfl
theorem flook_nil (t : Nat) : flook [] t = none := by unfold flook; rfl
theorem flook_cons (k : Nat) (v : Value) (l : List (Nat × Value)) (t : Nat) : flook ((k, v) :: l) t = if t = k then some v else flook l t := by rw [flook]
theorem hevs_nil : hevs fr [] = some [] := by unfold hevs; rfl
theorem hparts_nil : hparts fr [] = some [] := by unfold hparts; rfl
theorem hopt_none : hopt fr none = some none := by unfold hopt; rfl
def hintv (v : Option Value) : Option (Option Value) :=
  match v with
  | some (.int k n) => some (some (.int k n))
  | _ => none
theorem hintv_int (k : IntKind) (n : Int) : hintv (some (.int k n)) = some (some (.int k n)) := by unfold hintv; rfl
theorem hopt_some (x : Operand) : hopt fr (some x) = hintv (hev fr x) := by unfold hopt hintv; rfl

def hnil (x : Option Value) (H : HHeap) : Option (Value × HHeap) :=
  match x with
  | some (.pointer (some a)) => some (.pointer (some a), H)
  | some (.func (.func f) a b) => some (.func (.func f) a b, H)
  | _ => none
theorem hnil_ptr (a : Addr) : hnil (some (.pointer (some a))) H = some (.pointer (some a), H) := by unfold hnil; rfl
theorem hnil_func (f : FuncId) (a b : Array Value) : hnil (some (.func (.func f) a b)) H = some (.func (.func f) a b, H) := by unfold hnil; rfl
theorem hop_nilCheck (x : Operand) : hop P fr H (.nilCheck x) = hnil (hev fr x) H := by unfold hop hnil; rfl
def hixA (P : Program) (t : TypeId) (x i : Option Value) (H : HHeap) : Option (Value × HHeap) :=
  x.bind fun p => match i with
    | some (.int k n) => (hindexAt P t p (.int k n)).map fun v => (v, H)
    | _ => none
theorem hop_indexAddr (t : TypeId) (x i : Operand) : hop P fr H (.indexAddr t x i) = hixA P t (hev fr x) (hev fr i) H := by unfold hop hixA; rfl
def hix (P : Program) (t : TypeId) (x i : Option Value) (H : HHeap) : Option (Value × HHeap) :=
  x.bind fun p => match i with
    | some (.int k n) => (hindex P t p (.int k n)).map fun v => (v, H)
    | _ => none
theorem hop_index (t : TypeId) (x i : Operand) : hop P fr H (.index t x i) = hix P t (hev fr x) (hev fr i) H := by unfold hop hix; rfl
def hext (x : Option Value) (i : Nat) (H : HHeap) : Option (Value × HHeap) :=
  match x with
  | some (.tuple vs) => (vs.toList[i]?).map fun v => (v, H)
  | _ => none
theorem hop_extract (x : Operand) (i : Nat) : hop P fr H (.extract x i) = hext (hev fr x) i H := by unfold hop hext; rfl
def hmk (P : Program) (t : TypeId) (l c : Option Value) (H : HHeap) : Option (Value × HHeap) :=
  match l, c with
  | some (.int k l), some (.int k' c) => hmakeSlice P H t (.int k l) (.int k' c)
  | _, _ => none
theorem hop_makeSlice (t : TypeId) (l c : Operand) : hop P fr H (.makeSlice t l c) = hmk P t (hev fr l) (hev fr c) H := by unfold hop hmk; rfl
theorem hop_makeMap (t : TypeId) : hop P fr H (.makeMap t none) = some (.map (some H.next), H.push (.map [])) := by unfold hop; rfl
theorem hop_makeFunc (fn : Fn) (cs : Array Operand) : hop P fr H (.makeFunc fn #[] cs) = (hevs fr cs.toList).map fun vs => (.func fn #[] vs.toArray, H) := by unfold hop; rfl
theorem hop_makeInterface (t : TypeId) (x : Operand) (h : kindOf P t ≠ 5) (h' : (P.underlying t).isSome = true) : hop P fr H (.makeInterface t x) = (hev fr x).map fun v => (.iface t v, H) := by
  unfold hop; simp only; rw [if_neg h, if_pos h']
theorem hop_builtin (b : Builtin) (args : Array Operand) (ts : Array TypeId) : hop P fr H (.call { callee := .builtin b, args := args, argTypes := ts }) = (hevs fr args.toList).bind fun vs => hbuiltin P H b ts.toList vs := by unfold hop; rfl
theorem hop_call (x : Operand) (args : Array Operand) (ts : Array TypeId) : hop P fr H (.call { callee := .value x, args := args, argTypes := ts }) = none := by unfold hop; rfl
theorem hop_move (x : Operand) : hop P fr H (.move x) = ((hev fr x).map fun v => (v, H)) := by unfold hop; rfl
theorem hop_assign (x : Operand) : hop P fr H (.assign x) = ((hev fr x).map fun v => (v, H)) := by unfold hop; rfl
theorem hop_alloc (t : TypeId) : hop P fr H (.alloc t) = (halloc P H t) := by unfold hop; rfl
theorem hop_box (t : TypeId) (x : Operand) : hop P fr H (.box t x) = ((hev fr x).bind fun v => hbox H v) := by unfold hop; rfl
theorem hop_build (t : TypeId) (ps : Array (Nat × Operand)) : hop P fr H (.build t ps) = ((hparts fr ps.toList).bind fun vs => (hbuild P t vs).map fun v => (v, H)) := by unfold hop; rfl
theorem hop_buildSlice (t : TypeId) (n : Nat) (ps : Array (Nat × Operand)) : hop P fr H (.buildSlice t n ps) = ((hparts fr ps.toList).bind fun vs => hbuildSlice P H t n vs) := by unfold hop; rfl
theorem hop_load (t : TypeId) (a : Operand) : hop P fr H (.load t a) = ((hev fr a).bind fun p => (hload P H t p).map fun v => (v, H)) := by unfold hop; rfl
theorem hop_store (t : TypeId) (a : Operand) (x : Operand) : hop P fr H (.store t a x) = ((hev fr a).bind fun p => (hev fr x).bind fun v => (hstore P H t p v).map fun H' => (undef, H')) := by unfold hop; rfl
theorem hop_binOp (op : BinOp) (t : TypeId) (x : Operand) (y : Operand) (u : TypeId) : hop P fr H (.binOp op t x y u) = ((hev fr x).bind fun a => (hev fr y).bind fun b => (hbin P op t a b).map fun v => (v, H)) := by unfold hop; rfl
theorem hop_unOp (op : UnOp) (t : TypeId) (x : Operand) : hop P fr H (.unOp op t x) = ((hev fr x).bind fun a => (hunary op a).map fun v => (v, H)) := by unfold hop; rfl
theorem hop_convert (s : TypeId) (d : TypeId) (x : Operand) : hop P fr H (.convert s d x) = ((hev fr x).bind fun a => (hcv P H s d a).map fun v => (v, H)) := by unfold hop; rfl
theorem hop_slice (t : TypeId) (x : Operand) (lo : Option Operand) (hi : Option Operand) (mx : Option Operand) : hop P fr H (.slice t x lo hi mx) = ((hev fr x).bind fun v => (hopt fr lo).bind fun lo => (hopt fr hi).bind fun hi => (hopt fr mx).bind fun mx => (hslice P t v lo hi mx).map fun v => (v, H)) := by unfold hop; rfl
theorem hop_fieldAddr (s : TypeId) (x : Operand) (f : Nat) : hop P fr H (.fieldAddr s x f) = ((hev fr x).bind fun p => (hfieldAt P s p f).map fun v => (v, H)) := by unfold hop; rfl
theorem hop_field (t : TypeId) (x : Operand) (f : Nat) : hop P fr H (.field t x f) = ((hev fr x).bind fun p => (hfield P t p f).map fun v => (v, H)) := by unfold hop; rfl
theorem hop_lookup (t : TypeId) (m : Operand) (k : Operand) (ok : Bool) : hop P fr H (.lookup t m k ok) = ((hev fr m).bind fun p => (hev fr k).bind fun k => (hlookup P H t p k ok).map fun v => (v, H)) := by unfold hop; rfl
theorem hop_mapUpdate (t : TypeId) (m : Operand) (k : Operand) (x : Operand) : hop P fr H (.mapUpdate t m k x) = ((hev fr m).bind fun p => (hev fr k).bind fun k => (hev fr x).bind fun x => (hmapUpdate P H t p k x).map fun H' => (undef, H')) := by unfold hop; rfl
theorem hop_insert (t : TypeId) (m : Operand) (k : Operand) (x : Operand) : hop P fr H (.insert t m k x) = ((hev fr m).bind fun p => (hev fr k).bind fun k => (hev fr x).bind fun x => (hmapUpdate P H t p k x).map fun H' => (undef, H')) := by unfold hop; rfl
theorem hop_range (t : TypeId) (x : Operand) : hop P fr H (.range t x) = ((hev fr x).bind fun v => hrange P H t v) := by unfold hop; rfl
theorem hop_next (x : Operand) : hop P fr H (.next x true) = ((hev fr x).bind fun v => hnext H v) := by unfold hop; rfl
theorem hcallee_range (t : TypeId) (x : Operand) : hcallee P fr (.range t x) = none := by unfold hcallee; rfl
theorem hcallee_next (x : Operand) (b : Bool) : hcallee P fr (.next x b) = none := by unfold hcallee; rfl
theorem hcallee_move (x : Operand) : hcallee P fr (.move x) = none := by unfold hcallee; rfl
theorem hcallee_assign (x : Operand) : hcallee P fr (.assign x) = none := by unfold hcallee; rfl
theorem hcallee_alloc (t : TypeId) : hcallee P fr (.alloc t) = none := by unfold hcallee; rfl
theorem hcallee_box (t : TypeId) (x : Operand) : hcallee P fr (.box t x) = none := by unfold hcallee; rfl
theorem hcallee_build (t : TypeId) (ps : Array (Nat × Operand)) : hcallee P fr (.build t ps) = none := by unfold hcallee; rfl
theorem hcallee_buildSlice (t : TypeId) (n : Nat) (ps : Array (Nat × Operand)) : hcallee P fr (.buildSlice t n ps) = none := by unfold hcallee; rfl
theorem hcallee_load (t : TypeId) (a : Operand) : hcallee P fr (.load t a) = none := by unfold hcallee; rfl
theorem hcallee_store (t : TypeId) (a : Operand) (x : Operand) : hcallee P fr (.store t a x) = none := by unfold hcallee; rfl
theorem hcallee_binOp (op : BinOp) (t : TypeId) (x : Operand) (y : Operand) (u : TypeId) : hcallee P fr (.binOp op t x y u) = none := by unfold hcallee; rfl
theorem hcallee_unOp (op : UnOp) (t : TypeId) (x : Operand) : hcallee P fr (.unOp op t x) = none := by unfold hcallee; rfl
theorem hcallee_convert (s : TypeId) (d : TypeId) (x : Operand) : hcallee P fr (.convert s d x) = none := by unfold hcallee; rfl
theorem hcallee_slice (t : TypeId) (x : Operand) (lo : Option Operand) (hi : Option Operand) (mx : Option Operand) : hcallee P fr (.slice t x lo hi mx) = none := by unfold hcallee; rfl
theorem hcallee_fieldAddr (s : TypeId) (x : Operand) (f : Nat) : hcallee P fr (.fieldAddr s x f) = none := by unfold hcallee; rfl
theorem hcallee_field (t : TypeId) (x : Operand) (f : Nat) : hcallee P fr (.field t x f) = none := by unfold hcallee; rfl
theorem hcallee_lookup (t : TypeId) (m : Operand) (k : Operand) (ok : Bool) : hcallee P fr (.lookup t m k ok) = none := by unfold hcallee; rfl
theorem hcallee_mapUpdate (t : TypeId) (m : Operand) (k : Operand) (x : Operand) : hcallee P fr (.mapUpdate t m k x) = none := by unfold hcallee; rfl
theorem hcallee_insert (t : TypeId) (m : Operand) (k : Operand) (x : Operand) : hcallee P fr (.insert t m k x) = none := by unfold hcallee; rfl
theorem hcallee_pick (c : Operand) (a : Operand) (b : Operand) : hcallee P fr (.pick c a b) = none := by unfold hcallee; rfl
theorem hcallee_nilCheck (x : Operand) : hcallee P fr (.nilCheck x) = none := by unfold hcallee; rfl
theorem hcallee_indexAddr (t : TypeId) (x : Operand) (y : Operand) : hcallee P fr (.indexAddr t x y) = none := by unfold hcallee; rfl
theorem hcallee_index (t : TypeId) (x : Operand) (y : Operand) : hcallee P fr (.index t x y) = none := by unfold hcallee; rfl
theorem hcallee_extract (x : Operand) (n : Nat) : hcallee P fr (.extract x n) = none := by unfold hcallee; rfl
theorem hcallee_makeSlice (t : TypeId) (x : Operand) (y : Operand) : hcallee P fr (.makeSlice t x y) = none := by unfold hcallee; rfl
theorem hcallee_makeMap (t : TypeId) (r : Option Operand) : hcallee P fr (.makeMap t r) = none := by unfold hcallee; rfl
theorem hcallee_makeFunc (fn : Fn) (a b : Array Operand) : hcallee P fr (.makeFunc fn a b) = none := by unfold hcallee; rfl
theorem hcallee_makeInterface (t : TypeId) (x : Operand) : hcallee P fr (.makeInterface t x) = none := by unfold hcallee; rfl
theorem hcallee_builtin (b : Builtin) (args : Array Operand) (ts : Array TypeId) : hcallee P fr (.call { callee := .builtin b, args := args, argTypes := ts }) = none := by unfold hcallee; rfl
/-- Whom a call calls. -/
def hwho (P : Program) (x : Option Value) (vs : Option (List Value)) : Option (FuncId × List Value) :=
  match x, vs with
  | some (.func (.func f) first captured), some vs => if isGo P f then some (f, first.toList ++ (vs ++ captured.toList)) else none
  | _, _ => none
theorem hwho_func0 (f : FuncId) (vs : List Value) (h : isGo P f = true) : hwho P (some (.func (.func f) #[] #[])) (some vs) = some (f, vs) := by
  unfold hwho; simp [h]
theorem hcallee_call (x : Operand) (args : Array Operand) (ts : Array TypeId) : hcallee P fr (.call { callee := .value x, args := args, argTypes := ts }) = hwho P (hev fr x) (hevs fr args.toList) := by unfold hcallee hwho; rfl

theorem hbuiltin_len (t : TypeId) (x : Value) : hbuiltin P H .len [t] [x] = (hlen P H t x).map fun v => (v, H) := by unfold hbuiltin; rfl
theorem hbuiltin_append (t u : TypeId) (s x : Value) : hbuiltin P H .append [t, u] [s, x] = happend P H t u s x := by unfold hbuiltin; rfl
theorem hbuiltin_copy (t u : TypeId) (s x : Value) : hbuiltin P H .copy [t, u] [s, x] = hcopy P H t s x := by unfold hbuiltin; rfl
theorem hbuiltin_min (ts : List TypeId) (x y : Value) : hbuiltin P H .min ts [x, y] = (hmin2 x y).map fun v => (v, H) := by
  unfold hbuiltin; simp only [hfold]; cases hmin2 x y <;> rfl
theorem hbuiltin_max (ts : List TypeId) (x y : Value) : hbuiltin P H .max ts [x, y] = (hmax2 x y).map fun v => (v, H) := by
  unfold hbuiltin; simp only [hfold]; cases hmax2 x y <;> rfl

theorem hresults_nil : hresults P fr H [] = some [] := by unfold hresults; rfl
theorem hresults_tmp (t : Nat) (rs : List ResultVar) : hresults P fr H (.tmp t :: rs) = (fr.get t).bind fun v => (hresults P fr H rs).map fun vs => v :: vs := by rw [hresults, hresult]
theorem hresults_cell (a : Nat) (t : TypeId) (rs : List ResultVar) : hresults P fr H (.cell a t :: rs) = ((fr.get a).bind fun p => hload P H t p).bind fun v => (hresults P fr H rs).map fun vs => v :: vs := by
  rw [hresults]
  have : hresult P fr H (.cell a t) = (fr.get a).bind fun p => hload P H t p := by
    simp only [hresult]
    cases fr.get a <;> rfl
  rw [this]

theorem hbin_int {op : BinOp} (k : IntKind) (a b : Int) (t : TypeId) (h : (op == .shl || op == .shr) = false) : hbin P op t (.int k a) (.int k b) = hint op k a b := by
  cases op <;> simp at h <;> simp [hbin]
theorem hbin_shl (k k' : IntKind) (a b : Int) (t : TypeId) : hbin P .shl t (.int k a) (.int k' b) = hshift .shl k a b := by simp [hbin]
theorem hbin_shr (k k' : IntKind) (a b : Int) (t : TypeId) : hbin P .shr t (.int k a) (.int k' b) = hshift .shr k a b := by simp [hbin]

end Go.HL
