/-
  The walking equations without lambdas: simp keeps its cache.
-/
import Derived.Test.YtoflnkdngcdejaaGreatDoorPN1
set_option linter.unusedVariables false
set_option linter.unusedSimpArgs false
namespace Go.HL
open Go.RowKit

variable {P : Program} {ops : Array Oper} {fr : HFrame} {H : HHeap}

def hret (o : Option Value) (H : HHeap) : Option (Value × HHeap) := match o with | some v => some (v, H) | none => none
theorem hret_some (v : Value) (H : HHeap) : hret (some v) H = some (v, H) := by unfold hret; rfl
def hdone (o : Option HHeap) : Option (Value × HHeap) := match o with | some H => some (undef, H) | none => none
theorem hdone_some (H : HHeap) : hdone (some H) = some (undef, H) := by unfold hdone; rfl
def hb1 {α β : Type} (f : α → Option β) (a : Option α) : Option β := match a with | some a => f a | none => none
theorem hb1_some {α β : Type} (f : α → Option β) (a : α) : hb1 f (some a) = f a := by unfold hb1; rfl
def hb2 {α α' β : Type} (f : α → α' → Option β) (a : Option α) (b : Option α') : Option β := match a, b with | some a, some b => f a b | _, _ => none
theorem hb2_some {α α' β : Type} (f : α → α' → Option β) (a : α) (b : α') : hb2 f (some a) (some b) = f a b := by unfold hb2; rfl
def hb3 {α α' α'' β : Type} (f : α → α' → α'' → Option β) (a : Option α) (b : Option α') (c : Option α'') : Option β := match a, b, c with | some a, some b, some c => f a b c | _, _, _ => none
theorem hb3_some {α α' α'' β : Type} (f : α → α' → α'' → Option β) (a : α) (b : α') (c : α'') : hb3 f (some a) (some b) (some c) = f a b c := by unfold hb3; rfl
def hb4 {α α1 α2 α3 β : Type} (f : α → α1 → α2 → α3 → Option β) (a : Option α) (b : Option α1) (c : Option α2) (d : Option α3) : Option β := match a, b, c, d with | some a, some b, some c, some d => f a b c d | _, _, _, _ => none
theorem hb4_some {α α1 α2 α3 β : Type} (f : α → α1 → α2 → α3 → Option β) (a : α) (b : α1) (c : α2) (d : α3) : hb4 f (some a) (some b) (some c) (some d) = f a b c d := by unfold hb4; rfl
def hcons (a : Option Value) (l : Option (List Value)) : Option (List Value) := match a, l with | some a, some l => some (a :: l) | _, _ => none
theorem hcons_some (a : Value) (l : List Value) : hcons (some a) (some l) = some (a :: l) := by unfold hcons; rfl
def hpcons (i : Nat) (a : Option Value) (l : Option (List (Nat × Value))) : Option (List (Nat × Value)) := match a, l with | some a, some l => some ((i, a) :: l) | _, _ => none
theorem hpcons_some (i : Nat) (a : Value) (l : List (Nat × Value)) : hpcons i (some a) (some l) = some ((i, a) :: l) := by unfold hpcons; rfl

theorem map_ret (o : Option Value) (H : HHeap) : (o.map fun v => (v, H)) = hret o H := by cases o <;> rfl
theorem bind_ret (o : Option Value) (f : Value → Option Value) (H : HHeap) : (o.bind fun p => (f p).map fun v => (v, H)) = hret (hb1 f o) H := by
  cases o with
  | none => rfl
  | some p => simp only [Option.bind_some, hb1_some, map_ret]

theorem e_evs_cons (x : Operand) (xs : List Operand) : hevs fr (x :: xs) = hcons (hev fr x) (hevs fr xs) := by
  rw [hevs]; cases hev fr x <;> cases hevs fr xs <;> rfl
theorem e_parts_cons (i : Nat) (x : Operand) (xs : List (Nat × Operand)) : hparts fr ((i, x) :: xs) = hpcons i (hev fr x) (hparts fr xs) := by
  rw [hparts]; cases hev fr x <;> cases hparts fr xs <;> rfl
theorem e_results_tmp (t : Nat) (rs : List ResultVar) : hresults P fr H (.tmp t :: rs) = hcons (fr.get t) (hresults P fr H rs) := by
  rw [hresults_tmp]; cases fr.get t <;> cases hresults P fr H rs <;> rfl
theorem e_results_cell (a : Nat) (t : TypeId) (rs : List ResultVar) : hresults P fr H (.cell a t :: rs) = hcons (hb1 (hload P H t) (fr.get a)) (hresults P fr H rs) := by
  rw [hresults_cell]
  cases fr.get a with
  | none => cases hresults P fr H rs <;> rfl
  | some p => simp only [Option.bind_some, hb1_some]; cases hload P H t p <;> cases hresults P fr H rs <;> rfl

def epick (c a b : Option Value) : Option Value := match c with | some (.bool true) => a | some (.bool false) => b | _ => none
theorem epick_true (a b : Option Value) : epick (some (.bool true)) a b = a := by unfold epick; rfl
theorem epick_false (a b : Option Value) : epick (some (.bool false)) a b = b := by unfold epick; rfl
theorem epick_pos {p : Prop} [Decidable p] (h : p) (x y : Option Value) : epick (some (.bool (decide p))) x y = x := by rw [show decide p = true by simp [h], epick_true]
theorem epick_neg {p : Prop} [Decidable p] (h : ¬ p) (x y : Option Value) : epick (some (.bool (decide p))) x y = y := by rw [show decide p = false by simp [h], epick_false]
theorem e_pick (c a b : Operand) : hop P fr H (.pick c a b) = hret (epick (hev fr c) (hev fr a) (hev fr b)) H := by
  unfold hop epick; simp only; split <;> first | (rename_i h; rw [h]; simp only [map_ret]) | (simp only [hret]; done) | skip
  all_goals (split <;> simp_all [hret])
theorem e_nilCheck (x : Operand) : hop P fr H (.nilCheck x) = hnil (hev fr x) H := hop_nilCheck x
def iixA (P : Program) (t : TypeId) (x i : Value) : Option Value := match i with | .int k n => hindexAt P t x (.int k n) | _ => none
theorem iixA_int (t : TypeId) (x : Value) (k : IntKind) (n : Int) : iixA P t x (.int k n) = hindexAt P t x (.int k n) := by unfold iixA; rfl
theorem e_indexAddr (t : TypeId) (x i : Operand) : hop P fr H (.indexAddr t x i) = hret (hb2 (iixA P t) (hev fr x) (hev fr i)) H := by
  rw [hop_indexAddr]; unfold hixA
  cases hev fr x with
  | none => rfl
  | some p =>
    cases hev fr i with
    | none => rfl
    | some v => simp only [Option.bind_some, hb2_some]; cases v <;> first | rfl | simp only [iixA, map_ret]
def iix (P : Program) (t : TypeId) (x i : Value) : Option Value := match i with | .int k n => hindex P t x (.int k n) | _ => none
theorem iix_int (t : TypeId) (x : Value) (k : IntKind) (n : Int) : iix P t x (.int k n) = hindex P t x (.int k n) := by unfold iix; rfl
theorem e_index (t : TypeId) (x i : Operand) : hop P fr H (.index t x i) = hret (hb2 (iix P t) (hev fr x) (hev fr i)) H := by
  rw [hop_index]; unfold hix
  cases hev fr x with
  | none => rfl
  | some p =>
    cases hev fr i with
    | none => rfl
    | some v => simp only [Option.bind_some, hb2_some]; cases v <;> first | rfl | simp only [iix, map_ret]
def eext (i : Nat) (x : Value) : Option Value := match x with | .tuple vs => vs.toList[i]? | _ => none
theorem eext_tuple (vs : Array Value) (i : Nat) : eext i (.tuple vs) = vs.toList[i]? := by unfold eext; rfl
theorem e_extract (x : Operand) (i : Nat) : hop P fr H (.extract x i) = hret (hb1 (eext i) (hev fr x)) H := by
  rw [hop_extract]; unfold hext
  cases hev fr x with
  | none => rfl
  | some v => simp only [hb1_some]; cases v <;> first | rfl | simp only [eext, map_ret]
def emk (P : Program) (H : HHeap) (t : TypeId) (l c : Value) : Option (Value × HHeap) := match l, c with | .int k l, .int k' c => hmakeSlice P H t (.int k l) (.int k' c) | _, _ => none
theorem emk_int (t : TypeId) (k k' : IntKind) (l c : Int) : emk P H t (.int k l) (.int k' c) = hmakeSlice P H t (.int k l) (.int k' c) := by unfold emk; rfl
theorem e_makeSlice (t : TypeId) (l c : Operand) : hop P fr H (.makeSlice t l c) = hb2 (emk P H t) (hev fr l) (hev fr c) := by
  rw [hop_makeSlice]; unfold hmk
  cases hev fr l with
  | none => rfl
  | some p =>
    cases hev fr c with
    | none => cases p <;> rfl
    | some v => simp only [hb2_some]; cases p <;> cases v <;> rfl
def efunc (fn : Fn) (vs : List Value) : Option Value := some (.func fn #[] vs.toArray)
theorem efunc_eq (fn : Fn) (vs : List Value) : efunc fn vs = some (.func fn #[] vs.toArray) := by unfold efunc; rfl
theorem e_makeFunc (fn : Fn) (cs : Array Operand) : hop P fr H (.makeFunc fn #[] cs) = hret (hb1 (efunc fn) (hevs fr cs.toList)) H := by
  rw [hop_makeFunc]; cases hevs fr cs.toList <;> rfl
def eiface (t : TypeId) (v : Value) : Option Value := some (.iface t v)
theorem eiface_eq (t : TypeId) (v : Value) : eiface t v = some (.iface t v) := by unfold eiface; rfl
theorem e_makeInterface (t : TypeId) (x : Operand) (h : kindOf P t ≠ 5) (h' : (P.underlying t).isSome = true) : hop P fr H (.makeInterface t x) = hret (hb1 (eiface t) (hev fr x)) H := by
  rw [hop_makeInterface t x h h']; cases hev fr x <;> rfl
theorem e_builtin (b : Builtin) (args : Array Operand) (ts : Array TypeId) : hop P fr H (.call { callee := .builtin b, args := args, argTypes := ts }) = hb1 (hbuiltin P H b ts.toList) (hevs fr args.toList) := by
  rw [hop_builtin]; cases hevs fr args.toList <;> rfl
theorem e_move (x : Operand) : hop P fr H (.move x) = hret (hev fr x) H := by rw [hop_move, map_ret]
theorem e_assign (x : Operand) : hop P fr H (.assign x) = hret (hev fr x) H := by rw [hop_assign, map_ret]
theorem e_box (t : TypeId) (x : Operand) : hop P fr H (.box t x) = hb1 (hbox H) (hev fr x) := by rw [hop_box]; cases hev fr x <;> rfl
theorem e_build (t : TypeId) (ps : Array (Nat × Operand)) : hop P fr H (.build t ps) = hret (hb1 (hbuild P t) (hparts fr ps.toList)) H := by
  rw [hop_build]; cases hparts fr ps.toList with
  | none => rfl
  | some l => simp only [Option.bind_some, hb1_some, map_ret]
theorem e_buildSlice (t : TypeId) (n : Nat) (ps : Array (Nat × Operand)) : hop P fr H (.buildSlice t n ps) = hb1 (hbuildSlice P H t n) (hparts fr ps.toList) := by rw [hop_buildSlice]; cases hparts fr ps.toList <;> rfl
theorem e_load (t : TypeId) (a : Operand) : hop P fr H (.load t a) = hret (hb1 (hload P H t) (hev fr a)) H := by rw [hop_load, bind_ret]
theorem e_store (t : TypeId) (a : Operand) (x : Operand) : hop P fr H (.store t a x) = hdone (hb2 (hstore P H t) (hev fr a) (hev fr x)) := by
  rw [hop_store]; cases hev fr a with
  | none => rfl
  | some p => cases hev fr x with
    | none => rfl
    | some v => simp only [Option.bind_some, hb2_some]; cases hstore P H t p v <;> rfl
theorem e_binOp (op : BinOp) (t : TypeId) (x : Operand) (y : Operand) (u : TypeId) : hop P fr H (.binOp op t x y u) = hret (hb2 (hbin P op t) (hev fr x) (hev fr y)) H := by
  rw [hop_binOp]; cases hev fr x with
  | none => rfl
  | some p => cases hev fr y with
    | none => rfl
    | some v => simp only [Option.bind_some, hb2_some, map_ret]
theorem e_unOp (op : UnOp) (t : TypeId) (x : Operand) : hop P fr H (.unOp op t x) = hret (hb1 (hunary op) (hev fr x)) H := by rw [hop_unOp, bind_ret]
theorem e_convert (s : TypeId) (d : TypeId) (x : Operand) : hop P fr H (.convert s d x) = hret (hb1 (hcv P H s d) (hev fr x)) H := by rw [hop_convert, bind_ret]
theorem e_slice (t : TypeId) (x : Operand) (lo : Option Operand) (hi : Option Operand) (mx : Option Operand) : hop P fr H (.slice t x lo hi mx) = hret (hb4 (hslice P t) (hev fr x) (hopt fr lo) (hopt fr hi) (hopt fr mx)) H := by
  rw [hop_slice]; cases hev fr x with
  | none => rfl
  | some p => cases hopt fr lo with
    | none => rfl
    | some a => cases hopt fr hi with
      | none => rfl
      | some b => cases hopt fr mx with
        | none => rfl
        | some c => simp only [Option.bind_some, hb4_some, map_ret]
def efld (P : Program) (s : TypeId) (f : Nat) (p : Value) : Option Value := hfieldAt P s p f
theorem e_fieldAddr (s : TypeId) (x : Operand) (f : Nat) : hop P fr H (.fieldAddr s x f) = hret (hb1 (efld P s f) (hev fr x)) H := by rw [hop_fieldAddr, bind_ret]; rfl
def efieldv (P : Program) (s : TypeId) (f : Nat) (p : Value) : Option Value := hfield P s p f
theorem e_field (t : TypeId) (x : Operand) (f : Nat) : hop P fr H (.field t x f) = hret (hb1 (efieldv P t f) (hev fr x)) H := by rw [hop_field, bind_ret]; rfl
def elook (P : Program) (H : HHeap) (t : TypeId) (ok : Bool) (m k : Value) : Option Value := hlookup P H t m k ok
theorem e_lookup (t : TypeId) (m : Operand) (k : Operand) (ok : Bool) : hop P fr H (.lookup t m k ok) = hret (hb2 (elook P H t ok) (hev fr m) (hev fr k)) H := by
  rw [hop_lookup]; cases hev fr m with
  | none => rfl
  | some p => cases hev fr k with
    | none => rfl
    | some v => simp only [Option.bind_some, hb2_some, map_ret, elook]
theorem e_mapUpdate (t : TypeId) (m : Operand) (k : Operand) (x : Operand) : hop P fr H (.mapUpdate t m k x) = hdone (hb3 (hmapUpdate P H t) (hev fr m) (hev fr k) (hev fr x)) := by
  rw [hop_mapUpdate]; cases hev fr m with
  | none => rfl
  | some p => cases hev fr k with
    | none => rfl
    | some v => cases hev fr x with
      | none => rfl
      | some z => simp only [Option.bind_some, hb3_some]; cases hmapUpdate P H t p v z <;> rfl
theorem e_insert (t : TypeId) (m : Operand) (k : Operand) (x : Operand) : hop P fr H (.insert t m k x) = hdone (hb3 (hmapUpdate P H t) (hev fr m) (hev fr k) (hev fr x)) := by
  rw [hop_insert]; cases hev fr m with
  | none => rfl
  | some p => cases hev fr k with
    | none => rfl
    | some v => cases hev fr x with
      | none => rfl
      | some z => simp only [Option.bind_some, hb3_some]; cases hmapUpdate P H t p v z <;> rfl
theorem e_len (t : TypeId) (x : Value) : hbuiltin P H .len [t] [x] = hret (hlen P H t x) H := by rw [hbuiltin_len, map_ret]
theorem e_min (ts : List TypeId) (x y : Value) : hbuiltin P H .min ts [x, y] = hret (hmin2 x y) H := by rw [hbuiltin_min, map_ret]
theorem e_max (ts : List TypeId) (x y : Value) : hbuiltin P H .max ts [x, y] = hret (hmax2 x y) H := by rw [hbuiltin_max, map_ret]

def eguard (want : Bool) (v : Option Value) : Option Bool := match v with | some (.bool b) => some (b == want) | some (.tuple _) => some false | _ => none
theorem eguard_true (b : Bool) : eguard true (some (.bool b)) = some b := by unfold eguard; cases b <;> rfl
theorem eguard_false (b : Bool) : eguard false (some (.bool b)) = some (!b) := by unfold eguard; cases b <;> rfl
theorem eguard_undef (want : Bool) : eguard want (some undef) = some false := by unfold eguard undef; rfl
def edst (o : Option Oper) : Option Tmp := match o with | some o => o.dst | none => none
theorem edst_some (d : Option Tmp) (op : Op) (ty : TypeId) (pos : String) (af : Array Edge) (g : Option (Nat × Bool)) : edst (some ⟨d, op, ty, pos, af, g⟩) = d := by unfold edst; rfl
theorem e_wanted (d : Option Tmp) (op : Op) (t : TypeId) (pos : String) (af : Array Edge) (j : Nat) (want : Bool) : hwanted ops fr ⟨d, op, t, pos, af, some (j, want)⟩ = eguard want (hb1 fr.get (edst (ops[j]?))) := by
  rw [hwanted_some]
  cases ops[j]? with
  | none => rfl
  | some o => cases hd : o.dst with
    | none => simp [edst, hd, hb1, hguard, eguard]
    | some t => simp only [Option.bind_some, edst, hd, hb1_some, hguard, eguard]; rfl

theorem HBlock_exit_ne (id id' : Nat) (h : id' ≠ id) (Q : Exit → HFrame → HHeap → Prop) (fr : HFrame) (H : HHeap) : HBlock id Q (.exit id') fr H = Q (.exit id') fr H := HBlock_exit_other id id' Q fr H (by simp [h])
theorem b_add (t : TypeId) (k : IntKind) (x y : Int) : hbin P .add t (.int k x) (.int k y) = some (.int k (k.wrap (x + y))) := by rw [hbin_int _ _ _ _ rfl, hint_add]
theorem b_sub (t : TypeId) (k : IntKind) (x y : Int) : hbin P .sub t (.int k x) (.int k y) = some (.int k (k.wrap (x - y))) := by rw [hbin_int _ _ _ _ rfl, hint_sub]
theorem b_mul (t : TypeId) (k : IntKind) (x y : Int) : hbin P .mul t (.int k x) (.int k y) = some (.int k (k.wrap (x * y))) := by rw [hbin_int _ _ _ _ rfl, hint_mul]
theorem b_eql (t : TypeId) (k : IntKind) (x y : Int) : hbin P .eql t (.int k x) (.int k y) = some (.bool (decide (x = y))) := by rw [hbin_int _ _ _ _ rfl, hint_eql]
theorem b_neq (t : TypeId) (k : IntKind) (x y : Int) : hbin P .neq t (.int k x) (.int k y) = some (.bool (decide (x ≠ y))) := by rw [hbin_int _ _ _ _ rfl, hint_neq]
theorem b_lss (t : TypeId) (k : IntKind) (x y : Int) : hbin P .lss t (.int k x) (.int k y) = some (.bool (decide (x < y))) := by rw [hbin_int _ _ _ _ rfl, hint_lss]
theorem b_leq (t : TypeId) (k : IntKind) (x y : Int) : hbin P .leq t (.int k x) (.int k y) = some (.bool (decide (x ≤ y))) := by rw [hbin_int _ _ _ _ rfl, hint_leq]
theorem b_gtr (t : TypeId) (k : IntKind) (x y : Int) : hbin P .gtr t (.int k x) (.int k y) = some (.bool (decide (y < x))) := by rw [hbin_int _ _ _ _ rfl, hint_gtr]
theorem b_geq (t : TypeId) (k : IntKind) (x y : Int) : hbin P .geq t (.int k x) (.int k y) = some (.bool (decide (y ≤ x))) := by rw [hbin_int _ _ _ _ rfl, hint_geq]
theorem b_quo (t : TypeId) (k : IntKind) (x y : Int) : hbin P .quo t (.int k x) (.int k y) = hint .quo k x y := by rw [hbin_int _ _ _ _ rfl]
theorem b_rem (t : TypeId) (k : IntKind) (x y : Int) : hbin P .rem t (.int k x) (.int k y) = hint .rem k x y := by rw [hbin_int _ _ _ _ rfl]
theorem b_and (t : TypeId) (k : IntKind) (x y : Int) : hbin P .and t (.int k x) (.int k y) = hint .and k x y := by rw [hbin_int _ _ _ _ rfl]
theorem b_or (t : TypeId) (k : IntKind) (x y : Int) : hbin P .or t (.int k x) (.int k y) = hint .or k x y := by rw [hbin_int _ _ _ _ rfl]
theorem u_neg (k : IntKind) (x : Int) : hunary .neg (.int k x) = some (.int k (k.wrap (0 - x))) := by unfold hunary; rfl
theorem u_not (b : Bool) : hunary .not (.bool b) = some (.bool (!b)) := by unfold hunary; rfl
def eAll (l : List Value) : Bool := l.all flat1
theorem eAll_nil : eAll [] = true := rfl
end Go.HL
