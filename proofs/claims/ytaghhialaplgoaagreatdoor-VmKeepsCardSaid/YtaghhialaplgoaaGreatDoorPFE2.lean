/-
  Joined: N1, E1, E2.
-/
import Derived.Test.YtaghhialaplgoaaGreatDoorPFH15
import Derived.Laws.Bits64b
set_option linter.unusedVariables false
set_option linter.unusedSimpArgs false
/-
  Numbers, as the walks meet them.
-/
namespace Go.HL
open Go.RowKit

variable {P : Program}

theorem hint_add (k : IntKind) (x y : Int) : hint .add k x y = some (.int k (k.wrap (x + y))) := by unfold hint; rfl
theorem hint_sub (k : IntKind) (x y : Int) : hint .sub k x y = some (.int k (k.wrap (x - y))) := by unfold hint; rfl
theorem hint_mul (k : IntKind) (x y : Int) : hint .mul k x y = some (.int k (k.wrap (x * y))) := by unfold hint; rfl
theorem hint_eql (k : IntKind) (x y : Int) : hint .eql k x y = some (.bool (decide (x = y))) := by
  unfold hint; simp only [Option.some.injEq, Value.bool.injEq]
  by_cases h : x = y <;> simp [h]
theorem hint_neq (k : IntKind) (x y : Int) : hint .neq k x y = some (.bool (decide (x ≠ y))) := by
  unfold hint; simp only [Option.some.injEq, Value.bool.injEq]
  by_cases h : x = y <;> simp [h]
theorem hint_lss (k : IntKind) (x y : Int) : hint .lss k x y = some (.bool (decide (x < y))) := by unfold hint; rfl
theorem hint_leq (k : IntKind) (x y : Int) : hint .leq k x y = some (.bool (decide (x ≤ y))) := by unfold hint; rfl
theorem hint_gtr (k : IntKind) (x y : Int) : hint .gtr k x y = some (.bool (decide (y < x))) := by unfold hint; rfl
theorem hint_geq (k : IntKind) (x y : Int) : hint .geq k x y = some (.bool (decide (y ≤ x))) := by unfold hint; rfl
theorem hint_quo (k : IntKind) (x y : Int) (h : 0 ≤ x) (hy : 0 < y) : hint .quo k x y = some (.int k (k.wrap (x / y))) := by
  unfold hint; simp only; rw [if_neg (by omega), Int.tdiv_eq_ediv_of_nonneg h]
theorem hint_rem (k : IntKind) (x y : Int) (h : 0 ≤ x) (hy : 0 < y) : hint .rem k x y = some (.int k (x % y)) := by
  unfold hint; simp only; rw [if_neg (by omega), Int.tmod_eq_emod_of_nonneg h]

theorem wrap_i (x : Int) (h : -9223372036854775808 ≤ x) (h' : x < 9223372036854775808) : IntKind.i64.wrap x = x := by rw [IntKind.wrap_i64]; omega
theorem wrap_u (x : Int) (h : 0 ≤ x) (h' : x < 18446744073709551616) : IntKind.u64.wrap x = x := by rw [IntKind.wrap_u64]; omega

theorem ofInt_nat (x : Nat) (h : x < 18446744073709551616) : (BitVec.ofInt 64 (x : Int)).toNat = x := by
  rw [BitVec.ofInt_natCast, BitVec.toNat_ofNat]; exact Nat.mod_eq_of_lt (by omega)

theorem hint_and7 (x : Int) (h : 0 ≤ x) (h' : x < 18446744073709551616) : hint .and .u64 x 7 = some (.int .u64 (x % 8)) := by
  obtain ⟨n, rfl⟩ := Int.eq_ofNat_of_zero_le h
  show some (Value.int .u64 (IntKind.u64.wrap ((BitVec.ofInt 64 (n : Int) &&& BitVec.ofInt 64 7).toNat : Int))) = _
  rw [BitVec.toNat_and, ofInt_nat n (by omega), show ((7 : Int)) = ((7 : Nat) : Int) from rfl, ofInt_nat 7 (by omega)]
  rw [show (7 : Nat) = 2 ^ 3 - 1 from rfl, Nat.and_two_pow_sub_one_eq_mod, wrap_u _ (by omega) (by omega)] <;> simp
theorem hint_and255 (x : Int) (h : 0 ≤ x) (h' : x < 18446744073709551616) : hint .and .u64 x 255 = some (.int .u64 (x % 256)) := by
  obtain ⟨n, rfl⟩ := Int.eq_ofNat_of_zero_le h
  show some (Value.int .u64 (IntKind.u64.wrap ((BitVec.ofInt 64 (n : Int) &&& BitVec.ofInt 64 255).toNat : Int))) = _
  rw [BitVec.toNat_and, ofInt_nat n (by omega), show ((255 : Int)) = ((255 : Nat) : Int) from rfl, ofInt_nat 255 (by omega)]
  rw [show (255 : Nat) = 2 ^ 8 - 1 from rfl, Nat.and_two_pow_sub_one_eq_mod, wrap_u _ (by omega) (by omega)] <;> simp

theorem or_low (x y k : Nat) (h : x % 2 ^ k = 0) (hy : y < 2 ^ k) : x ||| y = x + y := by
  obtain ⟨m, rfl⟩ := Nat.dvd_of_mod_eq_zero h
  rw [Nat.mul_comm, ← Nat.shiftLeft_eq, Nat.shiftLeft_add_eq_or_of_lt hy]

theorem hint_or3 (x y : Int) (h : 0 ≤ x) (h' : x < 18446744073709551616) (h8 : x % 8 = 0) (hy : 0 ≤ y) (hy' : y < 8) : hint .or .u64 x y = some (.int .u64 (x + y)) := by
  obtain ⟨n, rfl⟩ := Int.eq_ofNat_of_zero_le h
  obtain ⟨m, rfl⟩ := Int.eq_ofNat_of_zero_le hy
  show some (Value.int .u64 (IntKind.u64.wrap ((BitVec.ofInt 64 (n : Int) ||| BitVec.ofInt 64 (m : Int)).toNat : Int))) = _
  rw [BitVec.toNat_or, ofInt_nat n (by omega), ofInt_nat m (by omega), or_low n m 3 (by omega) (by omega), wrap_u _ (by omega) (by omega)] <;> simp
theorem hint_or8 (x y : Int) (h : 0 ≤ x) (h' : x < 4611686018427387904) (h8 : x % 256 = 0) (hy : 0 ≤ y) (hy' : y < 256) : hint .or .i64 x y = some (.int .i64 (x + y)) := by
  obtain ⟨n, rfl⟩ := Int.eq_ofNat_of_zero_le h
  obtain ⟨m, rfl⟩ := Int.eq_ofNat_of_zero_le hy
  show some (Value.int .i64 (IntKind.i64.wrap ((BitVec.ofInt 64 (n : Int) ||| BitVec.ofInt 64 (m : Int)).toNat : Int))) = _
  rw [BitVec.toNat_or, ofInt_nat n (by omega), ofInt_nat m (by omega), or_low n m 8 (by omega) (by omega), wrap_i _ (by omega) (by omega)] <;> simp

theorem hshift_shl (k : IntKind) (x y : Int) (hy : 0 ≤ y) (hy' : y < 64) (hk : k.bits = 64) : hshift .shl k x y = some (.int k (k.wrap (x * 2 ^ y.toNat))) := by
  unfold hshift; rw [if_neg (by omega), hk, Nat.min_eq_left (by omega)]
theorem hshl3 (x : Int) : hshift .shl .u64 x 3 = some (.int .u64 (IntKind.u64.wrap (x * 8))) := hshift_shl _ _ _ (by omega) (by omega) rfl
theorem hshl3i (x : Int) : hshift .shl .i64 x 3 = some (.int .i64 (IntKind.i64.wrap (x * 8))) := hshift_shl _ _ _ (by omega) (by omega) rfl
theorem hshl8i (x : Int) : hshift .shl .i64 x 8 = some (.int .i64 (IntKind.i64.wrap (x * 256))) := hshift_shl _ _ _ (by omega) (by omega) rfl
theorem hshr3 (x : Int) : hshift .shr .u64 x 3 = some (.int .u64 (x / 8)) := by
  unfold hshift; rw [if_neg (by omega)]; simp only [IntKind.bits, Option.some.injEq, Value.int.injEq, true_and]
  rw [show (2 : Int) ^ min (3 : Int).toNat 64 = 8 from rfl, Int.fdiv_eq_ediv_of_nonneg _ (by omega)]
theorem hshr8 (x : Int) : hshift .shr .u64 x 8 = some (.int .u64 (x / 256)) := by
  unfold hshift; rw [if_neg (by omega)]; simp only [IntKind.bits, Option.some.injEq, Value.int.injEq, true_and]
  rw [show (2 : Int) ^ min (8 : Int).toNat 64 = 256 from rfl, Int.fdiv_eq_ediv_of_nonneg _ (by omega)]

theorem HIf_pos {p : Prop} [Decidable p] (h : p) (X Y : HFrame → HHeap → Prop) (fr : HFrame) (H : HHeap) : HIf (decide p) X Y fr H = X fr H := by simp [h, HIf]
theorem HIf_neg {p : Prop} [Decidable p] (h : ¬ p) (X Y : HFrame → HHeap → Prop) (fr : HFrame) (H : HHeap) : HIf (decide p) X Y fr H = Y fr H := by simp [h, HIf]
theorem HIf_not_pos {p : Prop} [Decidable p] (h : p) (X Y : HFrame → HHeap → Prop) (fr : HFrame) (H : HHeap) : HIf (!decide p) X Y fr H = Y fr H := by simp [h, HIf]
theorem HIf_not_neg {p : Prop} [Decidable p] (h : ¬ p) (X Y : HFrame → HHeap → Prop) (fr : HFrame) (H : HHeap) : HIf (!decide p) X Y fr H = X fr H := by simp [h, HIf]
theorem HWant_pos {p : Prop} [Decidable p] (h : p) (no : Value → HHeap → Prop) (yes : HHeap → Prop) (H : HHeap) : HWant (some (decide p)) no yes H = yes H := by simp [h, HWant]
theorem HWant_neg {p : Prop} [Decidable p] (h : ¬ p) (no : Value → HHeap → Prop) (yes : HHeap → Prop) (H : HHeap) : HWant (some (decide p)) no yes H = no undef H := by simp [h, HWant]
theorem HWant_not_pos {p : Prop} [Decidable p] (h : p) (no : Value → HHeap → Prop) (yes : HHeap → Prop) (H : HHeap) : HWant (some (!decide p)) no yes H = no undef H := by simp [h, HWant]
theorem HWant_not_neg {p : Prop} [Decidable p] (h : ¬ p) (no : Value → HHeap → Prop) (yes : HHeap → Prop) (H : HHeap) : HWant (some (!decide p)) no yes H = yes H := by simp [h, HWant]
/-- A word, and a number. -/
abbrev U (n : Nat) : Value := .int .u64 (n : Int)
abbrev I (n : Int) : Value := .int .i64 n
end Go.HL
/-
  The walking equations without lambdas: simp keeps its cache.
-/
namespace Go.HL
open Go.RowKit

variable {P : Program} {ops : Array Oper} {fr : HFrame} {H : HHeap}

def hret (o : Option Value) (H : HHeap) : Option (Value × HHeap) := match o with | some v => some (v, H) | none => none
theorem hret_some (v : Value) (H : HHeap) : hret (some v) H = some (v, H) := by unfold hret; rfl
def hdone (o : Option HHeap) : Option (Value × HHeap) := match o with | some H => some (undef, H) | none => none
theorem hdone_some (H : HHeap) : hdone (some H) = some (undef, H) := by unfold hdone; rfl
def hb1 {α β : Type} (f : α → Option β) (a : Option α) : Option β := match a with | some a => f a | none => none
theorem hb1_some {α β : Type} (f : α → Option β) (a : α) : hb1 f (some a) = f a := by unfold hb1; rfl
def hb2 {α α' β : Type} (f : α → α' → Option β) (a : Option α) (b : Option α') : Option β := match a, b with | some a, some b => f a b | _, _ => none
theorem hb2_some {α α' β : Type} (f : α → α' → Option β) (a : α) (b : α') : hb2 f (some a) (some b) = f a b := by unfold hb2; rfl
def hb3 {α α' α'' β : Type} (f : α → α' → α'' → Option β) (a : Option α) (b : Option α') (c : Option α'') : Option β := match a, b, c with | some a, some b, some c => f a b c | _, _, _ => none
theorem hb3_some {α α' α'' β : Type} (f : α → α' → α'' → Option β) (a : α) (b : α') (c : α'') : hb3 f (some a) (some b) (some c) = f a b c := by unfold hb3; rfl
def hb4 {α α1 α2 α3 β : Type} (f : α → α1 → α2 → α3 → Option β) (a : Option α) (b : Option α1) (c : Option α2) (d : Option α3) : Option β := match a, b, c, d with | some a, some b, some c, some d => f a b c d | _, _, _, _ => none
theorem hb4_some {α α1 α2 α3 β : Type} (f : α → α1 → α2 → α3 → Option β) (a : α) (b : α1) (c : α2) (d : α3) : hb4 f (some a) (some b) (some c) (some d) = f a b c d := by unfold hb4; rfl
def hcons (a : Option Value) (l : Option (List Value)) : Option (List Value) := match a, l with | some a, some l => some (a :: l) | _, _ => none
theorem hcons_some (a : Value) (l : List Value) : hcons (some a) (some l) = some (a :: l) := by unfold hcons; rfl
def hpcons (i : Nat) (a : Option Value) (l : Option (List (Nat × Value))) : Option (List (Nat × Value)) := match a, l with | some a, some l => some ((i, a) :: l) | _, _ => none
theorem hpcons_some (i : Nat) (a : Value) (l : List (Nat × Value)) : hpcons i (some a) (some l) = some ((i, a) :: l) := by unfold hpcons; rfl

theorem map_ret (o : Option Value) (H : HHeap) : (o.map fun v => (v, H)) = hret o H := by cases o <;> rfl
theorem bind_ret (o : Option Value) (f : Value → Option Value) (H : HHeap) : (o.bind fun p => (f p).map fun v => (v, H)) = hret (hb1 f o) H := by
  cases o with
  | none => rfl
  | some p => simp only [Option.bind_some, hb1_some, map_ret]

theorem e_evs_cons (x : Operand) (xs : List Operand) : hevs fr (x :: xs) = hcons (hev fr x) (hevs fr xs) := by
  rw [hevs]; cases hev fr x <;> cases hevs fr xs <;> rfl
theorem e_parts_cons (i : Nat) (x : Operand) (xs : List (Nat × Operand)) : hparts fr ((i, x) :: xs) = hpcons i (hev fr x) (hparts fr xs) := by
  rw [hparts]; cases hev fr x <;> cases hparts fr xs <;> rfl
theorem e_results_tmp (t : Nat) (rs : List ResultVar) : hresults P fr H (.tmp t :: rs) = hcons (fr.get t) (hresults P fr H rs) := by
  rw [hresults_tmp]; cases fr.get t <;> cases hresults P fr H rs <;> rfl
theorem e_results_cell (a : Nat) (t : TypeId) (rs : List ResultVar) : hresults P fr H (.cell a t :: rs) = hcons (hb1 (hload P H t) (fr.get a)) (hresults P fr H rs) := by
  rw [hresults_cell]
  cases fr.get a with
  | none => cases hresults P fr H rs <;> rfl
  | some p => simp only [Option.bind_some, hb1_some]; cases hload P H t p <;> cases hresults P fr H rs <;> rfl

def epick (c a b : Option Value) : Option Value := match c with | some (.bool true) => a | some (.bool false) => b | _ => none
theorem epick_true (a b : Option Value) : epick (some (.bool true)) a b = a := by unfold epick; rfl
theorem epick_false (a b : Option Value) : epick (some (.bool false)) a b = b := by unfold epick; rfl
theorem epick_pos {p : Prop} [Decidable p] (h : p) (x y : Option Value) : epick (some (.bool (decide p))) x y = x := by rw [show decide p = true by simp [h], epick_true]
theorem epick_neg {p : Prop} [Decidable p] (h : ¬ p) (x y : Option Value) : epick (some (.bool (decide p))) x y = y := by rw [show decide p = false by simp [h], epick_false]
theorem e_pick (c a b : Operand) : hop P fr H (.pick c a b) = hret (epick (hev fr c) (hev fr a) (hev fr b)) H := by
  unfold hop epick; simp only; split <;> first | (rename_i h; rw [h]; simp only [map_ret]) | (simp only [hret]; done) | skip
  all_goals (split <;> simp_all [hret])
theorem e_nilCheck (x : Operand) : hop P fr H (.nilCheck x) = hnil (hev fr x) H := hop_nilCheck x
def iixA (P : Program) (t : TypeId) (x i : Value) : Option Value := match i with | .int k n => hindexAt P t x (.int k n) | _ => none
theorem iixA_int (t : TypeId) (x : Value) (k : IntKind) (n : Int) : iixA P t x (.int k n) = hindexAt P t x (.int k n) := by unfold iixA; rfl
theorem e_indexAddr (t : TypeId) (x i : Operand) : hop P fr H (.indexAddr t x i) = hret (hb2 (iixA P t) (hev fr x) (hev fr i)) H := by
  rw [hop_indexAddr]; unfold hixA
  cases hev fr x with
  | none => rfl
  | some p =>
    cases hev fr i with
    | none => rfl
    | some v => simp only [Option.bind_some, hb2_some]; cases v <;> first | rfl | simp only [iixA, map_ret]
def iix (P : Program) (t : TypeId) (x i : Value) : Option Value := match i with | .int k n => hindex P t x (.int k n) | _ => none
theorem iix_int (t : TypeId) (x : Value) (k : IntKind) (n : Int) : iix P t x (.int k n) = hindex P t x (.int k n) := by unfold iix; rfl
theorem e_index (t : TypeId) (x i : Operand) : hop P fr H (.index t x i) = hret (hb2 (iix P t) (hev fr x) (hev fr i)) H := by
  rw [hop_index]; unfold hix
  cases hev fr x with
  | none => rfl
  | some p =>
    cases hev fr i with
    | none => rfl
    | some v => simp only [Option.bind_some, hb2_some]; cases v <;> first | rfl | simp only [iix, map_ret]
def eext (i : Nat) (x : Value) : Option Value := match x with | .tuple vs => vs.toList[i]? | _ => none
theorem eext_tuple (vs : Array Value) (i : Nat) : eext i (.tuple vs) = vs.toList[i]? := by unfold eext; rfl
theorem e_extract (x : Operand) (i : Nat) : hop P fr H (.extract x i) = hret (hb1 (eext i) (hev fr x)) H := by
  rw [hop_extract]; unfold hext
  cases hev fr x with
  | none => rfl
  | some v => simp only [hb1_some]; cases v <;> first | rfl | simp only [eext, map_ret]
def emk (P : Program) (H : HHeap) (t : TypeId) (l c : Value) : Option (Value × HHeap) := match l, c with | .int k l, .int k' c => hmakeSlice P H t (.int k l) (.int k' c) | _, _ => none
theorem emk_int (t : TypeId) (k k' : IntKind) (l c : Int) : emk P H t (.int k l) (.int k' c) = hmakeSlice P H t (.int k l) (.int k' c) := by unfold emk; rfl
theorem e_makeSlice (t : TypeId) (l c : Operand) : hop P fr H (.makeSlice t l c) = hb2 (emk P H t) (hev fr l) (hev fr c) := by
  rw [hop_makeSlice]; unfold hmk
  cases hev fr l with
  | none => rfl
  | some p =>
    cases hev fr c with
    | none => cases p <;> rfl
    | some v => simp only [hb2_some]; cases p <;> cases v <;> rfl
def efunc (fn : Fn) (vs : List Value) : Option Value := some (.func fn #[] vs.toArray)
theorem efunc_eq (fn : Fn) (vs : List Value) : efunc fn vs = some (.func fn #[] vs.toArray) := by unfold efunc; rfl
theorem e_makeFunc (fn : Fn) (cs : Array Operand) : hop P fr H (.makeFunc fn #[] cs) = hret (hb1 (efunc fn) (hevs fr cs.toList)) H := by
  rw [hop_makeFunc]; cases hevs fr cs.toList <;> rfl
def eiface (t : TypeId) (v : Value) : Option Value := some (.iface t v)
theorem eiface_eq (t : TypeId) (v : Value) : eiface t v = some (.iface t v) := by unfold eiface; rfl
theorem e_makeInterface (t : TypeId) (x : Operand) (h : kindOf P t ≠ 5) (h' : (P.underlying t).isSome = true) : hop P fr H (.makeInterface t x) = hret (hb1 (eiface t) (hev fr x)) H := by
  rw [hop_makeInterface t x h h']; cases hev fr x <;> rfl
theorem e_builtin (b : Builtin) (args : Array Operand) (ts : Array TypeId) : hop P fr H (.call { callee := .builtin b, args := args, argTypes := ts }) = hb1 (hbuiltin P H b ts.toList) (hevs fr args.toList) := by
  rw [hop_builtin]; cases hevs fr args.toList <;> rfl
theorem e_move (x : Operand) : hop P fr H (.move x) = hret (hev fr x) H := by rw [hop_move, map_ret]
theorem e_assign (x : Operand) : hop P fr H (.assign x) = hret (hev fr x) H := by rw [hop_assign, map_ret]
theorem e_box (t : TypeId) (x : Operand) : hop P fr H (.box t x) = hb1 (hbox H) (hev fr x) := by rw [hop_box]; cases hev fr x <;> rfl
theorem e_build (t : TypeId) (ps : Array (Nat × Operand)) : hop P fr H (.build t ps) = hret (hb1 (hbuild P t) (hparts fr ps.toList)) H := by
  rw [hop_build]; cases hparts fr ps.toList with
  | none => rfl
  | some l => simp only [Option.bind_some, hb1_some, map_ret]
theorem e_buildSlice (t : TypeId) (n : Nat) (ps : Array (Nat × Operand)) : hop P fr H (.buildSlice t n ps) = hb1 (hbuildSlice P H t n) (hparts fr ps.toList) := by rw [hop_buildSlice]; cases hparts fr ps.toList <;> rfl
theorem e_load (t : TypeId) (a : Operand) : hop P fr H (.load t a) = hret (hb1 (hload P H t) (hev fr a)) H := by rw [hop_load, bind_ret]
theorem e_store (t : TypeId) (a : Operand) (x : Operand) : hop P fr H (.store t a x) = hdone (hb2 (hstore P H t) (hev fr a) (hev fr x)) := by
  rw [hop_store]; cases hev fr a with
  | none => rfl
  | some p => cases hev fr x with
    | none => rfl
    | some v => simp only [Option.bind_some, hb2_some]; cases hstore P H t p v <;> rfl
theorem e_binOp (op : BinOp) (t : TypeId) (x : Operand) (y : Operand) (u : TypeId) : hop P fr H (.binOp op t x y u) = hret (hb2 (hbin P op t) (hev fr x) (hev fr y)) H := by
  rw [hop_binOp]; cases hev fr x with
  | none => rfl
  | some p => cases hev fr y with
    | none => rfl
    | some v => simp only [Option.bind_some, hb2_some, map_ret]
theorem e_unOp (op : UnOp) (t : TypeId) (x : Operand) : hop P fr H (.unOp op t x) = hret (hb1 (hunary op) (hev fr x)) H := by rw [hop_unOp, bind_ret]
theorem e_convert (s : TypeId) (d : TypeId) (x : Operand) : hop P fr H (.convert s d x) = hret (hb1 (hcv P H s d) (hev fr x)) H := by rw [hop_convert, bind_ret]
theorem e_slice (t : TypeId) (x : Operand) (lo : Option Operand) (hi : Option Operand) (mx : Option Operand) : hop P fr H (.slice t x lo hi mx) = hret (hb4 (hslice P t) (hev fr x) (hopt fr lo) (hopt fr hi) (hopt fr mx)) H := by
  rw [hop_slice]; cases hev fr x with
  | none => rfl
  | some p => cases hopt fr lo with
    | none => rfl
    | some a => cases hopt fr hi with
      | none => rfl
      | some b => cases hopt fr mx with
        | none => rfl
        | some c => simp only [Option.bind_some, hb4_some, map_ret]
def efld (P : Program) (s : TypeId) (f : Nat) (p : Value) : Option Value := hfieldAt P s p f
theorem e_fieldAddr (s : TypeId) (x : Operand) (f : Nat) : hop P fr H (.fieldAddr s x f) = hret (hb1 (efld P s f) (hev fr x)) H := by rw [hop_fieldAddr, bind_ret]; rfl
def efieldv (P : Program) (s : TypeId) (f : Nat) (p : Value) : Option Value := hfield P s p f
theorem e_field (t : TypeId) (x : Operand) (f : Nat) : hop P fr H (.field t x f) = hret (hb1 (efieldv P t f) (hev fr x)) H := by rw [hop_field, bind_ret]; rfl
def elook (P : Program) (H : HHeap) (t : TypeId) (ok : Bool) (m k : Value) : Option Value := hlookup P H t m k ok
theorem e_lookup (t : TypeId) (m : Operand) (k : Operand) (ok : Bool) : hop P fr H (.lookup t m k ok) = hret (hb2 (elook P H t ok) (hev fr m) (hev fr k)) H := by
  rw [hop_lookup]; cases hev fr m with
  | none => rfl
  | some p => cases hev fr k with
    | none => rfl
    | some v => simp only [Option.bind_some, hb2_some, map_ret, elook]
theorem e_mapUpdate (t : TypeId) (m : Operand) (k : Operand) (x : Operand) : hop P fr H (.mapUpdate t m k x) = hdone (hb3 (hmapUpdate P H t) (hev fr m) (hev fr k) (hev fr x)) := by
  rw [hop_mapUpdate]; cases hev fr m with
  | none => rfl
  | some p => cases hev fr k with
    | none => rfl
    | some v => cases hev fr x with
      | none => rfl
      | some z => simp only [Option.bind_some, hb3_some]; cases hmapUpdate P H t p v z <;> rfl
theorem e_insert (t : TypeId) (m : Operand) (k : Operand) (x : Operand) : hop P fr H (.insert t m k x) = hdone (hb3 (hmapUpdate P H t) (hev fr m) (hev fr k) (hev fr x)) := by
  rw [hop_insert]; cases hev fr m with
  | none => rfl
  | some p => cases hev fr k with
    | none => rfl
    | some v => cases hev fr x with
      | none => rfl
      | some z => simp only [Option.bind_some, hb3_some]; cases hmapUpdate P H t p v z <;> rfl
theorem e_len (t : TypeId) (x : Value) : hbuiltin P H .len [t] [x] = hret (hlen P H t x) H := by rw [hbuiltin_len, map_ret]
theorem e_min (ts : List TypeId) (x y : Value) : hbuiltin P H .min ts [x, y] = hret (hmin2 x y) H := by rw [hbuiltin_min, map_ret]
theorem e_max (ts : List TypeId) (x y : Value) : hbuiltin P H .max ts [x, y] = hret (hmax2 x y) H := by rw [hbuiltin_max, map_ret]

def eguard (want : Bool) (v : Option Value) : Option Bool := match v with | some (.bool b) => some (b == want) | some (.tuple _) => some false | _ => none
theorem eguard_true (b : Bool) : eguard true (some (.bool b)) = some b := by unfold eguard; cases b <;> rfl
theorem eguard_false (b : Bool) : eguard false (some (.bool b)) = some (!b) := by unfold eguard; cases b <;> rfl
theorem eguard_undef (want : Bool) : eguard want (some undef) = some false := by unfold eguard undef; rfl
def edst (o : Option Oper) : Option Tmp := match o with | some o => o.dst | none => none
theorem edst_some (d : Option Tmp) (op : Op) (ty : TypeId) (pos : String) (af : Array Edge) (g : Option (Nat × Bool)) : edst (some ⟨d, op, ty, pos, af, g⟩) = d := by unfold edst; rfl
theorem e_wanted (d : Option Tmp) (op : Op) (t : TypeId) (pos : String) (af : Array Edge) (j : Nat) (want : Bool) : hwanted ops fr ⟨d, op, t, pos, af, some (j, want)⟩ = eguard want (hb1 fr.get (edst (ops[j]?))) := by
  rw [hwanted_some]
  cases ops[j]? with
  | none => rfl
  | some o => cases hd : o.dst with
    | none => simp [edst, hd, hb1, hguard, eguard]
    | some t => simp only [Option.bind_some, edst, hd, hb1_some, hguard, eguard]; rfl

theorem HBlock_exit_ne (id id' : Nat) (h : id' ≠ id) (Q : Exit → HFrame → HHeap → Prop) (fr : HFrame) (H : HHeap) : HBlock id Q (.exit id') fr H = Q (.exit id') fr H := HBlock_exit_other id id' Q fr H (by simp [h])
theorem b_add (t : TypeId) (k : IntKind) (x y : Int) : hbin P .add t (.int k x) (.int k y) = some (.int k (k.wrap (x + y))) := by rw [hbin_int _ _ _ _ rfl, hint_add]
theorem b_sub (t : TypeId) (k : IntKind) (x y : Int) : hbin P .sub t (.int k x) (.int k y) = some (.int k (k.wrap (x - y))) := by rw [hbin_int _ _ _ _ rfl, hint_sub]
theorem b_mul (t : TypeId) (k : IntKind) (x y : Int) : hbin P .mul t (.int k x) (.int k y) = some (.int k (k.wrap (x * y))) := by rw [hbin_int _ _ _ _ rfl, hint_mul]
theorem b_eql (t : TypeId) (k : IntKind) (x y : Int) : hbin P .eql t (.int k x) (.int k y) = some (.bool (decide (x = y))) := by rw [hbin_int _ _ _ _ rfl, hint_eql]
theorem b_neq (t : TypeId) (k : IntKind) (x y : Int) : hbin P .neq t (.int k x) (.int k y) = some (.bool (decide (x ≠ y))) := by rw [hbin_int _ _ _ _ rfl, hint_neq]
theorem b_lss (t : TypeId) (k : IntKind) (x y : Int) : hbin P .lss t (.int k x) (.int k y) = some (.bool (decide (x < y))) := by rw [hbin_int _ _ _ _ rfl, hint_lss]
theorem b_leq (t : TypeId) (k : IntKind) (x y : Int) : hbin P .leq t (.int k x) (.int k y) = some (.bool (decide (x ≤ y))) := by rw [hbin_int _ _ _ _ rfl, hint_leq]
theorem b_gtr (t : TypeId) (k : IntKind) (x y : Int) : hbin P .gtr t (.int k x) (.int k y) = some (.bool (decide (y < x))) := by rw [hbin_int _ _ _ _ rfl, hint_gtr]
theorem b_geq (t : TypeId) (k : IntKind) (x y : Int) : hbin P .geq t (.int k x) (.int k y) = some (.bool (decide (y ≤ x))) := by rw [hbin_int _ _ _ _ rfl, hint_geq]
theorem b_quo (t : TypeId) (k : IntKind) (x y : Int) : hbin P .quo t (.int k x) (.int k y) = hint .quo k x y := by rw [hbin_int _ _ _ _ rfl]
theorem b_rem (t : TypeId) (k : IntKind) (x y : Int) : hbin P .rem t (.int k x) (.int k y) = hint .rem k x y := by rw [hbin_int _ _ _ _ rfl]
theorem b_and (t : TypeId) (k : IntKind) (x y : Int) : hbin P .and t (.int k x) (.int k y) = hint .and k x y := by rw [hbin_int _ _ _ _ rfl]
theorem b_or (t : TypeId) (k : IntKind) (x y : Int) : hbin P .or t (.int k x) (.int k y) = hint .or k x y := by rw [hbin_int _ _ _ _ rfl]
theorem u_neg (k : IntKind) (x : Int) : hunary .neg (.int k x) = some (.int k (k.wrap (0 - x))) := by unfold hunary; rfl
theorem u_not (b : Bool) : hunary .not (.bool b) = some (.bool (!b)) := by unfold hunary; rfl
end Go.HL
/-
  The operations on constructors, with the facts of the types taken as given: a program's instances are printed by wip/tools/mkT.py.
-/
namespace Go.HL
set_option linter.unusedSimpArgs false
set_option linter.unusedVariables false
open Go.RowKit

variable {P : Program} {H : HHeap}

abbrev ptr (b o : Nat) : Value := .pointer (some ⟨b, o, none⟩)

/-- Reading. -/
def ldc (o : Option HObj) (i : Nat) : Option Value := match o with | some (.cells cs _) => cs[i]? | _ => none
theorem ldc_cells (cs : List Value) (rw : Bool) (i : Nat) : ldc (some (.cells cs rw)) i = cs[i]? := by unfold ldc; rfl
theorem x_load {t : TypeId} (h : hagg P t = some false) (b o : Nat) : hload P H t (.pointer (some ⟨b, o, none⟩)) = ldc (H.get b) o := by
  unfold hload ldc; rcases hg : H.get b with _ | ⟨cs, rw⟩ | es <;> simp only [hg, h]
def lda (o : Option HObj) (i n : Nat) : Option Value := match o with | some (.cells cs _) => if i + n ≤ cs.length then some (.agg ((cs.drop i).take n).toArray) else none | _ => none
theorem lda_cells (cs : List Value) (rw : Bool) (i n : Nat) (h : i + n ≤ cs.length) : lda (some (.cells cs rw)) i n = some (.agg ((cs.drop i).take n).toArray) := by unfold lda; simp only; rw [if_pos h]
theorem x_loadN {t : TypeId} {n : Nat} (h : hagg P t = some true) (hs : hsize P t = some n) (b o : Nat) : hload P H t (.pointer (some ⟨b, o, none⟩)) = lda (H.get b) o n := by
  unfold hload lda; rcases hg : H.get b with _ | ⟨cs, rw⟩ | es <;> simp only [hg, h, hs]; rfl

/-- Writing. -/
def stc (H : HHeap) (b : Nat) (o : Option HObj) (i : Nat) (x : Value) : Option HHeap :=
  match o with
  | some (.cells cs true) => if i < cs.length then some (H.set b (.cells (cs.set i x) true)) else none
  | _ => none
theorem stc_cells (b : Nat) (cs : List Value) (i : Nat) (x : Value) (h : i < cs.length) : stc H b (some (.cells cs true)) i x = some (H.set b (.cells (cs.set i x) true)) := by unfold stc; simp only; rw [if_pos h]
def one : Value → Bool
  | .agg _ => false
  | .tuple _ => false
  | _ => true
theorem one_cells {x : Value} (h : one x = true) : x.cells = #[x] ∧ x.oneCell' = true := by cases x <;> first | (simp [one] at h; done) | exact ⟨rfl, rfl⟩
theorem splice_one : ∀ (cs : List Value) (i : Nat) (x : Value), splice cs i [x] = cs.set i x := by
  intro cs i x; simp [splice]
theorem x_store {t : TypeId} (hs : hsize P t = some 1) (b o : Nat) {x : Value} (hx : one x = true) : hstore P H t (.pointer (some ⟨b, o, none⟩)) x = stc H b (H.get b) o x := by
  obtain ⟨h1, h2⟩ := one_cells hx
  unfold hstore stc
  rcases hg : H.get b with _ | ⟨cs, _ | _⟩ | es <;> simp only [hg, hs, Option.bind_some, h1, allOne]
  simp [h2, splice_one, Nat.succ_le_iff]
def sta (H : HHeap) (b : Nat) (o : Option HObj) (i : Nat) (xs : List Value) : Option HHeap :=
  match o with
  | some (.cells cs true) => if i + xs.length ≤ cs.length then some (H.set b (.cells (splice cs i xs) true)) else none
  | _ => none
theorem sta_cells (b : Nat) (cs : List Value) (i : Nat) (xs : List Value) (h : i + xs.length ≤ cs.length) : sta H b (some (.cells cs true)) i xs = some (H.set b (.cells (splice cs i xs) true)) := by unfold sta; simp only; rw [if_pos h]
theorem x_storeN {t : TypeId} {n : Nat} (hs : hsize P t = some n) (b o : Nat) {xs : List Value} (hn : xs.length = n) (hx : allOne xs = true) : hstore P H t (.pointer (some ⟨b, o, none⟩)) (.agg xs.toArray) = sta H b (H.get b) o xs := by
  unfold hstore sta
  rcases hg : H.get b with _ | ⟨cs, _ | _⟩ | es <;> simp only [hg, hs, Option.bind_some, Value.cells]
  simp [hn, hx]

/-- Places. -/
theorem x_field {s : TypeId} {fs : Array Field} {f : Nat} {fd : Field} {n : Nat} (hu : P.underlying s = some (.struct fs)) (hf : fs[f]? = some fd) (hs : hsize P fd.type = some n) (hn : n ≠ 0) (off : Nat) (ho : fd.offset = off) (b o : Nat) :
    hfieldAt P s (.pointer (some ⟨b, o, none⟩)) f = some (.pointer (some ⟨b, o + off, none⟩)) := by
  unfold hfieldAt; simp only [hu, hf, Option.bind_some, hs]; rw [if_neg hn, ho]
def ixa (b o n len : Nat) (i : Int) : Option Value := if 0 ≤ i ∧ i < len then some (.pointer (some ⟨b, o + i.toNat * n, none⟩)) else none
theorem ixa_ok (b o n len : Nat) (i : Int) (h : 0 ≤ i) (h' : i < len) : ixa b o n len i = some (.pointer (some ⟨b, o + i.toNat * n, none⟩)) := by unfold ixa; rw [if_pos ⟨h, h'⟩]
theorem x_index {t e : TypeId} {n : Nat} (hu : P.underlying t = some (.slice e)) (hs : hsize P e = some n) (b o len cap : Nat) (s : Option Nat) (k : IntKind) (i : Int) :
    hindexAt P t (.slice (some ⟨b, o, s⟩) len cap) (.int k i) = ixa b o n len i := by unfold hindexAt ixa; simp only [hu, hs, Option.bind_some]
/-- Slicing. -/
def slx (b o n len cap : Nat) (lo hi mx : Option Value) : Option Value :=
  if mx.isSome && hi.isNone then none else
  (hbound cap cap mx).bind fun m => (hbound m len hi).bind fun h => (hbound h 0 lo).bind fun l => some (.slice (some ⟨b, if m = l then o else o + l * n, none⟩) (h - l) (m - l))
def slg (b o n k len cap : Nat) (lo hi mx : Option Value) : Option Value :=
  if mx.isSome && hi.isNone then none else
  (hbound cap cap mx).bind fun m => (hbound m len hi).bind fun h => (hbound h 0 lo).bind fun l =>
      if k / 2 ≠ n then none
      else if mx.isSome then (if k % 2 = 0 then some (.slice (some ⟨b, if m = l then o else o + l * n, none⟩) (h - l) (m - l)) else none)
      else if m = l then some (.slice (some ⟨b, o, some (2 * n + 1)⟩) 0 0)
      else some (.slice (some ⟨b, o + l * n, some k⟩) (h - l) (m - l))
def sln (lo hi mx : Option Value) : Option Value :=
  if mx.isSome && hi.isNone then none else
  (hbound 0 0 mx).bind fun m => (hbound m 0 hi).bind fun h => (hbound h 0 lo).bind fun _ => some (.slice none 0 0)
theorem x_slice {t e : TypeId} {n : Nat} (hu : P.underlying t = some (.slice e)) (hs : hsize P e = some n) (b o len cap : Nat) (lo hi mx : Option Value) :
    hslice P t (.slice (some ⟨b, o, none⟩) len cap) lo hi mx = slx b o n len cap lo hi mx := by unfold hslice slx; simp only [hu, hs, Option.bind_some]
theorem x_sliceG {t e : TypeId} {n : Nat} (hu : P.underlying t = some (.slice e)) (hs : hsize P e = some n) (b o k len cap : Nat) (lo hi mx : Option Value) :
    hslice P t (.slice (some ⟨b, o, some k⟩) len cap) lo hi mx = slg b o n k len cap lo hi mx := by unfold hslice slg; simp only [hu, hs, Option.bind_some]
theorem x_sliceN {t e : TypeId} {n : Nat} (hu : P.underlying t = some (.slice e)) (hs : hsize P e = some n) (lo hi mx : Option Value) :
    hslice P t (.slice none 0 0) lo hi mx = sln lo hi mx := by unfold hslice sln; simp only [hu, hs, Option.bind_some]
theorem hbound_int (len d : Nat) (k : IntKind) (i : Int) (h : 0 ≤ i) (h' : i ≤ len) : hbound len d (some (.int k i)) = some i.toNat := by unfold hbound; simp only; rw [if_pos ⟨h, h'⟩]
theorem hbound_none (len d : Nat) : hbound len d none = some d := by unfold hbound; rfl
theorem slx_lo (b o n len cap : Nat) (k : IntKind) (l : Int) (h : 0 ≤ l) (h' : l ≤ len) : slx b o n len cap (some (.int k l)) none none = some (.slice (some ⟨b, if cap = l.toNat then o else o + l.toNat * n, none⟩) (len - l.toNat) (cap - l.toNat)) := by
  unfold slx; rw [if_neg (by simp), hbound_none, Option.bind_some, hbound_none, Option.bind_some, hbound_int _ _ _ _ h h', Option.bind_some]
theorem slx_hi (b o n len cap : Nat) (k : IntKind) (l : Int) (h : 0 ≤ l) (h' : l ≤ cap) : slx b o n len cap none (some (.int k l)) none = some (.slice (some ⟨b, if cap = 0 then o else o + 0 * n, none⟩) l.toNat cap) := by
  unfold slx; rw [if_neg (by simp), hbound_none, Option.bind_some, hbound_int _ _ _ _ h h', Option.bind_some, hbound_none, Option.bind_some]; rfl
theorem slx_lhm (b o n len cap : Nat) (k k' k'' : IntKind) (l u m : Int) (h : 0 ≤ l) (h' : l ≤ u) (hu : u ≤ m) (hm : m ≤ cap) :
    slx b o n len cap (some (.int k l)) (some (.int k' u)) (some (.int k'' m)) = some (.slice (some ⟨b, if m.toNat = l.toNat then o else o + l.toNat * n, none⟩) (u.toNat - l.toNat) (m.toNat - l.toNat)) := by
  unfold slx; rw [if_neg (by simp), hbound_int _ _ _ _ (by omega) hm, Option.bind_some, hbound_int _ _ _ _ (by omega) (by omega), Option.bind_some, hbound_int _ _ _ _ h (by omega), Option.bind_some]

/-- Making. -/
theorem x_alloc {t : TypeId} {e : Elem} (he : helem P t = some e) : halloc P H t = some (.pointer (some ⟨H.next, 0, none⟩), H.push (.cells e.zero true)) := by unfold halloc; rw [he]; rfl
def mks (H : HHeap) (z : Value) (by' : Nat) (l c : Int) : Option (Value × HHeap) :=
  if 0 ≤ l ∧ l ≤ c ∧ c * by' ≤ 1099511627776 ∧ c ≤ 1099511627776 then some (.slice (some ⟨H.next, 0, none⟩) l.toNat c.toNat, H.push (.cells (List.replicate c.toNat z) true)) else none
theorem mks_ok (z : Value) (by' : Nat) (l c : Int) (h : 0 ≤ l) (h1 : l ≤ c) (h2 : c * by' ≤ 1099511627776) (h3 : c ≤ 1099511627776) :
    mks H z by' l c = some (.slice (some ⟨H.next, 0, none⟩) l.toNat c.toNat, H.push (.cells (List.replicate c.toNat z) true)) := by unfold mks; rw [if_pos ⟨h, h1, h2, h3⟩]
theorem x_make {t u : TypeId} {z : Value} {by' : Nat} (hu : P.underlying t = some (.slice u)) (he : helem P u = some ⟨[z], 1, by'⟩) (k k' : IntKind) (l c : Int) :
    hmakeSlice P H t (.int k l) (.int k' c) = mks H z by' l c := by
  unfold hmakeSlice mks; simp only [hu, he, Option.bind_some, hzeros, Nat.mul_one]; simp
theorem hbox_one {x : Value} (h : one x = true) : hbox H x = some (.pointer (some ⟨H.next, 0, none⟩), H.push (.cells [x] true)) := by
  obtain ⟨h1, h2⟩ := one_cells h
  unfold hbox; simp [h1, allOne, h2]
theorem hbox_agg (xs : List Value) (h : allOne xs = true) : hbox H (.agg xs.toArray) = some (.pointer (some ⟨H.next, 0, none⟩), H.push (.cells xs true)) := by
  unfold hbox; simp [Value.cells, h]

/-- Appending, copying. -/
def apd (H : HHeap) (n by' : Nat) (s : Value) (src : List Value × Nat) : Option (Value × HHeap) :=
    match s with
    | .slice a len cap =>
      if src.2 = 0 then some (s, H) else
      if (len + src.2) * by' ≤ 1099511627776 ∧ len + src.2 ≤ 1099511627776 then
      match a with
      | none => some (.slice (some ⟨H.next, 0, some (2 * n)⟩) src.2 src.2, H.push (.cells src.1 true))
      | some ⟨b, o, k⟩ =>
        match H.get b with
        | some (.cells cs rw) =>
          if len + src.2 ≤ cap then
            if rw ∧ o + (len + src.2) * n ≤ cs.length ∧ (k = none ∨ k = some (2 * n)) then
              some (.slice (some ⟨b, o, k⟩) (len + src.2) cap, H.set b (.cells (splice cs (o + len * n) src.1) true)) else none
          else if o + len * n ≤ cs.length ∨ len = 0 then
            match k with
            | none => some (.slice (some ⟨H.next, 0, some (2 * n)⟩) (len + src.2) (len + src.2), H.push (.cells ((cs.drop o).take (len * n) ++ src.1) true))
            | some k => if k / 2 = n ∧ rw then some (.slice (some ⟨H.next, 0, some (2 * n)⟩) (len + src.2) (len + src.2), (H.kill b).push (.cells ((cs.drop o).take (len * n) ++ src.1) true)) else none
          else none
        | _ => none
      else none
    | _ => none
theorem x_append {st xt u : TypeId} {z : List Value} {n by' : Nat} (hu : P.underlying st = some (.slice u)) (hx : isStr P xt = true) (he : helem P u = some ⟨z, n, by'⟩) (hn : 0 < n) (s x : Value) :
    happend P H st xt s x = hb1 (apd H n by' s) (hsource H n x) := by
  unfold happend hb1
  simp only [hu, hx, if_true, he, Option.bind_some, hn]
  cases hsource H n x with
  | none => rfl
  | some p => rfl
theorem hsource_nil (n : Nat) : hsource H n (.slice none 0 0) = some ([], 0) := by unfold hsource; rfl
def hsrc (o : Option HObj) (i n len : Nat) : Option (List Value × Nat) := if len = 0 then some ([], 0) else match o with | some (.cells cs _) => if i + len * n ≤ cs.length then some ((cs.drop i).take (len * n), len) else none | _ => none
theorem hsource_slice (n b o : Nat) (s : Option Nat) (len cap : Nat) : hsource H n (.slice (some ⟨b, o, s⟩) len cap) = hsrc (H.get b) o n len := by unfold hsource hsrc; rfl
theorem hsrc_zero (o : Option HObj) (i n : Nat) : hsrc o i n 0 = some ([], 0) := by unfold hsrc; rfl
theorem hsrc_cells (cs : List Value) (rw : Bool) (i n len : Nat) (h : 0 < len) (h' : i + len * n ≤ cs.length) : hsrc (some (.cells cs rw)) i n len = some ((cs.drop i).take (len * n), len) := by
  unfold hsrc; rw [if_neg (by omega)]; simp only; rw [if_pos h']
theorem apd_zero (n by' : Nat) (a : Option Addr) (len cap : Nat) (vs : List Value) : apd H n by' (.slice a len cap) (vs, 0) = some (.slice a len cap, H) := by unfold apd; rfl
theorem apd_nil (n by' : Nat) (vs : List Value) (m : Nat) (h : 0 < m) (h1 : m * by' ≤ 1099511627776) (h2 : m ≤ 1099511627776) :
    apd H n by' (.slice none 0 0) (vs, m) = some (.slice (some ⟨H.next, 0, some (2 * n)⟩) m m, H.push (.cells vs true)) := by
  unfold apd; simp only; rw [if_neg (by omega), if_pos (by rw [Nat.zero_add]; exact ⟨h1, h2⟩)]
def apo (H : HHeap) (n b o : Nat) (k : Option Nat) (len cap m : Nat) (vs : List Value) (ob : Option HObj) : Option (Value × HHeap) :=
  match ob with
  | some (.cells cs rw) =>
          if len + m ≤ cap then
            if rw ∧ o + (len + m) * n ≤ cs.length ∧ (k = none ∨ k = some (2 * n)) then
              some (.slice (some ⟨b, o, k⟩) (len + m) cap, H.set b (.cells (splice cs (o + len * n) vs) true)) else none
          else if o + len * n ≤ cs.length ∨ len = 0 then
            match k with
            | none => some (.slice (some ⟨H.next, 0, some (2 * n)⟩) (len + m) (len + m), H.push (.cells ((cs.drop o).take (len * n) ++ vs) true))
            | some k => if k / 2 = n ∧ rw then some (.slice (some ⟨H.next, 0, some (2 * n)⟩) (len + m) (len + m), (H.kill b).push (.cells ((cs.drop o).take (len * n) ++ vs) true)) else none
          else none
  | _ => none
theorem apd_some (n by' b o : Nat) (k : Option Nat) (len cap : Nat) (vs : List Value) (m : Nat) (h : 0 < m) (h1 : (len + m) * by' ≤ 1099511627776) (h2 : len + m ≤ 1099511627776) :
    apd H n by' (.slice (some ⟨b, o, k⟩) len cap) (vs, m) = apo H n b o k len cap m vs (H.get b) := by
  unfold apd apo; simp only; rw [if_neg (by omega), if_pos ⟨h1, h2⟩]
/-- A row that grew by append, with nothing spare that is known, grows again. -/
theorem apo_grow (n b : Nat) (len m : Nat) (vs cs : List Value) (hn : 0 < n) (h : 0 < m) (hl : cs.length = len * n) :
    apo H n b 0 (some (2 * n)) len len m vs (some (.cells cs true)) = some (.slice (some ⟨H.next, 0, some (2 * n)⟩) (len + m) (len + m), (H.kill b).push (.cells (cs ++ vs) true)) := by
  unfold apo; simp only
  rw [if_neg (by omega), if_pos (by omega), if_pos ⟨by omega, by trivial⟩]
  simp [hl, List.take_of_length_le]

def hcp (H : HHeap) (b o n len : Nat) (src : List Value × Nat) : Option (Value × HHeap) :=
      if min src.2 len = 0 then some (.int .i64 0, H) else
      match H.get b with
      | some (.cells cs true) =>
        if o + min src.2 len * n ≤ cs.length ∧ min src.2 len * n ≤ src.1.length then some (.int .i64 (min src.2 len : Nat), H.set b (.cells (splice cs o (src.1.take (min src.2 len * n))) true)) else none
      | _ => none
theorem x_copy {dt u : TypeId} {z : List Value} {n by' : Nat} (hu : P.underlying dt = some (.slice u)) (he : helem P u = some ⟨z, n, by'⟩) (b o : Nat) (s : Option Nat) (len cap : Nat) (x : Value) :
    hcopy P H dt (.slice (some ⟨b, o, s⟩) len cap) x = hb1 (hcp H b o n len) (hsource H n x) := by
  unfold hcopy hb1
  simp only [hu, he, Option.bind_some]
  cases hsource H n x with
  | none => rfl
  | some p => rfl

theorem hcp_zero (b o n len : Nat) (vs : List Value) : hcp H b o n len (vs, 0) = some (.int .i64 0, H) := by unfold hcp; simp
def hcpo (H : HHeap) (b o n m : Nat) (vs : List Value) (ob : Option HObj) : Option (Value × HHeap) :=
  match ob with
  | some (.cells cs true) => if o + m * n ≤ cs.length ∧ m * n ≤ vs.length then some (.int .i64 (m : Nat), H.set b (.cells (splice cs o (vs.take (m * n))) true)) else none
  | _ => none
theorem hcp_some (b o n len : Nat) (vs : List Value) (m : Nat) (h : 0 < m) (h' : m ≤ len) : hcp H b o n len (vs, m) = hcpo H b o n m vs (H.get b) := by
  unfold hcp hcpo; simp only; rw [Nat.min_eq_left h', if_neg (by omega)]
theorem hcpo_ok (b o n m : Nat) (vs cs : List Value) (h : o + m * n ≤ cs.length) (hv : m * n ≤ vs.length) : hcpo H b o n m vs (some (.cells cs true)) = some (.int .i64 (m : Nat), H.set b (.cells (splice cs o (vs.take (m * n))) true)) := by
  unfold hcpo; simp only; rw [if_pos ⟨h, hv⟩]

/-- Lengths, tests against nil. -/
theorem x_lenS {t u : TypeId} (hu : P.underlying t = some (.slice u)) (a : Option Addr) (n c : Nat) : hlen P H t (.slice a n c) = some (.int .i64 n) := by unfold hlen; simp only [hu]
theorem x_lenStr {t : TypeId} (hu : P.underlying t = some .string) (s : ByteArray) : hlen P H t (.string s) = some (.int .i64 s.size) := by unfold hlen; simp only [hu]
theorem x_ptr_eq {t : TypeId} (h : kindOf P t = 2) (a : Addr) : hbin P .eql t (.pointer (some a)) (.pointer none) = some (.bool false) := by unfold hbin; simp only [h]; rfl
theorem x_ptr_ne {t : TypeId} (h : kindOf P t = 2) (a : Addr) : hbin P .neq t (.pointer (some a)) (.pointer none) = some (.bool true) := by unfold hbin; simp only [h]; rfl
theorem x_ptr_eq0 {t : TypeId} (h : kindOf P t = 2) : hbin P .eql t (.pointer none) (.pointer none) = some (.bool true) := by unfold hbin; simp only [h]; rfl
theorem x_ptr_ne0 {t : TypeId} (h : kindOf P t = 2) : hbin P .neq t (.pointer none) (.pointer none) = some (.bool false) := by unfold hbin; simp only [h]; rfl
theorem x_conv {s d : TypeId} {k k' : IntKind} (hs : P.underlying s = some (.int k)) (hd : P.underlying d = some (.int k')) (k'' : IntKind) (n : Int) : hconvert P s d (.int k'' n) = some (.int k' (k'.wrap n)) := by
  unfold hconvert; simp only [hs, hd]
theorem x_bool_eq {t : TypeId} (h : kindOf P t = 1) (a b : Bool) : hbin P .eql t (.bool a) (.bool b) = some (.bool (a == b)) := by unfold hbin; simp only [h]; rfl
theorem x_bool_ne {t : TypeId} (h : kindOf P t = 1) (a b : Bool) : hbin P .neq t (.bool a) (.bool b) = some (.bool (!(a == b))) := by unfold hbin; simp only [h]; rfl

theorem HStay_top (b : Bool) : HStay b True = True := by cases b <;> rfl

theorem anc_eq (ms : List Nat) (i k : Nat) : anc ms i k = (ms.getD k 0).testBit i := by unfold anc; rfl
theorem fle_of {n : Nat} {l l' : List (Nat × Value)} (h : ∀ p ∈ l, flook l' p.1 = some p.2) : FLe (hfr n l) (hfr n l') := fle_hfr (n := n) (fr := hfr n l') rfl l h
theorem set_set (b : Nat) (o o' : HObj) : (H.set b o).set b o' = H.set b o' := by
  simp only [HHeap.set, HHeap.mk.injEq, true_and]; funext x; split <;> rfl
theorem push_set (o o' : HObj) : (H.push o).set H.next o' = H.push o' := by
  simp only [HHeap.set, HHeap.push, HHeap.mk.injEq, true_and]; funext x; split <;> rfl
theorem fill_step {L : List Value} {n i : Nat} {z x : Value} (hl : L.length = n) (hi : i < n) (hx : L[i]? = some x) : (L.take i ++ List.replicate (n - i) z).set i x = L.take (i + 1) ++ List.replicate (n - (i + 1)) z := by
  have e : List.replicate (n - i) z = z :: List.replicate (n - (i + 1)) z := by rw [← List.replicate_succ]; congr 1; omega
  rw [e, List.set_append_right _ _ (by simp; omega)]
  simp only [List.length_take, hl, Nat.min_eq_left (Nat.le_of_lt hi), Nat.sub_self, List.set_cons_zero]
  rw [List.take_add_one, hx]; simp
/-- Heaps. -/
theorem HHeap.ext' {H H' : HHeap} (h1 : H.next = H'.next) (h2 : ∀ b, H.get b = H'.get b) : H = H' := by
  cases H; cases H'; simp only [HHeap.mk.injEq]; exact ⟨h1, funext h2⟩
theorem splice_mid : ∀ (vs a b : List Value), a.length = vs.length → ∀ (pre : List Value), splice (pre ++ a ++ b) pre.length vs = pre ++ vs ++ b := by
  intro vs
  induction vs with
  | nil => intro a b h pre; rw [List.length_eq_zero_iff.1 h]; rfl
  | cons v vs ih =>
    intro a b h pre
    cases a with
    | nil => simp at h
    | cons x a =>
      rw [splice]
      have e : (pre ++ x :: a ++ b).set pre.length v = (pre ++ [v]) ++ a ++ b := by
        rw [List.append_assoc, List.set_append_right _ _ (by omega), Nat.sub_self]; simp
      rw [e]
      have := ih a b (by simpa using h) (pre ++ [v])
      rw [show (pre ++ [v]).length = pre.length + 1 by simp] at this
      rw [this]; simp

theorem get_set_same (b : Nat) (o : HObj) : (H.set b o).get b = some o := by rw [HHeap.get_set, if_pos rfl]
theorem get_set_ne (b c : Nat) (o : HObj) (h : c ≠ b) : (H.set b o).get c = H.get c := by rw [HHeap.get_set, if_neg h]
theorem get_push_same (o : HObj) : (H.push o).get H.next = some o := by rw [HHeap.get_push, if_pos rfl]
theorem get_push_eq (c : Nat) (o : HObj) (h : c = H.next) : (H.push o).get c = some o := by rw [HHeap.get_push, if_pos h]
theorem get_set_eq (b c : Nat) (o : HObj) (h : c = b) : (H.set b o).get c = some o := by rw [HHeap.get_set, if_pos h]
theorem get_push_ne (c : Nat) (o : HObj) (h : c ≠ H.next) : (H.push o).get c = H.get c := by rw [HHeap.get_push, if_neg h]
theorem get_kill_ne (b c : Nat) (h : c ≠ b) : (H.kill b).get c = H.get c := by rw [HHeap.get_kill, if_neg h]
theorem nx_set (b : Nat) (o : HObj) : (H.set b o).next = H.next := by rw [HHeap.set_next]
theorem nx_push (o : HObj) : (H.push o).next = H.next + 1 := by rw [HHeap.push_next]
theorem nx_kill (b : Nat) : (H.kill b).next = H.next := by rw [HHeap.kill_next]
end Go.HL
