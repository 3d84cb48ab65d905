/-
  Joined: H15, N1, E1, E2, A1, A2, E3, E4, mvT, C1.
-/
import Derived.Test.YtkflilieljojfaaL2
import Derived.Laws.Bits64b
import Derived.Test.YtkflilieljojfaaProg
import Derived.KernelRfl
/-
  A high level over the model, part 15: drawn rows for simp; numbers.
-/
namespace Go.HL
open Go.RowKit

variable {P : Program} {ops : Array Oper}

/-- What was read, held against a heap. -/
def HStay (b : Bool) (X : Prop) : Prop := match b with | true => True | false => X
theorem HStay_true (X : Prop) : HStay true X = True := by unfold HStay; rfl
theorem HStay_false (X : Prop) : HStay false X = X := by unfold HStay; rfl

def HSame (P : Program) (fr : HFrame) (op : Op) (v : Value) (H : HHeap) : Prop := hop P fr H op = some (v, H)
theorem HSame_eq (fr : HFrame) (op : Op) (v : Value) (H : HHeap) : HSame P fr op v H = (hop P fr H op = some (v, H)) := by unfold HSame; rfl

def HKept (P : Program) (ms : List Nat) (k : Nat) (H : HHeap) : List Late → Prop
  | [] => True
  | l :: ls => HStay (anc ms l.idx k) (HSame P l.fr l.o.op l.v H) ∧ HKept P ms k H ls
theorem HKept_nil (ms : List Nat) (k : Nat) (H : HHeap) : HKept P ms k H [] = True := by unfold HKept; rfl
theorem HKept_cons (ms : List Nat) (k : Nat) (H : HHeap) (i : Nat) (d : Option Tmp) (op : Op) (ty : TypeId) (pos : String) (af : Array Edge) (g : Option (Nat × Bool)) (fr : HFrame) (v : Value) (ls : List Late) :
    HKept P ms k H (⟨i, ⟨d, op, ty, pos, af, g⟩, fr, v⟩ :: ls) = (HStay (anc ms i k) (HSame P fr op v H) ∧ HKept P ms k H ls) := by rw [HKept]
theorem HKept.sound {ms : List Nat} {k : Nat} {H : HHeap} : ∀ (ls : List Late), HKept P ms k H ls → LateOk P ms k H ls
  | [], _ => trivial
  | l :: ls, h => by
    obtain ⟨h1, h2⟩ := h
    refine ⟨?_, HKept.sound ls h2⟩
    cases ha : anc ms l.idx k with
    | true => exact .inl rfl
    | false => rw [ha] at h1; exact .inr h1

def HGo1 (o : Option (Value × HHeap)) (K : Value → HHeap → Prop) (H : HHeap) : Prop :=
  match o with
  | some (v, _) => K v H
  | none => False
theorem HGo1_some (v : Value) (H' H : HHeap) (K : Value → HHeap → Prop) : HGo1 (some (v, H')) K H = K v H := by unfold HGo1; rfl

abbrev Next := List Late → HFrame → HHeap → Prop

def HQNext (next : Next) (d : Option Tmp) (late : List Late) (fr : HFrame) (v : Value) (H : HHeap) : Prop := next late (hput fr d v) H
theorem HQNext_eq (next : Next) (d : Option Tmp) (late : List Late) (fr : HFrame) (v : Value) (H : HHeap) : HQNext next d late fr v H = next late (hput fr d v) H := by unfold HQNext; rfl
def HQLate (b : Bool) (l : Late) (late : List Late) : List Late := match b with | true => l :: late | false => late
theorem HQLate_true (l : Late) (late : List Late) : HQLate true l late = l :: late := by unfold HQLate; rfl
theorem HQLate_false (l : Late) (late : List Late) : HQLate false l late = late := by unfold HQLate; rfl
def HQRead (next : Next) (i : Nat) (o : Oper) (late : List Late) (fr : HFrame) (v : Value) (H : HHeap) : Prop := next (HQLate (reads o.op) ⟨i, o, fr, v⟩ late) (hput fr o.dst v) H
theorem HQRead_eq (next : Next) (i : Nat) (d : Option Tmp) (op : Op) (ty : TypeId) (pos : String) (af : Array Edge) (g : Option (Nat × Bool)) (late : List Late) (fr : HFrame) (v : Value) (H : HHeap) :
    HQRead next i ⟨d, op, ty, pos, af, g⟩ late fr v H = next (HQLate (reads op) ⟨i, ⟨d, op, ty, pos, af, g⟩, fr, v⟩ late) (hput fr d v) H := by unfold HQRead; rfl
def HQDo (P : Program) (next : Next) (i : Nat) (o : Oper) (late : List Late) (fr : HFrame) (H : HHeap) : Prop := HGo1 (hop P fr H o.op) (HQRead next i o late fr) H
theorem HQDo_eq (next : Next) (i : Nat) (d : Option Tmp) (op : Op) (ty : TypeId) (pos : String) (af : Array Edge) (g : Option (Nat × Bool)) (late : List Late) (fr : HFrame) (H : HHeap) :
    HQDo P next i ⟨d, op, ty, pos, af, g⟩ late fr H = HGo1 (hop P fr H op) (HQRead next i ⟨d, op, ty, pos, af, g⟩ late fr) H := by unfold HQDo; rfl
def HENext (P : Program) (ms : List Nat) (i : Nat) (next : Next) (d : Option Tmp) (late : List Late) (fr : HFrame) (v : Value) (H : HHeap) : Prop := HKept P ms i H late ∧ next late (hput fr d v) H
theorem HENext_eq (ms : List Nat) (i : Nat) (next : Next) (d : Option Tmp) (late : List Late) (fr : HFrame) (v : Value) (H : HHeap) :
    HENext P ms i next d late fr v H = (HKept P ms i H late ∧ next late (hput fr d v) H) := by unfold HENext; rfl
def HEDo (P : Program) (ms : List Nat) (i : Nat) (next : Next) (o : Oper) (late : List Late) (fr : HFrame) (H : HHeap) : Prop := HCallee P (hcallee P fr o.op) (HENext P ms i next o.dst late fr) (hop P fr H o.op) H
theorem HEDo_eq (ms : List Nat) (i : Nat) (next : Next) (d : Option Tmp) (op : Op) (ty : TypeId) (pos : String) (af : Array Edge) (g : Option (Nat × Bool)) (late : List Late) (fr : HFrame) (H : HHeap) :
    HEDo P ms i next ⟨d, op, ty, pos, af, g⟩ late fr H = HCallee P (hcallee P fr op) (HENext P ms i next d late fr) (hop P fr H op) H := by unfold HEDo; rfl

def HSQ (P : Program) (ops : Array Oper) (next : Next) (i : Nat) (o : Option Oper) (late : List Late) (fr : HFrame) (H : HHeap) : Prop :=
  match o with
  | some o => HWant (hwanted ops fr o) (HQNext next o.dst late fr) (HQDo P next i o late fr) H
  | none => False
theorem HSQ_some (next : Next) (i : Nat) (d : Option Tmp) (op : Op) (ty : TypeId) (pos : String) (af : Array Edge) (g : Option (Nat × Bool)) (late : List Late) (fr : HFrame) (H : HHeap) :
    HSQ P ops next i (some ⟨d, op, ty, pos, af, g⟩) late fr H = HWant (hwanted ops fr ⟨d, op, ty, pos, af, g⟩) (HQNext next d late fr) (HQDo P next i ⟨d, op, ty, pos, af, g⟩ late fr) H := by unfold HSQ; rfl
def HSE (P : Program) (ops : Array Oper) (ms : List Nat) (next : Next) (i : Nat) (o : Option Oper) (late : List Late) (fr : HFrame) (H : HHeap) : Prop :=
  match o with
  | some o => HWant (hwanted ops fr o) (HQNext next o.dst late fr) (HEDo P ms i next o late fr) H
  | none => False
theorem HSE_some (ms : List Nat) (next : Next) (i : Nat) (d : Option Tmp) (op : Op) (ty : TypeId) (pos : String) (af : Array Edge) (g : Option (Nat × Bool)) (late : List Late) (fr : HFrame) (H : HHeap) :
    HSE P ops ms next i (some ⟨d, op, ty, pos, af, g⟩) late fr H = HWant (hwanted ops fr ⟨d, op, ty, pos, af, g⟩) (HQNext next d late fr) (HEDo P ms i next ⟨d, op, ty, pos, af, g⟩ late fr) H := by unfold HSE; rfl

/-- A drawn row, for simp. -/
def HD (P : Program) (ops : Array Oper) (ms : List Nat) (K : HFrame → HHeap → Prop) : WT → Next
  | .done, _, fr, H => K fr H
  | .op i t, late, fr, H => HSQ P ops (HD P ops ms K t) i (ops[i]?) late fr H
  | .eff i t other, late, fr, H => HSE P ops ms (HD P ops ms K t) i (ops[i]?) late fr H ∧ HD P ops ms K other late fr H
  | .stop, _, _, _ => True
theorem HD_done (ms : List Nat) (K : HFrame → HHeap → Prop) (late : List Late) (fr : HFrame) (H : HHeap) : HD P ops ms K .done late fr H = K fr H := by rw [HD]
theorem HD_op (ms : List Nat) (K : HFrame → HHeap → Prop) (i : Nat) (t : WT) (late : List Late) (fr : HFrame) (H : HHeap) : HD P ops ms K (.op i t) late fr H = HSQ P ops (HD P ops ms K t) i (ops[i]?) late fr H := by rw [HD]
theorem HD_eff (ms : List Nat) (K : HFrame → HHeap → Prop) (i : Nat) (t other : WT) (late : List Late) (fr : HFrame) (H : HHeap) :
    HD P ops ms K (.eff i t other) late fr H = (HSE P ops ms (HD P ops ms K t) i (ops[i]?) late fr H ∧ HD P ops ms K other late fr H) := by rw [HD]
theorem HD_stop (ms : List Nat) (K : HFrame → HHeap → Prop) (late : List Late) (fr : HFrame) (H : HHeap) : HD P ops ms K .stop late fr H = True := by rw [HD]

theorem HD.sound {ms : List Nat} {K : HFrame → HHeap → Prop} : ∀ (t : WT) (late : List Late) (fr : HFrame) (H : HHeap), HD P ops ms K t late fr H → HDraw P ops ms K t late fr H := by
  intro t
  induction t with
  | done => intro late fr H h; exact h
  | stop => intro late fr H h; trivial
  | op i t ih =>
    intro late fr H h
    simp only [HD, HSQ] at h
    simp only [HDraw, HStepQ]
    split at h
    · rename_i o ho
      simp only [ho]
      simp only [HWant] at h
      split at h
      · rename_i hw
        simp only [hw]
        simp only [HQDo, HGo1] at h
        split at h
        · rename_i v H' hv
          simp only [hv]
          simp only [HQRead, HQLate] at h
          have := ih _ _ _ h
          cases hr : reads o.op <;> simp only [hr] at this ⊢ <;> simpa using this
        · exact h.elim
      · rename_i hw; simp only [hw]; exact ih _ _ _ h
      · exact h.elim
    · exact h.elim
  | eff i t other ih ih2 =>
    intro late fr H h
    obtain ⟨h, h2⟩ := h
    refine ⟨?_, ih2 _ _ _ h2⟩
    simp only [HSE] at h
    simp only [HStepE]
    split at h
    · rename_i o ho
      simp only [ho]
      simp only [HWant] at h
      split at h
      · rename_i hw
        simp only [hw]
        simp only [HEDo, HCallee] at h
        split at h
        · rename_i f args hc
          simp only [hc]
          refine HCalls.mono h (fun v H' r => ?_)
          exact ⟨HKept.sound _ r.1, ih _ _ _ r.2⟩
        · rename_i hc
          simp only [hc]
          simp only [HGo] at h
          split at h
          · rename_i v H' hv
            simp only [hv]
            exact ⟨HKept.sound _ h.1, ih _ _ _ h.2⟩
          · exact h.elim
      · rename_i hw; simp only [hw]; exact ih _ _ _ h
      · exact h.elim
    · exact h.elim

theorem Hwp.drawn {id : Nat} {Q : Exit → HFrame → HHeap → Prop} {fr : HFrame} {H : HHeap} (hm : P.follows .mixedOrders = true) (ms : List Nat) (tree : WT) (hok : orderOk ops ms tree = true)
    (h : HD P ops ms (Q .normal) tree [] fr H) : Hwp P (.region id ops true) Q fr H := Hwp.draw hm ms tree hok (HD.sound _ _ _ _ h)

theorem HWant.of {b : Bool} {no : Value → HHeap → Prop} {yes : HHeap → Prop} {H : HHeap} (h1 : b = true → yes H) (h2 : b = false → no undef H) : HWant (some b) no yes H := by cases b <;> simp_all [HWant]

end Go.HL
/-
  Numbers, as the walks meet them.
-/
namespace Go.HL
open Go.RowKit

variable {P : Program}

theorem hint_add (k : IntKind) (x y : Int) : hint .add k x y = some (.int k (k.wrap (x + y))) := by unfold hint; rfl
theorem hint_sub (k : IntKind) (x y : Int) : hint .sub k x y = some (.int k (k.wrap (x - y))) := by unfold hint; rfl
theorem hint_mul (k : IntKind) (x y : Int) : hint .mul k x y = some (.int k (k.wrap (x * y))) := by unfold hint; rfl
theorem hint_eql (k : IntKind) (x y : Int) : hint .eql k x y = some (.bool (decide (x = y))) := by
  unfold hint; simp only [Option.some.injEq, Value.bool.injEq]
  by_cases h : x = y <;> simp [h]
theorem hint_neq (k : IntKind) (x y : Int) : hint .neq k x y = some (.bool (decide (x ≠ y))) := by
  unfold hint; simp only [Option.some.injEq, Value.bool.injEq]
  by_cases h : x = y <;> simp [h]
theorem hint_lss (k : IntKind) (x y : Int) : hint .lss k x y = some (.bool (decide (x < y))) := by unfold hint; rfl
theorem hint_leq (k : IntKind) (x y : Int) : hint .leq k x y = some (.bool (decide (x ≤ y))) := by unfold hint; rfl
theorem hint_gtr (k : IntKind) (x y : Int) : hint .gtr k x y = some (.bool (decide (y < x))) := by unfold hint; rfl
theorem hint_geq (k : IntKind) (x y : Int) : hint .geq k x y = some (.bool (decide (y ≤ x))) := by unfold hint; rfl
theorem hint_quo (k : IntKind) (x y : Int) (h : 0 ≤ x) (hy : 0 < y) : hint .quo k x y = some (.int k (k.wrap (x / y))) := by
  unfold hint; simp only; rw [if_neg (by omega), Int.tdiv_eq_ediv_of_nonneg h]
theorem hint_rem (k : IntKind) (x y : Int) (h : 0 ≤ x) (hy : 0 < y) : hint .rem k x y = some (.int k (x % y)) := by
  unfold hint; simp only; rw [if_neg (by omega), Int.tmod_eq_emod_of_nonneg h]

theorem wrap_i (x : Int) (h : -9223372036854775808 ≤ x) (h' : x < 9223372036854775808) : IntKind.i64.wrap x = x := by rw [IntKind.wrap_i64]; omega
theorem wrap_u (x : Int) (h : 0 ≤ x) (h' : x < 18446744073709551616) : IntKind.u64.wrap x = x := by rw [IntKind.wrap_u64]; omega

theorem ofInt_nat (x : Nat) (h : x < 18446744073709551616) : (BitVec.ofInt 64 (x : Int)).toNat = x := by
  rw [BitVec.ofInt_natCast, BitVec.toNat_ofNat]; exact Nat.mod_eq_of_lt (by omega)

theorem hint_and7 (x : Int) (h : 0 ≤ x) (h' : x < 18446744073709551616) : hint .and .u64 x 7 = some (.int .u64 (x % 8)) := by
  obtain ⟨n, rfl⟩ := Int.eq_ofNat_of_zero_le h
  show some (Value.int .u64 (IntKind.u64.wrap ((BitVec.ofInt 64 (n : Int) &&& BitVec.ofInt 64 7).toNat : Int))) = _
  rw [BitVec.toNat_and, ofInt_nat n (by omega), show ((7 : Int)) = ((7 : Nat) : Int) from rfl, ofInt_nat 7 (by omega)]
  rw [show (7 : Nat) = 2 ^ 3 - 1 from rfl, Nat.and_two_pow_sub_one_eq_mod, wrap_u _ (by omega) (by omega)] <;> simp
theorem hint_and255 (x : Int) (h : 0 ≤ x) (h' : x < 18446744073709551616) : hint .and .u64 x 255 = some (.int .u64 (x % 256)) := by
  obtain ⟨n, rfl⟩ := Int.eq_ofNat_of_zero_le h
  show some (Value.int .u64 (IntKind.u64.wrap ((BitVec.ofInt 64 (n : Int) &&& BitVec.ofInt 64 255).toNat : Int))) = _
  rw [BitVec.toNat_and, ofInt_nat n (by omega), show ((255 : Int)) = ((255 : Nat) : Int) from rfl, ofInt_nat 255 (by omega)]
  rw [show (255 : Nat) = 2 ^ 8 - 1 from rfl, Nat.and_two_pow_sub_one_eq_mod, wrap_u _ (by omega) (by omega)] <;> simp

theorem or_low (x y k : Nat) (h : x % 2 ^ k = 0) (hy : y < 2 ^ k) : x ||| y = x + y := by
  obtain ⟨m, rfl⟩ := Nat.dvd_of_mod_eq_zero h
  rw [Nat.mul_comm, ← Nat.shiftLeft_eq, Nat.shiftLeft_add_eq_or_of_lt hy]

theorem hint_or3 (x y : Int) (h : 0 ≤ x) (h' : x < 18446744073709551616) (h8 : x % 8 = 0) (hy : 0 ≤ y) (hy' : y < 8) : hint .or .u64 x y = some (.int .u64 (x + y)) := by
  obtain ⟨n, rfl⟩ := Int.eq_ofNat_of_zero_le h
  obtain ⟨m, rfl⟩ := Int.eq_ofNat_of_zero_le hy
  show some (Value.int .u64 (IntKind.u64.wrap ((BitVec.ofInt 64 (n : Int) ||| BitVec.ofInt 64 (m : Int)).toNat : Int))) = _
  rw [BitVec.toNat_or, ofInt_nat n (by omega), ofInt_nat m (by omega), or_low n m 3 (by omega) (by omega), wrap_u _ (by omega) (by omega)] <;> simp
theorem hint_or8 (x y : Int) (h : 0 ≤ x) (h' : x < 4611686018427387904) (h8 : x % 256 = 0) (hy : 0 ≤ y) (hy' : y < 256) : hint .or .i64 x y = some (.int .i64 (x + y)) := by
  obtain ⟨n, rfl⟩ := Int.eq_ofNat_of_zero_le h
  obtain ⟨m, rfl⟩ := Int.eq_ofNat_of_zero_le hy
  show some (Value.int .i64 (IntKind.i64.wrap ((BitVec.ofInt 64 (n : Int) ||| BitVec.ofInt 64 (m : Int)).toNat : Int))) = _
  rw [BitVec.toNat_or, ofInt_nat n (by omega), ofInt_nat m (by omega), or_low n m 8 (by omega) (by omega), wrap_i _ (by omega) (by omega)] <;> simp

theorem hshift_shl (k : IntKind) (x y : Int) (hy : 0 ≤ y) (hy' : y < 64) (hk : k.bits = 64) : hshift .shl k x y = some (.int k (k.wrap (x * 2 ^ y.toNat))) := by
  unfold hshift; rw [if_neg (by omega), hk, Nat.min_eq_left (by omega)]
theorem hshl3 (x : Int) : hshift .shl .u64 x 3 = some (.int .u64 (IntKind.u64.wrap (x * 8))) := hshift_shl _ _ _ (by omega) (by omega) rfl
theorem hshl3i (x : Int) : hshift .shl .i64 x 3 = some (.int .i64 (IntKind.i64.wrap (x * 8))) := hshift_shl _ _ _ (by omega) (by omega) rfl
theorem hshl8i (x : Int) : hshift .shl .i64 x 8 = some (.int .i64 (IntKind.i64.wrap (x * 256))) := hshift_shl _ _ _ (by omega) (by omega) rfl
theorem hshr3 (x : Int) : hshift .shr .u64 x 3 = some (.int .u64 (x / 8)) := by
  unfold hshift; rw [if_neg (by omega)]; simp only [IntKind.bits, Option.some.injEq, Value.int.injEq, true_and]
  rw [show (2 : Int) ^ min (3 : Int).toNat 64 = 8 from rfl, Int.fdiv_eq_ediv_of_nonneg _ (by omega)]
theorem hshr8 (x : Int) : hshift .shr .u64 x 8 = some (.int .u64 (x / 256)) := by
  unfold hshift; rw [if_neg (by omega)]; simp only [IntKind.bits, Option.some.injEq, Value.int.injEq, true_and]
  rw [show (2 : Int) ^ min (8 : Int).toNat 64 = 256 from rfl, Int.fdiv_eq_ediv_of_nonneg _ (by omega)]

theorem HIf_pos {p : Prop} [Decidable p] (h : p) (X Y : HFrame → HHeap → Prop) (fr : HFrame) (H : HHeap) : HIf (decide p) X Y fr H = X fr H := by simp [h, HIf]
theorem HIf_neg {p : Prop} [Decidable p] (h : ¬ p) (X Y : HFrame → HHeap → Prop) (fr : HFrame) (H : HHeap) : HIf (decide p) X Y fr H = Y fr H := by simp [h, HIf]
theorem HIf_not_pos {p : Prop} [Decidable p] (h : p) (X Y : HFrame → HHeap → Prop) (fr : HFrame) (H : HHeap) : HIf (!decide p) X Y fr H = Y fr H := by simp [h, HIf]
theorem HIf_not_neg {p : Prop} [Decidable p] (h : ¬ p) (X Y : HFrame → HHeap → Prop) (fr : HFrame) (H : HHeap) : HIf (!decide p) X Y fr H = X fr H := by simp [h, HIf]
theorem HWant_pos {p : Prop} [Decidable p] (h : p) (no : Value → HHeap → Prop) (yes : HHeap → Prop) (H : HHeap) : HWant (some (decide p)) no yes H = yes H := by simp [h, HWant]
theorem HWant_neg {p : Prop} [Decidable p] (h : ¬ p) (no : Value → HHeap → Prop) (yes : HHeap → Prop) (H : HHeap) : HWant (some (decide p)) no yes H = no undef H := by simp [h, HWant]
theorem HWant_not_pos {p : Prop} [Decidable p] (h : p) (no : Value → HHeap → Prop) (yes : HHeap → Prop) (H : HHeap) : HWant (some (!decide p)) no yes H = no undef H := by simp [h, HWant]
theorem HWant_not_neg {p : Prop} [Decidable p] (h : ¬ p) (no : Value → HHeap → Prop) (yes : HHeap → Prop) (H : HHeap) : HWant (some (!decide p)) no yes H = yes H := by simp [h, HWant]
theorem hpick_pos {p : Prop} [Decidable p] (h : p) (x y : Option Value) (H : HHeap) : hpick (some (.bool (decide p))) x y H = x.map fun v => (v, H) := by rw [show decide p = true by simp [h], hpick_true]
theorem hpick_neg {p : Prop} [Decidable p] (h : ¬ p) (x y : Option Value) (H : HHeap) : hpick (some (.bool (decide p))) x y H = y.map fun v => (v, H) := by rw [show decide p = false by simp [h], hpick_false]
theorem dec_pos {p : Prop} [Decidable p] (h : p) : decide p = true := by simp [h]
theorem dec_neg {p : Prop} [Decidable p] (h : ¬ p) : decide p = false := by simp [h]
theorem ite_yes {α : Type} {p : Prop} [Decidable p] (h : p) (a b : α) : (if p then a else b) = a := if_pos h
theorem ite_no {α : Type} {p : Prop} [Decidable p] (h : ¬ p) (a b : α) : (if p then a else b) = b := if_neg h

/-- A word, and a number. -/
abbrev U (n : Nat) : Value := .int .u64 (n : Int)
abbrev I (n : Int) : Value := .int .i64 n
end Go.HL
/-
  The walking equations without lambdas: simp keeps its cache.
-/
namespace Go.HL
open Go.RowKit

variable {P : Program} {ops : Array Oper} {fr : HFrame} {H : HHeap}

def hret (o : Option Value) (H : HHeap) : Option (Value × HHeap) := match o with | some v => some (v, H) | none => none
theorem hret_some (v : Value) (H : HHeap) : hret (some v) H = some (v, H) := by unfold hret; rfl
def hdone (o : Option HHeap) : Option (Value × HHeap) := match o with | some H => some (undef, H) | none => none
theorem hdone_some (H : HHeap) : hdone (some H) = some (undef, H) := by unfold hdone; rfl
def hb1 {α β : Type} (f : α → Option β) (a : Option α) : Option β := match a with | some a => f a | none => none
theorem hb1_some {α β : Type} (f : α → Option β) (a : α) : hb1 f (some a) = f a := by unfold hb1; rfl
def hb2 {α α' β : Type} (f : α → α' → Option β) (a : Option α) (b : Option α') : Option β := match a, b with | some a, some b => f a b | _, _ => none
theorem hb2_some {α α' β : Type} (f : α → α' → Option β) (a : α) (b : α') : hb2 f (some a) (some b) = f a b := by unfold hb2; rfl
def hb3 {α α' α'' β : Type} (f : α → α' → α'' → Option β) (a : Option α) (b : Option α') (c : Option α'') : Option β := match a, b, c with | some a, some b, some c => f a b c | _, _, _ => none
theorem hb3_some {α α' α'' β : Type} (f : α → α' → α'' → Option β) (a : α) (b : α') (c : α'') : hb3 f (some a) (some b) (some c) = f a b c := by unfold hb3; rfl
def hb4 {α α1 α2 α3 β : Type} (f : α → α1 → α2 → α3 → Option β) (a : Option α) (b : Option α1) (c : Option α2) (d : Option α3) : Option β := match a, b, c, d with | some a, some b, some c, some d => f a b c d | _, _, _, _ => none
theorem hb4_some {α α1 α2 α3 β : Type} (f : α → α1 → α2 → α3 → Option β) (a : α) (b : α1) (c : α2) (d : α3) : hb4 f (some a) (some b) (some c) (some d) = f a b c d := by unfold hb4; rfl
def hcons (a : Option Value) (l : Option (List Value)) : Option (List Value) := match a, l with | some a, some l => some (a :: l) | _, _ => none
theorem hcons_some (a : Value) (l : List Value) : hcons (some a) (some l) = some (a :: l) := by unfold hcons; rfl
def hpcons (i : Nat) (a : Option Value) (l : Option (List (Nat × Value))) : Option (List (Nat × Value)) := match a, l with | some a, some l => some ((i, a) :: l) | _, _ => none
theorem hpcons_some (i : Nat) (a : Value) (l : List (Nat × Value)) : hpcons i (some a) (some l) = some ((i, a) :: l) := by unfold hpcons; rfl

theorem map_ret (o : Option Value) (H : HHeap) : (o.map fun v => (v, H)) = hret o H := by cases o <;> rfl
theorem bind_ret (o : Option Value) (f : Value → Option Value) (H : HHeap) : (o.bind fun p => (f p).map fun v => (v, H)) = hret (hb1 f o) H := by
  cases o with
  | none => rfl
  | some p => simp only [Option.bind_some, hb1_some, map_ret]

theorem e_evs_cons (x : Operand) (xs : List Operand) : hevs fr (x :: xs) = hcons (hev fr x) (hevs fr xs) := by
  rw [hevs]; cases hev fr x <;> cases hevs fr xs <;> rfl
theorem e_parts_cons (i : Nat) (x : Operand) (xs : List (Nat × Operand)) : hparts fr ((i, x) :: xs) = hpcons i (hev fr x) (hparts fr xs) := by
  rw [hparts]; cases hev fr x <;> cases hparts fr xs <;> rfl
theorem e_results_tmp (t : Nat) (rs : List ResultVar) : hresults P fr H (.tmp t :: rs) = hcons (fr.get t) (hresults P fr H rs) := by
  rw [hresults_tmp]; cases fr.get t <;> cases hresults P fr H rs <;> rfl
theorem e_results_cell (a : Nat) (t : TypeId) (rs : List ResultVar) : hresults P fr H (.cell a t :: rs) = hcons (hb1 (hload P H t) (fr.get a)) (hresults P fr H rs) := by
  rw [hresults_cell]
  cases fr.get a with
  | none => cases hresults P fr H rs <;> rfl
  | some p => simp only [Option.bind_some, hb1_some]; cases hload P H t p <;> cases hresults P fr H rs <;> rfl

def epick (c a b : Option Value) : Option Value := match c with | some (.bool true) => a | some (.bool false) => b | _ => none
theorem epick_true (a b : Option Value) : epick (some (.bool true)) a b = a := by unfold epick; rfl
theorem epick_false (a b : Option Value) : epick (some (.bool false)) a b = b := by unfold epick; rfl
theorem epick_pos {p : Prop} [Decidable p] (h : p) (x y : Option Value) : epick (some (.bool (decide p))) x y = x := by rw [show decide p = true by simp [h], epick_true]
theorem epick_neg {p : Prop} [Decidable p] (h : ¬ p) (x y : Option Value) : epick (some (.bool (decide p))) x y = y := by rw [show decide p = false by simp [h], epick_false]
theorem e_pick (c a b : Operand) : hop P fr H (.pick c a b) = hret (epick (hev fr c) (hev fr a) (hev fr b)) H := by
  unfold hop epick; simp only; split <;> first | (rename_i h; rw [h]; simp only [map_ret]) | (simp only [hret]; done) | skip
  all_goals (split <;> simp_all [hret])
theorem e_nilCheck (x : Operand) : hop P fr H (.nilCheck x) = hnil (hev fr x) H := hop_nilCheck x
def iixA (P : Program) (t : TypeId) (x i : Value) : Option Value := match i with | .int k n => hindexAt P t x (.int k n) | _ => none
theorem iixA_int (t : TypeId) (x : Value) (k : IntKind) (n : Int) : iixA P t x (.int k n) = hindexAt P t x (.int k n) := by unfold iixA; rfl
theorem e_indexAddr (t : TypeId) (x i : Operand) : hop P fr H (.indexAddr t x i) = hret (hb2 (iixA P t) (hev fr x) (hev fr i)) H := by
  rw [hop_indexAddr]; unfold hixA
  cases hev fr x with
  | none => rfl
  | some p =>
    cases hev fr i with
    | none => rfl
    | some v => simp only [Option.bind_some, hb2_some]; cases v <;> first | rfl | simp only [iixA, map_ret]
def iix (P : Program) (t : TypeId) (x i : Value) : Option Value := match i with | .int k n => hindex P t x (.int k n) | _ => none
theorem iix_int (t : TypeId) (x : Value) (k : IntKind) (n : Int) : iix P t x (.int k n) = hindex P t x (.int k n) := by unfold iix; rfl
theorem e_index (t : TypeId) (x i : Operand) : hop P fr H (.index t x i) = hret (hb2 (iix P t) (hev fr x) (hev fr i)) H := by
  rw [hop_index]; unfold hix
  cases hev fr x with
  | none => rfl
  | some p =>
    cases hev fr i with
    | none => rfl
    | some v => simp only [Option.bind_some, hb2_some]; cases v <;> first | rfl | simp only [iix, map_ret]
def eext (i : Nat) (x : Value) : Option Value := match x with | .tuple vs => vs.toList[i]? | _ => none
theorem eext_tuple (vs : Array Value) (i : Nat) : eext i (.tuple vs) = vs.toList[i]? := by unfold eext; rfl
theorem e_extract (x : Operand) (i : Nat) : hop P fr H (.extract x i) = hret (hb1 (eext i) (hev fr x)) H := by
  rw [hop_extract]; unfold hext
  cases hev fr x with
  | none => rfl
  | some v => simp only [hb1_some]; cases v <;> first | rfl | simp only [eext, map_ret]
def emk (P : Program) (H : HHeap) (t : TypeId) (l c : Value) : Option (Value × HHeap) := match l, c with | .int k l, .int k' c => hmakeSlice P H t (.int k l) (.int k' c) | _, _ => none
theorem emk_int (t : TypeId) (k k' : IntKind) (l c : Int) : emk P H t (.int k l) (.int k' c) = hmakeSlice P H t (.int k l) (.int k' c) := by unfold emk; rfl
theorem e_makeSlice (t : TypeId) (l c : Operand) : hop P fr H (.makeSlice t l c) = hb2 (emk P H t) (hev fr l) (hev fr c) := by
  rw [hop_makeSlice]; unfold hmk
  cases hev fr l with
  | none => rfl
  | some p =>
    cases hev fr c with
    | none => cases p <;> rfl
    | some v => simp only [hb2_some]; cases p <;> cases v <;> rfl
def efunc (fn : Fn) (vs : List Value) : Option Value := some (.func fn #[] vs.toArray)
theorem efunc_eq (fn : Fn) (vs : List Value) : efunc fn vs = some (.func fn #[] vs.toArray) := by unfold efunc; rfl
theorem e_makeFunc (fn : Fn) (cs : Array Operand) : hop P fr H (.makeFunc fn #[] cs) = hret (hb1 (efunc fn) (hevs fr cs.toList)) H := by
  rw [hop_makeFunc]; cases hevs fr cs.toList <;> rfl
def eiface (t : TypeId) (v : Value) : Option Value := some (.iface t v)
theorem eiface_eq (t : TypeId) (v : Value) : eiface t v = some (.iface t v) := by unfold eiface; rfl
theorem e_makeInterface (t : TypeId) (x : Operand) (h : kindOf P t ≠ 5) (h' : (P.underlying t).isSome = true) : hop P fr H (.makeInterface t x) = hret (hb1 (eiface t) (hev fr x)) H := by
  rw [hop_makeInterface t x h h']; cases hev fr x <;> rfl
theorem e_builtin (b : Builtin) (args : Array Operand) (ts : Array TypeId) : hop P fr H (.call { callee := .builtin b, args := args, argTypes := ts }) = hb1 (hbuiltin P H b ts.toList) (hevs fr args.toList) := by
  rw [hop_builtin]; cases hevs fr args.toList <;> rfl
theorem e_move (x : Operand) : hop P fr H (.move x) = hret (hev fr x) H := by rw [hop_move, map_ret]
theorem e_assign (x : Operand) : hop P fr H (.assign x) = hret (hev fr x) H := by rw [hop_assign, map_ret]
theorem e_box (t : TypeId) (x : Operand) : hop P fr H (.box t x) = hb1 (hbox H) (hev fr x) := by rw [hop_box]; cases hev fr x <;> rfl
theorem e_build (t : TypeId) (ps : Array (Nat × Operand)) : hop P fr H (.build t ps) = hret (hb1 (hbuild P t) (hparts fr ps.toList)) H := by
  rw [hop_build]; cases hparts fr ps.toList with
  | none => rfl
  | some l => simp only [Option.bind_some, hb1_some, map_ret]
theorem e_buildSlice (t : TypeId) (n : Nat) (ps : Array (Nat × Operand)) : hop P fr H (.buildSlice t n ps) = hb1 (hbuildSlice P H t n) (hparts fr ps.toList) := by rw [hop_buildSlice]; cases hparts fr ps.toList <;> rfl
theorem e_load (t : TypeId) (a : Operand) : hop P fr H (.load t a) = hret (hb1 (hload P H t) (hev fr a)) H := by rw [hop_load, bind_ret]
theorem e_store (t : TypeId) (a : Operand) (x : Operand) : hop P fr H (.store t a x) = hdone (hb2 (hstore P H t) (hev fr a) (hev fr x)) := by
  rw [hop_store]; cases hev fr a with
  | none => rfl
  | some p => cases hev fr x with
    | none => rfl
    | some v => simp only [Option.bind_some, hb2_some]; cases hstore P H t p v <;> rfl
theorem e_binOp (op : BinOp) (t : TypeId) (x : Operand) (y : Operand) (u : TypeId) : hop P fr H (.binOp op t x y u) = hret (hb2 (hbin P op t) (hev fr x) (hev fr y)) H := by
  rw [hop_binOp]; cases hev fr x with
  | none => rfl
  | some p => cases hev fr y with
    | none => rfl
    | some v => simp only [Option.bind_some, hb2_some, map_ret]
theorem e_unOp (op : UnOp) (t : TypeId) (x : Operand) : hop P fr H (.unOp op t x) = hret (hb1 (hunary op) (hev fr x)) H := by rw [hop_unOp, bind_ret]
theorem e_convert (s : TypeId) (d : TypeId) (x : Operand) : hop P fr H (.convert s d x) = hret (hb1 (hconvert P s d) (hev fr x)) H := by rw [hop_convert, bind_ret]
theorem e_slice (t : TypeId) (x : Operand) (lo : Option Operand) (hi : Option Operand) (mx : Option Operand) : hop P fr H (.slice t x lo hi mx) = hret (hb4 (hslice P t) (hev fr x) (hopt fr lo) (hopt fr hi) (hopt fr mx)) H := by
  rw [hop_slice]; cases hev fr x with
  | none => rfl
  | some p => cases hopt fr lo with
    | none => rfl
    | some a => cases hopt fr hi with
      | none => rfl
      | some b => cases hopt fr mx with
        | none => rfl
        | some c => simp only [Option.bind_some, hb4_some, map_ret]
def efld (P : Program) (s : TypeId) (f : Nat) (p : Value) : Option Value := hfieldAt P s p f
theorem e_fieldAddr (s : TypeId) (x : Operand) (f : Nat) : hop P fr H (.fieldAddr s x f) = hret (hb1 (efld P s f) (hev fr x)) H := by rw [hop_fieldAddr, bind_ret]; rfl
def efieldv (P : Program) (s : TypeId) (f : Nat) (p : Value) : Option Value := hfield P s p f
theorem e_field (t : TypeId) (x : Operand) (f : Nat) : hop P fr H (.field t x f) = hret (hb1 (efieldv P t f) (hev fr x)) H := by rw [hop_field, bind_ret]; rfl
def elook (P : Program) (H : HHeap) (t : TypeId) (ok : Bool) (m k : Value) : Option Value := hlookup P H t m k ok
theorem e_lookup (t : TypeId) (m : Operand) (k : Operand) (ok : Bool) : hop P fr H (.lookup t m k ok) = hret (hb2 (elook P H t ok) (hev fr m) (hev fr k)) H := by
  rw [hop_lookup]; cases hev fr m with
  | none => rfl
  | some p => cases hev fr k with
    | none => rfl
    | some v => simp only [Option.bind_some, hb2_some, map_ret, elook]
theorem e_mapUpdate (t : TypeId) (m : Operand) (k : Operand) (x : Operand) : hop P fr H (.mapUpdate t m k x) = hdone (hb3 (hmapUpdate P H t) (hev fr m) (hev fr k) (hev fr x)) := by
  rw [hop_mapUpdate]; cases hev fr m with
  | none => rfl
  | some p => cases hev fr k with
    | none => rfl
    | some v => cases hev fr x with
      | none => rfl
      | some z => simp only [Option.bind_some, hb3_some]; cases hmapUpdate P H t p v z <;> rfl
theorem e_insert (t : TypeId) (m : Operand) (k : Operand) (x : Operand) : hop P fr H (.insert t m k x) = hdone (hb3 (hmapUpdate P H t) (hev fr m) (hev fr k) (hev fr x)) := by
  rw [hop_insert]; cases hev fr m with
  | none => rfl
  | some p => cases hev fr k with
    | none => rfl
    | some v => cases hev fr x with
      | none => rfl
      | some z => simp only [Option.bind_some, hb3_some]; cases hmapUpdate P H t p v z <;> rfl
theorem e_len (t : TypeId) (x : Value) : hbuiltin P H .len [t] [x] = hret (hlen P H t x) H := by rw [hbuiltin_len, map_ret]
theorem e_min (ts : List TypeId) (x y : Value) : hbuiltin P H .min ts [x, y] = hret (hmin2 x y) H := by rw [hbuiltin_min, map_ret]
theorem e_max (ts : List TypeId) (x y : Value) : hbuiltin P H .max ts [x, y] = hret (hmax2 x y) H := by rw [hbuiltin_max, map_ret]

def eguard (want : Bool) (v : Option Value) : Option Bool := match v with | some (.bool b) => some (b == want) | some (.tuple _) => some false | _ => none
theorem eguard_true (b : Bool) : eguard true (some (.bool b)) = some b := by unfold eguard; cases b <;> rfl
theorem eguard_false (b : Bool) : eguard false (some (.bool b)) = some (!b) := by unfold eguard; cases b <;> rfl
theorem eguard_undef (want : Bool) : eguard want (some undef) = some false := by unfold eguard undef; rfl
def edst (o : Option Oper) : Option Tmp := match o with | some o => o.dst | none => none
theorem edst_some (d : Option Tmp) (op : Op) (ty : TypeId) (pos : String) (af : Array Edge) (g : Option (Nat × Bool)) : edst (some ⟨d, op, ty, pos, af, g⟩) = d := by unfold edst; rfl
theorem e_wanted (d : Option Tmp) (op : Op) (t : TypeId) (pos : String) (af : Array Edge) (j : Nat) (want : Bool) : hwanted ops fr ⟨d, op, t, pos, af, some (j, want)⟩ = eguard want (hb1 fr.get (edst (ops[j]?))) := by
  rw [hwanted_some]
  cases ops[j]? with
  | none => rfl
  | some o => cases hd : o.dst with
    | none => simp [edst, hd, hb1, hguard, eguard]
    | some t => simp only [Option.bind_some, edst, hd, hb1_some, hguard, eguard]; rfl

theorem HBlock_exit_ne (id id' : Nat) (h : id' ≠ id) (Q : Exit → HFrame → HHeap → Prop) (fr : HFrame) (H : HHeap) : HBlock id Q (.exit id') fr H = Q (.exit id') fr H := HBlock_exit_other id id' Q fr H (by simp [h])
theorem b_add (t : TypeId) (k : IntKind) (x y : Int) : hbin P .add t (.int k x) (.int k y) = some (.int k (k.wrap (x + y))) := by rw [hbin_int _ _ _ _ rfl, hint_add]
theorem b_sub (t : TypeId) (k : IntKind) (x y : Int) : hbin P .sub t (.int k x) (.int k y) = some (.int k (k.wrap (x - y))) := by rw [hbin_int _ _ _ _ rfl, hint_sub]
theorem b_mul (t : TypeId) (k : IntKind) (x y : Int) : hbin P .mul t (.int k x) (.int k y) = some (.int k (k.wrap (x * y))) := by rw [hbin_int _ _ _ _ rfl, hint_mul]
theorem b_eql (t : TypeId) (k : IntKind) (x y : Int) : hbin P .eql t (.int k x) (.int k y) = some (.bool (decide (x = y))) := by rw [hbin_int _ _ _ _ rfl, hint_eql]
theorem b_neq (t : TypeId) (k : IntKind) (x y : Int) : hbin P .neq t (.int k x) (.int k y) = some (.bool (decide (x ≠ y))) := by rw [hbin_int _ _ _ _ rfl, hint_neq]
theorem b_lss (t : TypeId) (k : IntKind) (x y : Int) : hbin P .lss t (.int k x) (.int k y) = some (.bool (decide (x < y))) := by rw [hbin_int _ _ _ _ rfl, hint_lss]
theorem b_leq (t : TypeId) (k : IntKind) (x y : Int) : hbin P .leq t (.int k x) (.int k y) = some (.bool (decide (x ≤ y))) := by rw [hbin_int _ _ _ _ rfl, hint_leq]
theorem b_gtr (t : TypeId) (k : IntKind) (x y : Int) : hbin P .gtr t (.int k x) (.int k y) = some (.bool (decide (y < x))) := by rw [hbin_int _ _ _ _ rfl, hint_gtr]
theorem b_geq (t : TypeId) (k : IntKind) (x y : Int) : hbin P .geq t (.int k x) (.int k y) = some (.bool (decide (y ≤ x))) := by rw [hbin_int _ _ _ _ rfl, hint_geq]
theorem b_quo (t : TypeId) (k : IntKind) (x y : Int) : hbin P .quo t (.int k x) (.int k y) = hint .quo k x y := by rw [hbin_int _ _ _ _ rfl]
theorem b_rem (t : TypeId) (k : IntKind) (x y : Int) : hbin P .rem t (.int k x) (.int k y) = hint .rem k x y := by rw [hbin_int _ _ _ _ rfl]
theorem b_and (t : TypeId) (k : IntKind) (x y : Int) : hbin P .and t (.int k x) (.int k y) = hint .and k x y := by rw [hbin_int _ _ _ _ rfl]
theorem b_or (t : TypeId) (k : IntKind) (x y : Int) : hbin P .or t (.int k x) (.int k y) = hint .or k x y := by rw [hbin_int _ _ _ _ rfl]
theorem u_neg (k : IntKind) (x : Int) : hunary .neg (.int k x) = some (.int k (k.wrap (0 - x))) := by unfold hunary; rfl
theorem u_not (b : Bool) : hunary .not (.bool b) = some (.bool (!b)) := by unfold hunary; rfl
def eAll (l : List Value) : Bool := l.all flat1
theorem eAll_nil : eAll [] = true := rfl
end Go.HL
/-
  The operations on constructors, with the facts of the types taken as given: a program's instances are printed by wip/tools/mkT.py.
-/
namespace Go.HL
set_option linter.unusedSimpArgs false
set_option linter.unusedVariables false
open Go.RowKit

variable {P : Program} {H : HHeap}

abbrev ptr (b o : Nat) : Value := .pointer (some ⟨b, o, none⟩)

/-- Reading. -/
def ldc (o : Option HObj) (i : Nat) : Option Value := match o with | some (.cells cs _) => cs[i]? | _ => none
theorem ldc_cells (cs : List Value) (rw : Bool) (i : Nat) : ldc (some (.cells cs rw)) i = cs[i]? := by unfold ldc; rfl
theorem x_load {t : TypeId} (h : hagg P t = some false) (b o : Nat) : hload P H t (.pointer (some ⟨b, o, none⟩)) = ldc (H.get b) o := by
  unfold hload ldc; rcases hg : H.get b with _ | ⟨cs, rw⟩ | es <;> simp only [hg, h]
def lda (o : Option HObj) (i n : Nat) : Option Value := match o with | some (.cells cs _) => if i + n ≤ cs.length then some (.agg ((cs.drop i).take n).toArray) else none | _ => none
theorem lda_cells (cs : List Value) (rw : Bool) (i n : Nat) (h : i + n ≤ cs.length) : lda (some (.cells cs rw)) i n = some (.agg ((cs.drop i).take n).toArray) := by unfold lda; simp only; rw [if_pos h]
theorem x_loadN {t : TypeId} {n : Nat} (h : hagg P t = some true) (hs : hsize P t = some n) (b o : Nat) : hload P H t (.pointer (some ⟨b, o, none⟩)) = lda (H.get b) o n := by
  unfold hload lda; rcases hg : H.get b with _ | ⟨cs, rw⟩ | es <;> simp only [hg, h, hs]; rfl

/-- Writing. -/
def stc (H : HHeap) (b : Nat) (o : Option HObj) (i : Nat) (x : Value) : Option HHeap :=
  match o with
  | some (.cells cs true) => if i < cs.length then some (H.set b (.cells (cs.set i x) true)) else none
  | _ => none
theorem stc_cells (b : Nat) (cs : List Value) (i : Nat) (x : Value) (h : i < cs.length) : stc H b (some (.cells cs true)) i x = some (H.set b (.cells (cs.set i x) true)) := by unfold stc; simp only; rw [if_pos h]
def one : Value → Bool
  | .agg _ => false
  | .tuple _ => false
  | _ => true
theorem one_cells {x : Value} (h : one x = true) : x.cells = #[x] ∧ x.oneCell' = true := by cases x <;> first | (simp [one] at h; done) | exact ⟨rfl, rfl⟩
theorem splice_one : ∀ (cs : List Value) (i : Nat) (x : Value), splice cs i [x] = cs.set i x := by
  intro cs i x; simp [splice]
theorem x_store {t : TypeId} (hs : hsize P t = some 1) (b o : Nat) {x : Value} (hx : one x = true) : hstore P H t (.pointer (some ⟨b, o, none⟩)) x = stc H b (H.get b) o x := by
  obtain ⟨h1, h2⟩ := one_cells hx
  unfold hstore stc
  rcases hg : H.get b with _ | ⟨cs, _ | _⟩ | es <;> simp only [hg, hs, Option.bind_some, h1, allOne]
  simp [h2, splice_one, Nat.succ_le_iff]
def sta (H : HHeap) (b : Nat) (o : Option HObj) (i : Nat) (xs : List Value) : Option HHeap :=
  match o with
  | some (.cells cs true) => if i + xs.length ≤ cs.length then some (H.set b (.cells (splice cs i xs) true)) else none
  | _ => none
theorem sta_cells (b : Nat) (cs : List Value) (i : Nat) (xs : List Value) (h : i + xs.length ≤ cs.length) : sta H b (some (.cells cs true)) i xs = some (H.set b (.cells (splice cs i xs) true)) := by unfold sta; simp only; rw [if_pos h]
theorem x_storeN {t : TypeId} {n : Nat} (hs : hsize P t = some n) (b o : Nat) {xs : List Value} (hn : xs.length = n) (hx : allOne xs = true) : hstore P H t (.pointer (some ⟨b, o, none⟩)) (.agg xs.toArray) = sta H b (H.get b) o xs := by
  unfold hstore sta
  rcases hg : H.get b with _ | ⟨cs, _ | _⟩ | es <;> simp only [hg, hs, Option.bind_some, Value.cells]
  simp [hn, hx]

/-- Places. -/
theorem x_field {s : TypeId} {fs : Array Field} {f : Nat} {fd : Field} {n : Nat} (hu : P.underlying s = some (.struct fs)) (hf : fs[f]? = some fd) (hs : hsize P fd.type = some n) (hn : n ≠ 0) (off : Nat) (ho : fd.offset = off) (b o : Nat) :
    hfieldAt P s (.pointer (some ⟨b, o, none⟩)) f = some (.pointer (some ⟨b, o + off, none⟩)) := by
  unfold hfieldAt; simp only [hu, hf, Option.bind_some, hs]; rw [if_neg hn, ho]
def ixa (b o n len : Nat) (i : Int) : Option Value := if 0 ≤ i ∧ i < len then some (.pointer (some ⟨b, o + i.toNat * n, none⟩)) else none
theorem ixa_ok (b o n len : Nat) (i : Int) (h : 0 ≤ i) (h' : i < len) : ixa b o n len i = some (.pointer (some ⟨b, o + i.toNat * n, none⟩)) := by unfold ixa; rw [if_pos ⟨h, h'⟩]
theorem x_index {t e : TypeId} {n : Nat} (hu : P.underlying t = some (.slice e)) (hs : hsize P e = some n) (b o len cap : Nat) (s : Option Nat) (k : IntKind) (i : Int) :
    hindexAt P t (.slice (some ⟨b, o, s⟩) len cap) (.int k i) = ixa b o n len i := by unfold hindexAt ixa; simp only [hu, hs, Option.bind_some]
theorem x_fieldv {t : TypeId} {fs : Array Field} {f : Nat} {fd : Field} (hu : P.underlying t = some (.struct fs)) (hf : fs[f]? = some fd) (ha : hagg P fd.type = some false) (off : Nat) (ho : fd.offset = off) (cs : Array Value) :
    hfield P t (.agg cs) f = cs.toList[off]? := by unfold hfield; simp only [hu, hf, Option.bind_some, hpart, ha, ho]

/-- Slicing. -/
def slx (b o n len cap : Nat) (lo hi mx : Option Value) : Option Value :=
  if mx.isSome && hi.isNone then none else
  (hbound cap cap mx).bind fun m => (hbound m len hi).bind fun h => (hbound h 0 lo).bind fun l => some (.slice (some ⟨b, if m = l then o else o + l * n, none⟩) (h - l) (m - l))
def slg (b o n k len cap : Nat) (lo hi mx : Option Value) : Option Value :=
  if mx.isSome && hi.isNone then none else
  (hbound cap cap mx).bind fun m => (hbound m len hi).bind fun h => (hbound h 0 lo).bind fun l =>
      if k / 2 ≠ n then none
      else if mx.isSome then (if k % 2 = 0 then some (.slice (some ⟨b, if m = l then o else o + l * n, none⟩) (h - l) (m - l)) else none)
      else if m = l then some (.slice (some ⟨b, o, some (2 * n + 1)⟩) 0 0)
      else some (.slice (some ⟨b, o + l * n, some k⟩) (h - l) (m - l))
def sln (lo hi mx : Option Value) : Option Value :=
  if mx.isSome && hi.isNone then none else
  (hbound 0 0 mx).bind fun m => (hbound m 0 hi).bind fun h => (hbound h 0 lo).bind fun _ => some (.slice none 0 0)
theorem x_slice {t e : TypeId} {n : Nat} (hu : P.underlying t = some (.slice e)) (hs : hsize P e = some n) (b o len cap : Nat) (lo hi mx : Option Value) :
    hslice P t (.slice (some ⟨b, o, none⟩) len cap) lo hi mx = slx b o n len cap lo hi mx := by unfold hslice slx; simp only [hu, hs, Option.bind_some]
theorem x_sliceG {t e : TypeId} {n : Nat} (hu : P.underlying t = some (.slice e)) (hs : hsize P e = some n) (b o k len cap : Nat) (lo hi mx : Option Value) :
    hslice P t (.slice (some ⟨b, o, some k⟩) len cap) lo hi mx = slg b o n k len cap lo hi mx := by unfold hslice slg; simp only [hu, hs, Option.bind_some]
theorem x_sliceN {t e : TypeId} {n : Nat} (hu : P.underlying t = some (.slice e)) (hs : hsize P e = some n) (lo hi mx : Option Value) :
    hslice P t (.slice none 0 0) lo hi mx = sln lo hi mx := by unfold hslice sln; simp only [hu, hs, Option.bind_some]
theorem hbound_int (len d : Nat) (k : IntKind) (i : Int) (h : 0 ≤ i) (h' : i ≤ len) : hbound len d (some (.int k i)) = some i.toNat := by unfold hbound; simp only; rw [if_pos ⟨h, h'⟩]
theorem hbound_none (len d : Nat) : hbound len d none = some d := by unfold hbound; rfl
theorem slx_lo (b o n len cap : Nat) (k : IntKind) (l : Int) (h : 0 ≤ l) (h' : l ≤ len) : slx b o n len cap (some (.int k l)) none none = some (.slice (some ⟨b, if cap = l.toNat then o else o + l.toNat * n, none⟩) (len - l.toNat) (cap - l.toNat)) := by
  unfold slx; rw [if_neg (by simp), hbound_none, Option.bind_some, hbound_none, Option.bind_some, hbound_int _ _ _ _ h h', Option.bind_some]
theorem slx_hi (b o n len cap : Nat) (k : IntKind) (l : Int) (h : 0 ≤ l) (h' : l ≤ cap) : slx b o n len cap none (some (.int k l)) none = some (.slice (some ⟨b, if cap = 0 then o else o + 0 * n, none⟩) l.toNat cap) := by
  unfold slx; rw [if_neg (by simp), hbound_none, Option.bind_some, hbound_int _ _ _ _ h h', Option.bind_some, hbound_none, Option.bind_some]; rfl
theorem slx_lh (b o n len cap : Nat) (k k' : IntKind) (l u : Int) (h : 0 ≤ l) (h' : l ≤ u) (hu : u ≤ cap) : slx b o n len cap (some (.int k l)) (some (.int k' u)) none = some (.slice (some ⟨b, if cap = l.toNat then o else o + l.toNat * n, none⟩) (u.toNat - l.toNat) (cap - l.toNat)) := by
  unfold slx; rw [if_neg (by simp), hbound_none, Option.bind_some, hbound_int _ _ _ _ (by omega) hu, Option.bind_some, hbound_int _ _ _ _ h (by omega), Option.bind_some]
theorem slx_lhm (b o n len cap : Nat) (k k' k'' : IntKind) (l u m : Int) (h : 0 ≤ l) (h' : l ≤ u) (hu : u ≤ m) (hm : m ≤ cap) :
    slx b o n len cap (some (.int k l)) (some (.int k' u)) (some (.int k'' m)) = some (.slice (some ⟨b, if m.toNat = l.toNat then o else o + l.toNat * n, none⟩) (u.toNat - l.toNat) (m.toNat - l.toNat)) := by
  unfold slx; rw [if_neg (by simp), hbound_int _ _ _ _ (by omega) hm, Option.bind_some, hbound_int _ _ _ _ (by omega) (by omega), Option.bind_some, hbound_int _ _ _ _ h (by omega), Option.bind_some]

/-- Making. -/
theorem x_alloc {t : TypeId} {e : Elem} (he : helem P t = some e) : halloc P H t = some (.pointer (some ⟨H.next, 0, none⟩), H.push (.cells e.zero true)) := by unfold halloc; rw [he]; rfl
def mks (H : HHeap) (z : Value) (by' : Nat) (l c : Int) : Option (Value × HHeap) :=
  if 0 ≤ l ∧ l ≤ c ∧ c * by' ≤ 1099511627776 ∧ c ≤ 1099511627776 then some (.slice (some ⟨H.next, 0, none⟩) l.toNat c.toNat, H.push (.cells (List.replicate c.toNat z) true)) else none
theorem mks_ok (z : Value) (by' : Nat) (l c : Int) (h : 0 ≤ l) (h1 : l ≤ c) (h2 : c * by' ≤ 1099511627776) (h3 : c ≤ 1099511627776) :
    mks H z by' l c = some (.slice (some ⟨H.next, 0, none⟩) l.toNat c.toNat, H.push (.cells (List.replicate c.toNat z) true)) := by unfold mks; rw [if_pos ⟨h, h1, h2, h3⟩]
theorem x_make {t u : TypeId} {z : Value} {by' : Nat} (hu : P.underlying t = some (.slice u)) (he : helem P u = some ⟨[z], 1, by'⟩) (k k' : IntKind) (l c : Int) :
    hmakeSlice P H t (.int k l) (.int k' c) = mks H z by' l c := by
  unfold hmakeSlice mks; simp only [hu, he, Option.bind_some, hzeros, Nat.mul_one]; simp
theorem hbox_one {x : Value} (h : one x = true) : hbox H x = some (.pointer (some ⟨H.next, 0, none⟩), H.push (.cells [x] true)) := by
  obtain ⟨h1, h2⟩ := one_cells h
  unfold hbox; simp [h1, allOne, h2]
theorem hbox_agg (xs : List Value) (h : allOne xs = true) : hbox H (.agg xs.toArray) = some (.pointer (some ⟨H.next, 0, none⟩), H.push (.cells xs true)) := by
  unfold hbox; simp [Value.cells, h]

/-- Appending, copying. -/
def apd (H : HHeap) (n by' : Nat) (s : Value) (src : List Value × Nat) : Option (Value × HHeap) :=
    match s with
    | .slice a len cap =>
      if src.2 = 0 then some (s, H) else
      if (len + src.2) * by' ≤ 1099511627776 ∧ len + src.2 ≤ 1099511627776 then
      match a with
      | none => some (.slice (some ⟨H.next, 0, some (2 * n)⟩) src.2 src.2, H.push (.cells src.1 true))
      | some ⟨b, o, k⟩ =>
        match H.get b with
        | some (.cells cs rw) =>
          if len + src.2 ≤ cap then
            if rw ∧ o + (len + src.2) * n ≤ cs.length ∧ (k = none ∨ k = some (2 * n)) then
              some (.slice (some ⟨b, o, k⟩) (len + src.2) cap, H.set b (.cells (splice cs (o + len * n) src.1) true)) else none
          else if o + len * n ≤ cs.length ∨ len = 0 then
            match k with
            | none => some (.slice (some ⟨H.next, 0, some (2 * n)⟩) (len + src.2) (len + src.2), H.push (.cells ((cs.drop o).take (len * n) ++ src.1) true))
            | some k => if k / 2 = n ∧ rw then some (.slice (some ⟨H.next, 0, some (2 * n)⟩) (len + src.2) (len + src.2), (H.kill b).push (.cells ((cs.drop o).take (len * n) ++ src.1) true)) else none
          else none
        | _ => none
      else none
    | _ => none
theorem x_append {st xt u : TypeId} {z : List Value} {n by' : Nat} (hu : P.underlying st = some (.slice u)) (hx : isStr P xt = true) (he : helem P u = some ⟨z, n, by'⟩) (hn : 0 < n) (s x : Value) :
    happend P H st xt s x = hb1 (apd H n by' s) (hsource H n x) := by
  unfold happend hb1
  simp only [hu, hx, if_true, he, Option.bind_some, hn]
  cases hsource H n x with
  | none => rfl
  | some p => rfl
theorem hsource_nil (n : Nat) : hsource H n (.slice none 0 0) = some ([], 0) := by unfold hsource; rfl
def hsrc (o : Option HObj) (i n len : Nat) : Option (List Value × Nat) := if len = 0 then some ([], 0) else match o with | some (.cells cs _) => if i + len * n ≤ cs.length then some ((cs.drop i).take (len * n), len) else none | _ => none
theorem hsource_slice (n b o : Nat) (s : Option Nat) (len cap : Nat) : hsource H n (.slice (some ⟨b, o, s⟩) len cap) = hsrc (H.get b) o n len := by unfold hsource hsrc; rfl
theorem hsrc_zero (o : Option HObj) (i n : Nat) : hsrc o i n 0 = some ([], 0) := by unfold hsrc; rfl
theorem hsrc_cells (cs : List Value) (rw : Bool) (i n len : Nat) (h : 0 < len) (h' : i + len * n ≤ cs.length) : hsrc (some (.cells cs rw)) i n len = some ((cs.drop i).take (len * n), len) := by
  unfold hsrc; rw [if_neg (by omega)]; simp only; rw [if_pos h']
theorem apd_zero (n by' : Nat) (a : Option Addr) (len cap : Nat) (vs : List Value) : apd H n by' (.slice a len cap) (vs, 0) = some (.slice a len cap, H) := by unfold apd; rfl
theorem apd_nil (n by' : Nat) (vs : List Value) (m : Nat) (h : 0 < m) (h1 : m * by' ≤ 1099511627776) (h2 : m ≤ 1099511627776) :
    apd H n by' (.slice none 0 0) (vs, m) = some (.slice (some ⟨H.next, 0, some (2 * n)⟩) m m, H.push (.cells vs true)) := by
  unfold apd; simp only; rw [if_neg (by omega), if_pos (by rw [Nat.zero_add]; exact ⟨h1, h2⟩)]
def apo (H : HHeap) (n b o : Nat) (k : Option Nat) (len cap m : Nat) (vs : List Value) (ob : Option HObj) : Option (Value × HHeap) :=
  match ob with
  | some (.cells cs rw) =>
          if len + m ≤ cap then
            if rw ∧ o + (len + m) * n ≤ cs.length ∧ (k = none ∨ k = some (2 * n)) then
              some (.slice (some ⟨b, o, k⟩) (len + m) cap, H.set b (.cells (splice cs (o + len * n) vs) true)) else none
          else if o + len * n ≤ cs.length ∨ len = 0 then
            match k with
            | none => some (.slice (some ⟨H.next, 0, some (2 * n)⟩) (len + m) (len + m), H.push (.cells ((cs.drop o).take (len * n) ++ vs) true))
            | some k => if k / 2 = n ∧ rw then some (.slice (some ⟨H.next, 0, some (2 * n)⟩) (len + m) (len + m), (H.kill b).push (.cells ((cs.drop o).take (len * n) ++ vs) true)) else none
          else none
  | _ => none
theorem apd_some (n by' b o : Nat) (k : Option Nat) (len cap : Nat) (vs : List Value) (m : Nat) (h : 0 < m) (h1 : (len + m) * by' ≤ 1099511627776) (h2 : len + m ≤ 1099511627776) :
    apd H n by' (.slice (some ⟨b, o, k⟩) len cap) (vs, m) = apo H n b o k len cap m vs (H.get b) := by
  unfold apd apo; simp only; rw [if_neg (by omega), if_pos ⟨h1, h2⟩]
/-- A row that grew by append, with nothing spare that is known, grows again. -/
theorem apo_grow (n b : Nat) (len m : Nat) (vs cs : List Value) (hn : 0 < n) (h : 0 < m) (hl : cs.length = len * n) :
    apo H n b 0 (some (2 * n)) len len m vs (some (.cells cs true)) = some (.slice (some ⟨H.next, 0, some (2 * n)⟩) (len + m) (len + m), (H.kill b).push (.cells (cs ++ vs) true)) := by
  unfold apo; simp only
  rw [if_neg (by omega), if_pos (by omega), if_pos ⟨by omega, by trivial⟩]
  simp [hl, List.take_of_length_le]

def hcp (H : HHeap) (b o n len : Nat) (src : List Value × Nat) : Option (Value × HHeap) :=
      if min src.2 len = 0 then some (.int .i64 0, H) else
      match H.get b with
      | some (.cells cs true) =>
        if o + min src.2 len * n ≤ cs.length ∧ min src.2 len * n ≤ src.1.length then some (.int .i64 (min src.2 len : Nat), H.set b (.cells (splice cs o (src.1.take (min src.2 len * n))) true)) else none
      | _ => none
theorem x_copy {dt u : TypeId} {z : List Value} {n by' : Nat} (hu : P.underlying dt = some (.slice u)) (he : helem P u = some ⟨z, n, by'⟩) (b o : Nat) (s : Option Nat) (len cap : Nat) (x : Value) :
    hcopy P H dt (.slice (some ⟨b, o, s⟩) len cap) x = hb1 (hcp H b o n len) (hsource H n x) := by
  unfold hcopy hb1
  simp only [hu, he, Option.bind_some]
  cases hsource H n x with
  | none => rfl
  | some p => rfl

theorem hcp_zero (b o n len : Nat) (vs : List Value) : hcp H b o n len (vs, 0) = some (.int .i64 0, H) := by unfold hcp; simp
def hcpo (H : HHeap) (b o n m : Nat) (vs : List Value) (ob : Option HObj) : Option (Value × HHeap) :=
  match ob with
  | some (.cells cs true) => if o + m * n ≤ cs.length ∧ m * n ≤ vs.length then some (.int .i64 (m : Nat), H.set b (.cells (splice cs o (vs.take (m * n))) true)) else none
  | _ => none
theorem hcp_some (b o n len : Nat) (vs : List Value) (m : Nat) (h : 0 < m) (h' : m ≤ len) : hcp H b o n len (vs, m) = hcpo H b o n m vs (H.get b) := by
  unfold hcp hcpo; simp only; rw [Nat.min_eq_left h', if_neg (by omega)]
theorem hcpo_ok (b o n m : Nat) (vs cs : List Value) (h : o + m * n ≤ cs.length) (hv : m * n ≤ vs.length) : hcpo H b o n m vs (some (.cells cs true)) = some (.int .i64 (m : Nat), H.set b (.cells (splice cs o (vs.take (m * n))) true)) := by
  unfold hcpo; simp only; rw [if_pos ⟨h, hv⟩]

/-- Lengths, tests against nil. -/
theorem x_lenS {t u : TypeId} (hu : P.underlying t = some (.slice u)) (a : Option Addr) (n c : Nat) : hlen P H t (.slice a n c) = some (.int .i64 n) := by unfold hlen; simp only [hu]
theorem x_lenStr {t : TypeId} (hu : P.underlying t = some .string) (s : ByteArray) : hlen P H t (.string s) = some (.int .i64 s.size) := by unfold hlen; simp only [hu]
theorem x_ptr_eq {t : TypeId} (h : kindOf P t = 2) (a : Addr) : hbin P .eql t (.pointer (some a)) (.pointer none) = some (.bool false) := by unfold hbin; simp only [h]; rfl
theorem x_ptr_ne {t : TypeId} (h : kindOf P t = 2) (a : Addr) : hbin P .neq t (.pointer (some a)) (.pointer none) = some (.bool true) := by unfold hbin; simp only [h]; rfl
theorem x_ptr_eq0 {t : TypeId} (h : kindOf P t = 2) : hbin P .eql t (.pointer none) (.pointer none) = some (.bool true) := by unfold hbin; simp only [h]; rfl
theorem x_ptr_ne0 {t : TypeId} (h : kindOf P t = 2) : hbin P .neq t (.pointer none) (.pointer none) = some (.bool false) := by unfold hbin; simp only [h]; rfl
theorem x_conv {s d : TypeId} {k k' : IntKind} (hs : P.underlying s = some (.int k)) (hd : P.underlying d = some (.int k')) (k'' : IntKind) (n : Int) : hconvert P s d (.int k'' n) = some (.int k' (k'.wrap n)) := by
  unfold hconvert; simp only [hs, hd]
theorem x_bool_eq {t : TypeId} (h : kindOf P t = 1) (a b : Bool) : hbin P .eql t (.bool a) (.bool b) = some (.bool (a == b)) := by unfold hbin; simp only [h]; rfl
theorem x_bool_ne {t : TypeId} (h : kindOf P t = 1) (a b : Bool) : hbin P .neq t (.bool a) (.bool b) = some (.bool (!(a == b))) := by unfold hbin; simp only [h]; rfl

theorem HStay_top (b : Bool) : HStay b True = True := by cases b <;> rfl

theorem anc_eq (ms : List Nat) (i k : Nat) : anc ms i k = (ms.getD k 0).testBit i := by unfold anc; rfl
theorem fle_of {n : Nat} {l l' : List (Nat × Value)} (h : ∀ p ∈ l, flook l' p.1 = some p.2) : FLe (hfr n l) (hfr n l') := fle_hfr (n := n) (fr := hfr n l') rfl l h
theorem set_set (b : Nat) (o o' : HObj) : (H.set b o).set b o' = H.set b o' := by
  simp only [HHeap.set, HHeap.mk.injEq, true_and]; funext x; split <;> rfl
theorem push_set (o o' : HObj) : (H.push o).set H.next o' = H.push o' := by
  simp only [HHeap.set, HHeap.push, HHeap.mk.injEq, true_and]; funext x; split <;> rfl
theorem fill_step {L : List Value} {n i : Nat} {z x : Value} (hl : L.length = n) (hi : i < n) (hx : L[i]? = some x) : (L.take i ++ List.replicate (n - i) z).set i x = L.take (i + 1) ++ List.replicate (n - (i + 1)) z := by
  have e : List.replicate (n - i) z = z :: List.replicate (n - (i + 1)) z := by rw [← List.replicate_succ]; congr 1; omega
  rw [e, List.set_append_right _ _ (by simp; omega)]
  simp only [List.length_take, hl, Nat.min_eq_left (Nat.le_of_lt hi), Nat.sub_self, List.set_cons_zero]
  rw [List.take_add_one, hx]; simp
/-- Heaps. -/
theorem HHeap.ext' {H H' : HHeap} (h1 : H.next = H'.next) (h2 : ∀ b, H.get b = H'.get b) : H = H' := by
  cases H; cases H'; simp only [HHeap.mk.injEq]; exact ⟨h1, funext h2⟩
theorem splice_mid : ∀ (vs a b : List Value), a.length = vs.length → ∀ (pre : List Value), splice (pre ++ a ++ b) pre.length vs = pre ++ vs ++ b := by
  intro vs
  induction vs with
  | nil => intro a b h pre; rw [List.length_eq_zero_iff.1 h]; rfl
  | cons v vs ih =>
    intro a b h pre
    cases a with
    | nil => simp at h
    | cons x a =>
      rw [splice]
      have e : (pre ++ x :: a ++ b).set pre.length v = (pre ++ [v]) ++ a ++ b := by
        rw [List.append_assoc, List.set_append_right _ _ (by omega), Nat.sub_self]; simp
      rw [e]
      have := ih a b (by simpa using h) (pre ++ [v])
      rw [show (pre ++ [v]).length = pre.length + 1 by simp] at this
      rw [this]; simp

theorem get_set_same (b : Nat) (o : HObj) : (H.set b o).get b = some o := by rw [HHeap.get_set, if_pos rfl]
theorem get_set_ne (b c : Nat) (o : HObj) (h : c ≠ b) : (H.set b o).get c = H.get c := by rw [HHeap.get_set, if_neg h]
theorem get_push_same (o : HObj) : (H.push o).get H.next = some o := by rw [HHeap.get_push, if_pos rfl]
theorem get_push_eq (c : Nat) (o : HObj) (h : c = H.next) : (H.push o).get c = some o := by rw [HHeap.get_push, if_pos h]
theorem get_set_eq (b c : Nat) (o : HObj) (h : c = b) : (H.set b o).get c = some o := by rw [HHeap.get_set, if_pos h]
theorem get_push_ne (c : Nat) (o : HObj) (h : c ≠ H.next) : (H.push o).get c = H.get c := by rw [HHeap.get_push, if_neg h]
theorem get_kill_ne (b c : Nat) (h : c ≠ b) : (H.kill b).get c = H.get c := by rw [HHeap.get_kill, if_neg h]
theorem nx_set (b : Nat) (o : HObj) : (H.set b o).next = H.next := by rw [HHeap.set_next]
theorem nx_push (o : HObj) : (H.push o).next = H.next + 1 := by rw [HHeap.push_next]
theorem nx_kill (b : Nat) : (H.kill b).next = H.next := by rw [HHeap.kill_next]
end Go.HL
/-
  Arenas, in plain Lean: things in a row; their words and heads; what is at a place.
-/
namespace Go.HL

structure Thing where
  kind : Nat
  l : List Nat
deriving DecidableEq

abbrev Things := List Thing

def Thing.room (t : Thing) : Nat := 1 + t.l.length
def usedOf : Things → Nat
  | [] => 0
  | t :: T => t.room + usedOf T
def wordsOf : Things → List Nat
  | [] => []
  | t :: T => (t.l.length * 256 + t.kind) :: t.l ++ wordsOf T
def headsOf : Things → List Bool
  | [] => []
  | t :: T => true :: List.replicate t.l.length false ++ headsOf T
/-- What is at a place. -/
def atP : Things → Nat → Option Thing
  | [], _ => none
  | t :: T, p => if p = 0 then some t else if p < t.room then none else atP T (p - t.room)
/-- Which one it is. -/
def ixP : Things → Nat → Option Nat
  | [], _ => none
  | t :: T, p => if p = 0 then some 0 else if p < t.room then none else (ixP T (p - t.room)).map (· + 1)

structure Thing.Ok (t : Thing) : Prop where
  k1 : 1 ≤ t.kind
  k9 : t.kind ≤ 9
  len : t.l.length ≤ 255
  words : ∀ x ∈ t.l, x < 18446744073709551616
def TOk (T : Things) : Prop := ∀ t ∈ T, t.Ok

theorem wordsOf_length : ∀ (T : Things), (wordsOf T).length = usedOf T
  | [] => rfl
  | t :: T => by simp [wordsOf, usedOf, wordsOf_length T, Thing.room]; omega
theorem headsOf_length : ∀ (T : Things), (headsOf T).length = usedOf T
  | [] => rfl
  | t :: T => by simp [headsOf, usedOf, headsOf_length T, Thing.room]; omega
theorem usedOf_append : ∀ (T T' : Things), usedOf (T ++ T') = usedOf T + usedOf T'
  | [], T' => by simp [usedOf]
  | t :: T, T' => by simp [usedOf, usedOf_append T T']; omega
theorem wordsOf_append : ∀ (T T' : Things), wordsOf (T ++ T') = wordsOf T ++ wordsOf T'
  | [], T' => rfl
  | t :: T, T' => by simp [wordsOf, wordsOf_append T T']
theorem headsOf_append : ∀ (T T' : Things), headsOf (T ++ T') = headsOf T ++ headsOf T'
  | [], T' => rfl
  | t :: T, T' => by simp [headsOf, headsOf_append T T']

theorem atP_head : ∀ (T : Things) (p : Nat), p < usedOf T → (headsOf T)[p]? = some (atP T p).isSome
  | [], p, h => by simp [usedOf] at h
  | t :: T, p, h => by
    rw [headsOf, atP]
    by_cases h0 : p = 0
    · subst h0; simp
    · rw [if_neg h0]
      have e : p = (p - 1) + 1 := by omega
      by_cases h1 : p < t.room
      · rw [if_pos h1, e, List.cons_append, List.getElem?_cons_succ, List.getElem?_append_left (by simp; unfold Thing.room at h1; omega), List.getElem?_replicate, if_pos (by unfold Thing.room at h1; omega)]; rfl
      · rw [if_neg h1]
        have := atP_head T (p - t.room) (by rw [usedOf] at h; omega)
        rw [← this, e, List.cons_append, List.getElem?_cons_succ, List.getElem?_append_right (by simp; unfold Thing.room at h1; omega)]
        congr 1; simp [Thing.room]; omega

/-- Its words. -/
theorem atP_words : ∀ (T : Things) (p : Nat) (t : Thing), atP T p = some t → p + t.room ≤ usedOf T ∧ (wordsOf T)[p]? = some (t.l.length * 256 + t.kind) ∧ ((wordsOf T).drop (p + 1)).take t.l.length = t.l ∧ t ∈ T
  | [], p, t, h => by simp [atP] at h
  | u :: T, p, t, h => by
    rw [atP] at h
    by_cases h0 : p = 0
    · subst h0
      simp only [if_true, Option.some.injEq] at h; subst h
      refine ⟨by rw [usedOf]; omega, by simp [wordsOf], by simp [wordsOf], by simp⟩
    · rw [if_neg h0] at h
      by_cases h1 : p < u.room
      · rw [if_pos h1] at h; cases h
      · rw [if_neg h1] at h
        obtain ⟨k1, k2, k3, k4⟩ := atP_words T (p - u.room) t h
        have hl : ((u.l.length * 256 + u.kind) :: u.l).length = u.room := by simp [Thing.room]; omega
        refine ⟨by rw [usedOf]; omega, ?_, ?_, List.mem_cons_of_mem _ k4⟩
        · rw [wordsOf, List.getElem?_append_right (by rw [hl]; omega), hl]; exact k2
        · rw [wordsOf, List.drop_append, List.drop_of_length_le (by rw [hl]; omega), hl, List.nil_append, show p + 1 - u.room = p - u.room + 1 by omega]; exact k3

theorem atP_none : ∀ (T : Things) (p : Nat), usedOf T ≤ p → atP T p = none
  | [], p, _ => rfl
  | t :: T, p, h => by
    rw [usedOf] at h
    have : 0 < t.room := by unfold Thing.room; omega
    rw [atP, if_neg (by omega), if_neg (by omega)]; exact atP_none T _ (by omega)

theorem atP_ixP : ∀ (T : Things) (p : Nat), atP T p = (ixP T p).bind fun i => T[i]?
  | [], p => rfl
  | t :: T, p => by
    rw [atP, ixP]
    by_cases h0 : p = 0
    · simp [h0]
    · rw [if_neg h0, if_neg h0]
      by_cases h1 : p < t.room
      · simp [h1]
      · rw [if_neg h1, if_neg h1, atP_ixP T]
        cases ixP T (p - t.room) <;> simp

/-- Where the things are. -/
def placeOf (T : Things) (i : Nat) : Nat := usedOf (T.take i)
theorem ixP_place : ∀ (T : Things) (i : Nat), i < T.length → ixP T (placeOf T i) = some i
  | [], i, h => by simp at h
  | t :: T, 0, _ => by simp [placeOf, ixP, usedOf]
  | t :: T, i + 1, h => by
    have : 0 < t.room := by unfold Thing.room; omega
    have e : placeOf (t :: T) (i + 1) = t.room + placeOf T i := by simp [placeOf, usedOf]
    rw [e, ixP, if_neg (by omega), if_neg (by omega), show t.room + placeOf T i - t.room = placeOf T i by omega, ixP_place T i (by simpa using h)]; rfl
theorem place_ixP : ∀ (T : Things) (p i : Nat), ixP T p = some i → i < T.length ∧ placeOf T i = p
  | [], p, i, h => by simp [ixP] at h
  | t :: T, p, i, h => by
    rw [ixP] at h
    by_cases h0 : p = 0
    · simp [h0] at h; subst h; simp [placeOf, usedOf, h0]
    · rw [if_neg h0] at h
      by_cases h1 : p < t.room
      · simp [h1] at h
      · rw [if_neg h1, Option.map_eq_some_iff] at h
        obtain ⟨j, hj, rfl⟩ := h
        obtain ⟨k1, k2⟩ := place_ixP T _ j hj
        refine ⟨by simpa using k1, ?_⟩
        simp only [placeOf, List.take_succ_cons, usedOf] at k2 ⊢
        omega

theorem atP_append : ∀ (T T' : Things) (p : Nat), atP (T ++ T') p = if p < usedOf T then atP T p else atP T' (p - usedOf T)
  | [], T', p => by simp [usedOf]
  | t :: T, T', p => by
    have : 0 < t.room := by unfold Thing.room; omega
    rw [List.cons_append, atP, atP, usedOf, atP_append T T']
    by_cases h0 : p = 0
    · simp [h0]; omega
    · rw [if_neg h0, if_neg h0]
      by_cases h1 : p < t.room
      · simp [h1]; omega
      · rw [if_neg h1, if_neg h1]
        by_cases h2 : p < t.room + usedOf T
        · rw [if_pos h2, if_pos (by omega)]
        · rw [if_neg h2, if_neg (by omega)]; congr 1; omega

/-- What a word is the place of. -/
def findT (T : Things) (w : Nat) : Option Thing := if w % 8 = 1 then atP T (w / 8) else none
def findI (T : Things) (w : Nat) : Option Nat := if w % 8 = 1 then ixP T (w / 8) else none
def wordAt (p : Nat) : Nat := p * 8 + 1
theorem findT_findI (T : Things) (w : Nat) : findT T w = (findI T w).bind fun i => T[i]? := by
  unfold findT findI; split
  · exact atP_ixP T _
  · rfl
end Go.HL
/-
  Arenas in a heap.
-/
namespace Go.HL

def wcells (size : Nat) (T : Things) : List Value := (wordsOf T).map U ++ List.replicate (size - usedOf T) (.int .u64 0)
def hcells (size : Nat) (T : Things) : List Value := (headsOf T).map Value.bool ++ List.replicate (size - usedOf T) (.bool false)
def acells (gw gh size : Nat) (T : Things) : List Value := [.slice (some ⟨gw, 0, none⟩) size size, .slice (some ⟨gh, 0, none⟩) size size, .int .i64 (usedOf T : Int)]

/-- An arena: its struct, its words, its heads. -/
structure AtA (H : HHeap) (g gw gh size : Nat) (T : Things) : Prop where
  a : H.get g = some (.cells (acells gw gh size T) true)
  w : H.get gw = some (.cells (wcells size T) true)
  h : H.get gh = some (.cells (hcells size T) true)
  room : usedOf T ≤ size
  big : size ≤ 65536
  pos : 1 ≤ size
  ok : TOk T
  ne1 : g ≠ gw
  ne2 : g ≠ gh
  ne3 : gw ≠ gh

theorem wcells_length {size : Nat} {T : Things} (h : usedOf T ≤ size) : (wcells size T).length = size := by
  simp [wcells, wordsOf_length]; omega
theorem hcells_length {size : Nat} {T : Things} (h : usedOf T ≤ size) : (hcells size T).length = size := by
  simp [hcells, headsOf_length]; omega
theorem hcells_get {size : Nat} {T : Things} {p : Nat} (h : p < usedOf T) : (hcells size T)[p]? = some (.bool (atP T p).isSome) := by
  rw [hcells, List.getElem?_append_left (by simpa [headsOf_length] using h), List.getElem?_map, atP_head T p h]; rfl
theorem wcells_get {size : Nat} {T : Things} {p : Nat} {t : Thing} (h : atP T p = some t) : (wcells size T)[p]? = some (.int .u64 ((t.l.length * 256 + t.kind : Nat) : Int)) := by
  obtain ⟨k1, k2, _, _⟩ := atP_words T p t h
  have : 0 < t.room := by unfold Thing.room; omega
  rw [wcells, List.getElem?_append_left (by simp [wordsOf_length]; omega), List.getElem?_map, k2]; rfl
theorem wcells_words {size : Nat} {T : Things} {p : Nat} {t : Thing} (h : atP T p = some t) : ((wcells size T).drop (p + 1)).take t.l.length = t.l.map U := by
  obtain ⟨k1, _, k3, _⟩ := atP_words T p t h
  unfold Thing.room at k1
  rw [wcells, List.drop_append_of_le_length (by simp [wordsOf_length]; omega), List.take_append_of_le_length (by simp [wordsOf_length]; omega), ← List.map_drop, ← List.map_take, k3]

theorem repl_put {z h : Value} {vs pre : List Value} {m : Nat} (hm : vs.length + 1 ≤ m) : splice ((pre ++ List.replicate m z).set pre.length h) (pre.length + 1) vs = pre ++ (h :: vs) ++ List.replicate (m - (vs.length + 1)) z := by
  have e1 : List.replicate m z = z :: (List.replicate vs.length z ++ List.replicate (m - (vs.length + 1)) z) := by
    rw [List.replicate_append_replicate, ← List.replicate_succ]; congr 1; omega
  rw [e1, List.set_append_right _ _ (by omega), Nat.sub_self, List.set_cons_zero]
  have := splice_mid vs (List.replicate vs.length z) (List.replicate (m - (vs.length + 1)) z) (by simp) (pre ++ [h])
  rw [show (pre ++ [h]).length = pre.length + 1 by simp] at this
  rw [show pre ++ h :: (List.replicate vs.length z ++ List.replicate (m - (vs.length + 1)) z) = pre ++ [h] ++ List.replicate vs.length z ++ List.replicate (m - (vs.length + 1)) z by simp, this]
  simp
theorem wcells_push {size : Nat} {T : Things} {t : Thing} (h : usedOf T + t.room ≤ size) :
    splice ((wcells size T).set (usedOf T) (.int .u64 ((t.l.length * 256 + t.kind : Nat) : Int))) (usedOf T + 1) (t.l.map U) = wcells size (T ++ [t]) := by
  unfold Thing.room at h
  have := repl_put (z := Value.int .u64 0) (h := .int .u64 ((t.l.length * 256 + t.kind : Nat) : Int)) (vs := t.l.map U) (pre := (wordsOf T).map U) (m := size - usedOf T) (by simp; omega)
  rw [show ((wordsOf T).map U).length = usedOf T by simp [wordsOf_length]] at this
  rw [wcells, this, wcells, wordsOf_append, usedOf_append]
  simp [wordsOf, usedOf, Thing.room]
  omega
theorem hcells_push {size : Nat} {T : Things} {t : Thing} (h : usedOf T + t.room ≤ size) : (hcells size T).set (usedOf T) (.bool true) = hcells size (T ++ [t]) := by
  unfold Thing.room at h
  have := repl_put (z := Value.bool false) (h := .bool true) (vs := List.replicate t.l.length (.bool false)) (pre := (headsOf T).map Value.bool) (m := size - usedOf T) (by simp; omega)
  rw [show ((headsOf T).map Value.bool).length = usedOf T by simp [headsOf_length]] at this
  have e2 : splice ((hcells size T).set (usedOf T) (.bool true)) (usedOf T + 1) (List.replicate t.l.length (.bool false)) = (hcells size T).set (usedOf T) (.bool true) := by
    have e1 : hcells size T = (headsOf T).map Value.bool ++ ([.bool false] ++ List.replicate t.l.length (.bool false) ++ List.replicate (size - usedOf T - (t.l.length + 1)) (.bool false)) := by
      rw [hcells, show List.replicate (size - usedOf T) (Value.bool false) = [.bool false] ++ List.replicate t.l.length (.bool false) ++ List.replicate (size - usedOf T - (t.l.length + 1)) (.bool false) by
        rw [show [Value.bool false] = List.replicate 1 (.bool false) from rfl, List.replicate_append_replicate, List.replicate_append_replicate]; congr 1; omega]
    have e3 : (hcells size T).set (usedOf T) (.bool true) = ((headsOf T).map Value.bool ++ [.bool true]) ++ List.replicate t.l.length (.bool false) ++ List.replicate (size - usedOf T - (t.l.length + 1)) (.bool false) := by
      rw [e1, List.set_append_right _ _ (by simp [headsOf_length])]; simp [headsOf_length]
    rw [e3]
    have := splice_mid (List.replicate t.l.length (.bool false)) (List.replicate t.l.length (.bool false)) (List.replicate (size - usedOf T - (t.l.length + 1)) (.bool false)) rfl ((headsOf T).map Value.bool ++ [.bool true])
    rw [show ((headsOf T).map Value.bool ++ [Value.bool true]).length = usedOf T + 1 by simp [headsOf_length]] at this
    exact this
  rw [← e2, hcells, this, hcells, headsOf_append, usedOf_append]
  simp [headsOf, usedOf, Thing.room]
  omega

/-- What a walk tells of a place. -/
def findV (gw : Nat) (T : Things) (w : Nat) : Value :=
  match findT T w with
  | some t => .tuple #[.slice (some ⟨gw, if t.l.length = 0 then 0 else w / 8 + 1, none⟩) t.l.length t.l.length, .int .i64 (t.kind : Int), .bool true]
  | none => .tuple #[.slice none 0 0, .int .i64 0, .bool false]
end Go.HL
/-
  Maps from words to words.
-/
namespace Go.HL
open Go.RowKit

variable {P : Program} {H : HHeap}

def mapUU (m : List (Nat × Nat)) : List (Value × Value) := m.map fun p => (U p.1, U p.2)

theorem mapUU_plain {kt : TypeId} (hk : P.underlying kt = some (.int .u64)) (m : List (Nat × Nat)) : (mapUU m).all (fun e => plainKey P kt e.1) = true := by
  rw [List.all_eq_true]; intro e he
  obtain ⟨p, _, rfl⟩ := List.mem_map.1 he
  simp [plainKey, hk]
theorem keyEq_u (w k : Nat) : keyEq (U w) (U k) = decide (w = k) := by
  show ((w : Int) == (k : Int)) = decide (w = k)
  by_cases h : w = k
  · simp [h]
  · have : (w : Int) ≠ k := by omega
    simp [h, this]
theorem hfind_cons (w k : Nat) (v : Value) (es : List (Value × Value)) : hfind (U w) ((U k, v) :: es) = if w = k then some (0, v) else (hfind (U w) es).map fun r => (r.1 + 1, r.2) := by
  rw [hfind, keyEq_u]; by_cases h : w = k <;> simp [h]
theorem hfind_some : ∀ (m : List (Nat × Nat)) (w v : Nat), m.lookup w = some v → ∃ j, hfind (U w) (mapUU m) = some (j, U v)
  | [], w, v, h => by simp at h
  | (k, x) :: m, w, v, h => by
    simp only [mapUU, List.map_cons]
    rw [List.lookup_cons] at h
    by_cases hk : w = k
    · subst hk; simp only [beq_self_eq_true] at h
      cases h; exact ⟨0, by rw [hfind_cons, if_pos rfl]⟩
    · have h1 : (w == k) = false := by simp [hk]
      rw [h1] at h; simp only at h
      obtain ⟨j, hj⟩ := hfind_some m w v h
      refine ⟨j + 1, ?_⟩
      unfold mapUU at hj
      rw [hfind_cons, if_neg hk, hj]; rfl
theorem hfind_none : ∀ (m : List (Nat × Nat)) (w : Nat), m.lookup w = none → hfind (U w) (mapUU m) = none
  | [], w, h => rfl
  | (k, x) :: m, w, h => by
    simp only [mapUU, List.map_cons]
    rw [List.lookup_cons] at h
    by_cases hk : w = k
    · subst hk; simp at h
    · have h1 : (w == k) = false := by simp [hk]
      rw [h1] at h; simp only at h
      have := hfind_none m w h
      unfold mapUU at this
      rw [hfind_cons, if_neg hk, this]; rfl

theorem x_lookup_some {t kt et : TypeId} (hu : P.underlying t = some (.map kt et)) (hk : P.underlying kt = some (.int .u64)) {b : Nat} {m : List (Nat × Nat)} (hg : H.get b = some (.map (mapUU m))) {w v : Nat} (hl : m.lookup w = some v) :
    hlookup P H t (.map (some b)) (.int .u64 (w : Int)) true = some (.tuple #[.int .u64 (v : Int), .bool true]) := by
  obtain ⟨j, hj⟩ := hfind_some m w v hl
  unfold hlookup
  simp only [hu, hentries, hg, Option.bind_some]
  rw [if_pos ⟨by simp [plainKey, hk], mapUU_plain hk m⟩, hj]; rfl
theorem x_lookup_none {t kt et : TypeId} (hu : P.underlying t = some (.map kt et)) (hk : P.underlying kt = some (.int .u64)) {z : Value} (hz : hzero P et = some z) {b : Nat} {m : List (Nat × Nat)} (hg : H.get b = some (.map (mapUU m))) {w : Nat} (hl : m.lookup w = none) :
    hlookup P H t (.map (some b)) (.int .u64 (w : Int)) true = some (.tuple #[z, .bool false]) := by
  unfold hlookup
  simp only [hu, hentries, hg, Option.bind_some]
  rw [if_pos ⟨by simp [plainKey, hk], mapUU_plain hk m⟩, hfind_none m w hl]
  simp [hz]
theorem x_update_new {t kt et : TypeId} (hu : P.underlying t = some (.map kt et)) (hk : P.underlying kt = some (.int .u64)) {b : Nat} {m : List (Nat × Nat)} (hg : H.get b = some (.map (mapUU m))) {w : Nat} (hl : m.lookup w = none) (v : Nat) :
    hmapUpdate P H t (.map (some b)) (.int .u64 (w : Int)) (.int .u64 (v : Int)) = some (H.set b (.map (mapUU (m ++ [(w, v)])))) := by
  unfold hmapUpdate
  simp only [hu, hg]
  rw [if_pos ⟨by simp [plainKey, hk], mapUU_plain hk m⟩, hfind_none m w hl]
  simp [mapUU]
def mpu (H : HHeap) (b w v : Nat) (o : Option HObj) : Option HHeap :=
  match o with
  | some (.map es) => match hfind (U w) es with
    | some (j, _) => some (H.set b (.map (es.set j (U w, U v))))
    | none => some (H.set b (.map (es ++ [(U w, U v)])))
  | _ => none
theorem mpu_new {b w v : Nat} {m : List (Nat × Nat)} (hl : m.lookup w = none) : mpu H b w v (some (.map (mapUU m))) = some (H.set b (.map (mapUU (m ++ [(w, v)])))) := by
  unfold mpu; simp only; rw [hfind_none m w hl]; simp [mapUU]
theorem apo_grow1 (b len m : Nat) (vs cs : List Value) (h : 0 < m) (hl : cs.length = len) :
    apo H 1 b 0 (some 2) len len m vs (some (.cells cs true)) = some (.slice (some ⟨H.next, 0, some 2⟩) (len + m) (len + m), (H.kill b).push (.cells (cs ++ vs) true)) :=
  apo_grow 1 b len m vs cs (by omega) h (by omega)
end Go.HL
/-
  The walking equations as one set.
-/
namespace Go.HL
open Go.RowKit
attribute [go_sem] HW_skip HW_region HW_draw HW_seq HW_cond HW_block HW_exit HW_ret HW_loop HThen_normal HThen_ret HThen_exit HBlock_normal HBlock_ret HBlock_exit_same HBlock_exit_ne HRow_nil HRow_cons HNext_apply HDo_apply HLater_apply HGo_some HWant_true HWant_false HCallee_some HCallee_none HIf_true HIf_false HTest_bool HEnd_normal HEnd_ret HRes_one HRes_nil HRes_more hwanted_none e_wanted eguard_true eguard_false eguard_undef edst_some hret_some hdone_some hb1_some hb2_some hb3_some hb4_some hcons_some hpcons_some hev_tmp hev_int hev_bool hev_string hev_nilptr hev_nilslice hev_nilmap hev_nilfunc hev_niliface hev_func flook_nil flook_cons hevs_nil e_evs_cons hparts_nil e_parts_cons hopt_none hintv_int hopt_some epick_true epick_false epick_pos epick_neg e_pick hnil_ptr hnil_func e_nilCheck iixA_int e_indexAddr iix_int e_index eext_tuple e_extract emk_int e_makeSlice hop_makeMap efunc_eq e_makeFunc eiface_eq e_makeInterface e_builtin hop_call e_move e_assign hop_alloc e_box e_build e_buildSlice e_load e_store e_binOp e_unOp e_convert e_slice efld e_fieldAddr efieldv e_field elook e_lookup e_mapUpdate e_insert hcallee_move hcallee_assign hcallee_alloc hcallee_box hcallee_build hcallee_buildSlice hcallee_load hcallee_store hcallee_binOp hcallee_unOp hcallee_convert hcallee_slice hcallee_fieldAddr hcallee_field hcallee_lookup hcallee_mapUpdate hcallee_insert hcallee_pick hcallee_nilCheck hcallee_indexAddr hcallee_index hcallee_extract hcallee_makeSlice hcallee_makeMap hcallee_makeFunc hcallee_makeInterface hcallee_builtin hcallee_call e_len hbuiltin_append hbuiltin_copy e_min e_max hresults_nil e_results_tmp e_results_cell hput_hfr hput_none hfr_get hfr_size Option.some.injEq Prod.mk.injEq List.getElem?_toArray List.getElem?_cons_zero List.getElem?_cons_succ List.getElem?_nil List.toList_toArray Bool.false_eq_true if_true if_false beq_self_eq_true decide_true decide_false List.cons_append List.nil_append true_and and_true beq_true beq_false Bool.not_true Bool.not_false hbin_shl hbin_shr b_add b_sub b_mul b_eql b_neq b_lss b_leq b_gtr b_geq b_quo b_rem b_and b_or u_neg u_not hint_quo hint_rem hint_and7 hint_and255 hint_or3 hint_or8 hshl3 hshl3i hshl8i hshr3 hshr8 wrap_i wrap_u HIf_pos HIf_neg HWant_pos HWant_neg HWant_not_pos HWant_not_neg HIf_not_pos HIf_not_neg HStay_top HStay_true HStay_false HSame_eq HKept_nil HKept_cons HGo1_some HQNext_eq HQLate_true HQLate_false HQRead_eq HQDo_eq HENext_eq HEDo_eq HSQ_some HSE_some HD_done HD_op HD_eff HD_stop reads ne_eq not_true_eq_false not_false_eq_true Nat.zero_add Nat.add_zero Nat.mul_one Int.toNat_natCast Int.toNat_add Nat.sub_zero Int.zero_add Int.add_zero Int.sub_zero List.set_cons_zero List.set_cons_succ eq_self anc_eq List.getD_cons_zero List.getD_cons_succ Nat.testBit get_push_ne get_push_eq get_set_ne get_set_eq get_kill_ne nx_push nx_set nx_kill
end Go.HL
/-
  The instances of this program's types. Printed by wip/tools/mkT.py.
-/
namespace Go.HL
open Go.RowKit Go.Proofs
theorem el61 : helem Try.prog 61 = some ⟨[.int .i64 0, .slice none 0 0], 2, 32⟩ := by kernel_rfl
theorem al61 (H : HHeap) : halloc Try.prog H 61 = some (.pointer (some ⟨H.next, 0, none⟩), H.push (.cells [.int .i64 0, .slice none 0 0] true)) := x_alloc el61
theorem el72 : helem Try.prog 72 = some ⟨[.int .i64 0, .int .i64 0, .slice none 0 0], 3, 40⟩ := by kernel_rfl
theorem al72 (H : HHeap) : halloc Try.prog H 72 = some (.pointer (some ⟨H.next, 0, none⟩), H.push (.cells [.int .i64 0, .int .i64 0, .slice none 0 0] true)) := x_alloc el72
theorem isS23 : isStr Try.prog 23 = true := by kernel_rfl
theorem el42 : helem Try.prog 42 = some ⟨[.int .u64 0], 1, 8⟩ := by kernel_rfl
theorem ap23_23 (H : HHeap) (s x : Value) : happend Try.prog H 23 23 s x = hb1 (apd H 1 8 s) (hsource H 1 x) := x_append Try.underlying23 isS23 el42 (by decide) s x
theorem isS67 : isStr Try.prog 67 = true := by kernel_rfl
theorem ap67_67 (H : HHeap) (s x : Value) : happend Try.prog H 67 67 s x = hb1 (apd H 3 40 s) (hsource H 3 x) := x_append Try.underlying67 isS67 el72 (by decide) s x
theorem el65 : helem Try.prog 65 = some ⟨[.pointer none, .pointer none, .map none, .slice none 0 0], 4, 48⟩ := by kernel_rfl
theorem sz27 : hsize Try.prog 27 = some 1 := by kernel_rfl
theorem sz40 : hsize Try.prog 40 = some 1 := by kernel_rfl
theorem sz23 : hsize Try.prog 23 = some 1 := by kernel_rfl
theorem bd65_0_1_2 (x0 : Option Addr) (x1 : Option Addr) (x2 : Option Nat) : hbuild Try.prog 65 [(0, .pointer x0), (1, .pointer x1), (2, .map x2)] = some (.agg #[.pointer x0, .pointer x1, .map x2, .slice none 0 0]) := by simp only [hbuild, el65, Try.underlying65, Option.bind_some, hplaces, sz23, sz27, sz40, Option.map_some]; rfl
theorem el69 : helem Try.prog 69 = some ⟨[.int .i64 0, .int .i64 0, .slice none 0 0], 3, 40⟩ := by kernel_rfl
theorem sz3 : hsize Try.prog 3 = some 1 := by kernel_rfl
theorem sz67 : hsize Try.prog 67 = some 1 := by kernel_rfl
theorem bd69_0 (x0k : IntKind) (x0 : Int) : hbuild Try.prog 69 [(0, .int x0k x0)] = some (.agg #[.int x0k x0, .int .i64 0, .slice none 0 0]) := by simp only [hbuild, el69, Try.underlying69, Option.bind_some, hplaces, sz3, sz67, Option.map_some]; rfl
theorem bd72_0_1_2 (x0k : IntKind) (x0 : Int) (x1k : IntKind) (x1 : Int) (x2 : Option Addr) (x2l x2c : Nat) : hbuild Try.prog 72 [(0, .int x0k x0), (1, .int x1k x1), (2, .slice x2 x2l x2c)] = some (.agg #[.int x0k x0, .int x1k x1, .slice x2 x2l x2c]) := by simp only [hbuild, el72, Try.underlying72, Option.bind_some, hplaces, sz23, sz3, Option.map_some]; rfl
theorem el83 : helem Try.prog 83 = some ⟨[.slice none 0 0, .slice none 0 0, .int .i64 0], 3, 56⟩ := by kernel_rfl
theorem sz74 : hsize Try.prog 74 = some 1 := by kernel_rfl
theorem bd83_0_1 (x0 : Option Addr) (x0l x0c : Nat) (x1 : Option Addr) (x1l x1c : Nat) : hbuild Try.prog 83 [(0, .slice x0 x0l x0c), (1, .slice x1 x1l x1c)] = some (.agg #[.slice x0 x0l x0c, .slice x1 x1l x1c, .int .i64 0]) := by simp only [hbuild, el83, Try.underlying83, Option.bind_some, hplaces, sz23, sz3, sz74, Option.map_some]; rfl
theorem bs23_0_ (H : HHeap)  : hbuildSlice Try.prog H 23 0 [] = some (.slice (some ⟨H.next, 0, none⟩) 0 0, H.push (.cells [] true)) := by simp only [hbuildSlice, el42, Try.underlying23, Option.bind_some]; rfl
theorem bs23_1_0 (H : HHeap) (x0k : IntKind) (x0 : Int) : hbuildSlice Try.prog H 23 1 [(0, .int x0k x0)] = some (.slice (some ⟨H.next, 0, none⟩) 1 1, H.push (.cells [.int x0k x0] true)) := by simp only [hbuildSlice, el42, Try.underlying23, Option.bind_some]; rfl
theorem bs23_2_0_1 (H : HHeap) (x0k : IntKind) (x0 : Int) (x1k : IntKind) (x1 : Int) : hbuildSlice Try.prog H 23 2 [(0, .int x0k x0), (1, .int x1k x1)] = some (.slice (some ⟨H.next, 0, none⟩) 2 2, H.push (.cells [.int x0k x0, .int x1k x1] true)) := by simp only [hbuildSlice, el42, Try.underlying23, Option.bind_some]; rfl
theorem bs67_1_0 (H : HHeap) (x0_0 x0_1 x0_2 : Value) (h0 : allOne [x0_0, x0_1, x0_2] = true) : hbuildSlice Try.prog H 67 1 [(0, .agg #[x0_0, x0_1, x0_2])] = some (.slice (some ⟨H.next, 0, none⟩) 1 1, H.push (.cells [x0_0, x0_1, x0_2] true)) := by simp only [hbuildSlice, el72, Try.underlying67, Option.bind_some]; exact if_pos h0
theorem kd27 : kindOf Try.prog 27 = 2 := by kernel_rfl
theorem pe27 (a : Addr) : hbin Try.prog .eql 27 (.pointer (some a)) (.pointer none) = some (.bool false) := x_ptr_eq kd27 a
theorem pn27 (a : Addr) : hbin Try.prog .neq 27 (.pointer (some a)) (.pointer none) = some (.bool true) := x_ptr_ne kd27 a
theorem pez27 : hbin Try.prog .eql 27 (.pointer none) (.pointer none) = some (.bool true) := x_ptr_eq0 kd27
theorem pnz27 : hbin Try.prog .neq 27 (.pointer none) (.pointer none) = some (.bool false) := x_ptr_ne0 kd27
theorem kd4 : kindOf Try.prog 4 = 1 := by kernel_rfl
theorem be4 (a b : Bool) : hbin Try.prog .eql 4 (.bool a) (.bool b) = some (.bool (a == b)) := x_bool_eq kd4 a b
theorem bn4 (a b : Bool) : hbin Try.prog .neq 4 (.bool a) (.bool b) = some (.bool (!(a == b))) := x_bool_ne kd4 a b
theorem cv3_41 (k : IntKind) (n : Int) : hconvert Try.prog 3 41 (.int k n) = some (.int .u64 (IntKind.u64.wrap n)) := x_conv Try.underlying3 Try.underlying41 k n
theorem cv3_42 (k : IntKind) (n : Int) : hconvert Try.prog 3 42 (.int k n) = some (.int .u64 (IntKind.u64.wrap n)) := x_conv Try.underlying3 Try.underlying42 k n
theorem cv42_3 (k : IntKind) (n : Int) : hconvert Try.prog 42 3 (.int k n) = some (.int .i64 (IntKind.i64.wrap n)) := x_conv Try.underlying42 Try.underlying3 k n
theorem cv5_3 (k : IntKind) (n : Int) : hconvert Try.prog 5 3 (.int k n) = some (.int .i64 (IntKind.i64.wrap n)) := x_conv Try.underlying5 Try.underlying3 k n
theorem cp23 (H : HHeap) (b o : Nat) (s : Option Nat) (len cap : Nat) (x : Value) : hcopy Try.prog H 23 (.slice (some ⟨b, o, s⟩) len cap) x = hb1 (hcp H b o 1 len) (hsource H 1 x) := x_copy Try.underlying23 el42 b o s len cap x
theorem fa25_0 (b o : Nat) : hfieldAt Try.prog 25 (.pointer (some ⟨b, o, none⟩)) 0 = some (.pointer (some ⟨b, o + 0, none⟩)) := x_field Try.underlying25 rfl sz3 (by decide) 0 rfl b o
theorem sz22 : hsize Try.prog 22 = some 1 := by kernel_rfl
theorem fa25_1 (b o : Nat) : hfieldAt Try.prog 25 (.pointer (some ⟨b, o, none⟩)) 1 = some (.pointer (some ⟨b, o + 1, none⟩)) := x_field Try.underlying25 rfl sz22 (by decide) 1 rfl b o
theorem fa25_2 (b o : Nat) : hfieldAt Try.prog 25 (.pointer (some ⟨b, o, none⟩)) 2 = some (.pointer (some ⟨b, o + 2, none⟩)) := x_field Try.underlying25 rfl sz23 (by decide) 2 rfl b o
theorem fa61_0 (b o : Nat) : hfieldAt Try.prog 61 (.pointer (some ⟨b, o, none⟩)) 0 = some (.pointer (some ⟨b, o + 0, none⟩)) := x_field Try.underlying61 rfl sz3 (by decide) 0 rfl b o
theorem fa61_1 (b o : Nat) : hfieldAt Try.prog 61 (.pointer (some ⟨b, o, none⟩)) 1 = some (.pointer (some ⟨b, o + 1, none⟩)) := x_field Try.underlying61 rfl sz23 (by decide) 1 rfl b o
theorem fa65_0 (b o : Nat) : hfieldAt Try.prog 65 (.pointer (some ⟨b, o, none⟩)) 0 = some (.pointer (some ⟨b, o + 0, none⟩)) := x_field Try.underlying65 rfl sz27 (by decide) 0 rfl b o
theorem fa65_1 (b o : Nat) : hfieldAt Try.prog 65 (.pointer (some ⟨b, o, none⟩)) 1 = some (.pointer (some ⟨b, o + 1, none⟩)) := x_field Try.underlying65 rfl sz27 (by decide) 1 rfl b o
theorem fa65_2 (b o : Nat) : hfieldAt Try.prog 65 (.pointer (some ⟨b, o, none⟩)) 2 = some (.pointer (some ⟨b, o + 2, none⟩)) := x_field Try.underlying65 rfl sz40 (by decide) 2 rfl b o
theorem fa65_3 (b o : Nat) : hfieldAt Try.prog 65 (.pointer (some ⟨b, o, none⟩)) 3 = some (.pointer (some ⟨b, o + 3, none⟩)) := x_field Try.underlying65 rfl sz23 (by decide) 3 rfl b o
theorem fa69_0 (b o : Nat) : hfieldAt Try.prog 69 (.pointer (some ⟨b, o, none⟩)) 0 = some (.pointer (some ⟨b, o + 0, none⟩)) := x_field Try.underlying69 rfl sz3 (by decide) 0 rfl b o
theorem fa69_1 (b o : Nat) : hfieldAt Try.prog 69 (.pointer (some ⟨b, o, none⟩)) 1 = some (.pointer (some ⟨b, o + 1, none⟩)) := x_field Try.underlying69 rfl sz3 (by decide) 1 rfl b o
theorem fa69_2 (b o : Nat) : hfieldAt Try.prog 69 (.pointer (some ⟨b, o, none⟩)) 2 = some (.pointer (some ⟨b, o + 2, none⟩)) := x_field Try.underlying69 rfl sz67 (by decide) 2 rfl b o
theorem fa72_0 (b o : Nat) : hfieldAt Try.prog 72 (.pointer (some ⟨b, o, none⟩)) 0 = some (.pointer (some ⟨b, o + 0, none⟩)) := x_field Try.underlying72 rfl sz3 (by decide) 0 rfl b o
theorem fa72_1 (b o : Nat) : hfieldAt Try.prog 72 (.pointer (some ⟨b, o, none⟩)) 1 = some (.pointer (some ⟨b, o + 1, none⟩)) := x_field Try.underlying72 rfl sz3 (by decide) 1 rfl b o
theorem fa72_2 (b o : Nat) : hfieldAt Try.prog 72 (.pointer (some ⟨b, o, none⟩)) 2 = some (.pointer (some ⟨b, o + 2, none⟩)) := x_field Try.underlying72 rfl sz23 (by decide) 2 rfl b o
theorem fa83_0 (b o : Nat) : hfieldAt Try.prog 83 (.pointer (some ⟨b, o, none⟩)) 0 = some (.pointer (some ⟨b, o + 0, none⟩)) := x_field Try.underlying83 rfl sz23 (by decide) 0 rfl b o
theorem fa83_1 (b o : Nat) : hfieldAt Try.prog 83 (.pointer (some ⟨b, o, none⟩)) 1 = some (.pointer (some ⟨b, o + 1, none⟩)) := x_field Try.underlying83 rfl sz74 (by decide) 1 rfl b o
theorem fa83_2 (b o : Nat) : hfieldAt Try.prog 83 (.pointer (some ⟨b, o, none⟩)) 2 = some (.pointer (some ⟨b, o + 2, none⟩)) := x_field Try.underlying83 rfl sz3 (by decide) 2 rfl b o
theorem sz61 : hsize Try.prog 61 = some 2 := by kernel_rfl
theorem ix22 (b o len cap : Nat) (s : Option Nat) (k : IntKind) (i : Int) : hindexAt Try.prog 22 (.slice (some ⟨b, o, s⟩) len cap) (.int k i) = ixa b o 2 len i := x_index Try.underlying22 sz61 b o len cap s k i
theorem sz42 : hsize Try.prog 42 = some 1 := by kernel_rfl
theorem ix23 (b o len cap : Nat) (s : Option Nat) (k : IntKind) (i : Int) : hindexAt Try.prog 23 (.slice (some ⟨b, o, s⟩) len cap) (.int k i) = ixa b o 1 len i := x_index Try.underlying23 sz42 b o len cap s k i
theorem sz72 : hsize Try.prog 72 = some 3 := by kernel_rfl
theorem ix67 (b o len cap : Nat) (s : Option Nat) (k : IntKind) (i : Int) : hindexAt Try.prog 67 (.slice (some ⟨b, o, s⟩) len cap) (.int k i) = ixa b o 3 len i := x_index Try.underlying67 sz72 b o len cap s k i
theorem sz4 : hsize Try.prog 4 = some 1 := by kernel_rfl
theorem ix74 (b o len cap : Nat) (s : Option Nat) (k : IntKind) (i : Int) : hindexAt Try.prog 74 (.slice (some ⟨b, o, s⟩) len cap) (.int k i) = ixa b o 1 len i := x_index Try.underlying74 sz4 b o len cap s k i
theorem ln22 (H : HHeap) (a : Option Addr) (n c : Nat) : hlen Try.prog H 22 (.slice a n c) = some (.int .i64 n) := x_lenS Try.underlying22 a n c
theorem ln23 (H : HHeap) (a : Option Addr) (n c : Nat) : hlen Try.prog H 23 (.slice a n c) = some (.int .i64 n) := x_lenS Try.underlying23 a n c
theorem ln67 (H : HHeap) (a : Option Addr) (n c : Nat) : hlen Try.prog H 67 (.slice a n c) = some (.int .i64 n) := x_lenS Try.underlying67 a n c
theorem ag22 : hagg Try.prog 22 = some false := by kernel_rfl
theorem ld22 (H : HHeap) (b o : Nat) : hload Try.prog H 22 (.pointer (some ⟨b, o, none⟩)) = ldc (H.get b) o := x_load ag22 b o
theorem ag23 : hagg Try.prog 23 = some false := by kernel_rfl
theorem ld23 (H : HHeap) (b o : Nat) : hload Try.prog H 23 (.pointer (some ⟨b, o, none⟩)) = ldc (H.get b) o := x_load ag23 b o
theorem ag25 : hagg Try.prog 25 = some true := by kernel_rfl
theorem sz25 : hsize Try.prog 25 = some 3 := by kernel_rfl
theorem ld25 (H : HHeap) (b o : Nat) : hload Try.prog H 25 (.pointer (some ⟨b, o, none⟩)) = lda (H.get b) o 3 := x_loadN ag25 sz25 b o
theorem ag27 : hagg Try.prog 27 = some false := by kernel_rfl
theorem ld27 (H : HHeap) (b o : Nat) : hload Try.prog H 27 (.pointer (some ⟨b, o, none⟩)) = ldc (H.get b) o := x_load ag27 b o
theorem ag3 : hagg Try.prog 3 = some false := by kernel_rfl
theorem ld3 (H : HHeap) (b o : Nat) : hload Try.prog H 3 (.pointer (some ⟨b, o, none⟩)) = ldc (H.get b) o := x_load ag3 b o
theorem ag4 : hagg Try.prog 4 = some false := by kernel_rfl
theorem ld4 (H : HHeap) (b o : Nat) : hload Try.prog H 4 (.pointer (some ⟨b, o, none⟩)) = ldc (H.get b) o := x_load ag4 b o
theorem ag40 : hagg Try.prog 40 = some false := by kernel_rfl
theorem ld40 (H : HHeap) (b o : Nat) : hload Try.prog H 40 (.pointer (some ⟨b, o, none⟩)) = ldc (H.get b) o := x_load ag40 b o
theorem ag42 : hagg Try.prog 42 = some false := by kernel_rfl
theorem ld42 (H : HHeap) (b o : Nat) : hload Try.prog H 42 (.pointer (some ⟨b, o, none⟩)) = ldc (H.get b) o := x_load ag42 b o
theorem ag61 : hagg Try.prog 61 = some true := by kernel_rfl
theorem ld61 (H : HHeap) (b o : Nat) : hload Try.prog H 61 (.pointer (some ⟨b, o, none⟩)) = lda (H.get b) o 2 := x_loadN ag61 sz61 b o
theorem ag67 : hagg Try.prog 67 = some false := by kernel_rfl
theorem ld67 (H : HHeap) (b o : Nat) : hload Try.prog H 67 (.pointer (some ⟨b, o, none⟩)) = ldc (H.get b) o := x_load ag67 b o
theorem ag72 : hagg Try.prog 72 = some true := by kernel_rfl
theorem ld72 (H : HHeap) (b o : Nat) : hload Try.prog H 72 (.pointer (some ⟨b, o, none⟩)) = lda (H.get b) o 3 := x_loadN ag72 sz72 b o
theorem ag74 : hagg Try.prog 74 = some false := by kernel_rfl
theorem ld74 (H : HHeap) (b o : Nat) : hload Try.prog H 74 (.pointer (some ⟨b, o, none⟩)) = ldc (H.get b) o := x_load ag74 b o
theorem mk23 (H : HHeap) (k k' : IntKind) (l c : Int) : hmakeSlice Try.prog H 23 (.int k l) (.int k' c) = mks H (.int .u64 0) 8 l c := x_make Try.underlying23 el42 k k' l c
theorem el4 : helem Try.prog 4 = some ⟨[.bool false], 1, 1⟩ := by kernel_rfl
theorem mk74 (H : HHeap) (k k' : IntKind) (l c : Int) : hmakeSlice Try.prog H 74 (.int k l) (.int k' c) = mks H (.bool false) 1 l c := x_make Try.underlying74 el4 k k' l c
theorem sl23 (b o len cap : Nat) (lo hi mx : Option Value) : hslice Try.prog 23 (.slice (some ⟨b, o, none⟩) len cap) lo hi mx = slx b o 1 len cap lo hi mx := x_slice Try.underlying23 sz42 b o len cap lo hi mx
theorem slg23 (b o k len cap : Nat) (lo hi mx : Option Value) : hslice Try.prog 23 (.slice (some ⟨b, o, some k⟩) len cap) lo hi mx = slg b o 1 k len cap lo hi mx := x_sliceG Try.underlying23 sz42 b o k len cap lo hi mx
theorem sln23 (lo hi mx : Option Value) : hslice Try.prog 23 (.slice none 0 0) lo hi mx = sln lo hi mx := x_sliceN Try.underlying23 sz42 lo hi mx
theorem st23 (H : HHeap) (b o : Nat) (x : Option Addr) (xl xc : Nat) : hstore Try.prog H 23 (.pointer (some ⟨b, o, none⟩)) (.slice x xl xc) = stc H b (H.get b) o (.slice x xl xc) := x_store sz23 b o rfl
theorem st3 (H : HHeap) (b o : Nat) (xk : IntKind) (x : Int) : hstore Try.prog H 3 (.pointer (some ⟨b, o, none⟩)) (.int xk x) = stc H b (H.get b) o (.int xk x) := x_store sz3 b o rfl
theorem st4 (H : HHeap) (b o : Nat) (x : Bool) : hstore Try.prog H 4 (.pointer (some ⟨b, o, none⟩)) (.bool x) = stc H b (H.get b) o (.bool x) := x_store sz4 b o rfl
theorem st42 (H : HHeap) (b o : Nat) (xk : IntKind) (x : Int) : hstore Try.prog H 42 (.pointer (some ⟨b, o, none⟩)) (.int xk x) = stc H b (H.get b) o (.int xk x) := x_store sz42 b o rfl
theorem st61 (H : HHeap) (b o : Nat) (v0 v1 : Value) (h : allOne [v0, v1] = true) : hstore Try.prog H 61 (.pointer (some ⟨b, o, none⟩)) (.agg #[v0, v1]) = sta H b (H.get b) o [v0, v1] := x_storeN sz61 b o rfl h
theorem st67 (H : HHeap) (b o : Nat) (x : Option Addr) (xl xc : Nat) : hstore Try.prog H 67 (.pointer (some ⟨b, o, none⟩)) (.slice x xl xc) = stc H b (H.get b) o (.slice x xl xc) := x_store sz67 b o rfl
theorem st72 (H : HHeap) (b o : Nat) (v0 v1 v2 : Value) (h : allOne [v0, v1, v2] = true) : hstore Try.prog H 72 (.pointer (some ⟨b, o, none⟩)) (.agg #[v0, v1, v2]) = sta H b (H.get b) o [v0, v1, v2] := x_storeN sz72 b o rfl h
theorem wh3 (vs : List Value) : hwho Try.prog (some (.func (.func 3) #[] #[])) (some vs) = some (3, vs) := hwho_func0 3 vs (by kernel_rfl)
theorem wh4 (vs : List Value) : hwho Try.prog (some (.func (.func 4) #[] #[])) (some vs) = some (4, vs) := hwho_func0 4 vs (by kernel_rfl)
theorem wh5 (vs : List Value) : hwho Try.prog (some (.func (.func 5) #[] #[])) (some vs) = some (5, vs) := hwho_func0 5 vs (by kernel_rfl)
theorem wh6 (vs : List Value) : hwho Try.prog (some (.func (.func 6) #[] #[])) (some vs) = some (6, vs) := hwho_func0 6 vs (by kernel_rfl)
theorem wh7 (vs : List Value) : hwho Try.prog (some (.func (.func 7) #[] #[])) (some vs) = some (7, vs) := hwho_func0 7 vs (by kernel_rfl)
theorem wh8 (vs : List Value) : hwho Try.prog (some (.func (.func 8) #[] #[])) (some vs) = some (8, vs) := hwho_func0 8 vs (by kernel_rfl)
theorem wh9 (vs : List Value) : hwho Try.prog (some (.func (.func 9) #[] #[])) (some vs) = some (9, vs) := hwho_func0 9 vs (by kernel_rfl)
theorem wh10 (vs : List Value) : hwho Try.prog (some (.func (.func 10) #[] #[])) (some vs) = some (10, vs) := hwho_func0 10 vs (by kernel_rfl)
theorem wh11 (vs : List Value) : hwho Try.prog (some (.func (.func 11) #[] #[])) (some vs) = some (11, vs) := hwho_func0 11 vs (by kernel_rfl)
theorem wh12 (vs : List Value) : hwho Try.prog (some (.func (.func 12) #[] #[])) (some vs) = some (12, vs) := hwho_func0 12 vs (by kernel_rfl)
theorem wh13 (vs : List Value) : hwho Try.prog (some (.func (.func 13) #[] #[])) (some vs) = some (13, vs) := hwho_func0 13 vs (by kernel_rfl)
theorem wh14 (vs : List Value) : hwho Try.prog (some (.func (.func 14) #[] #[])) (some vs) = some (14, vs) := hwho_func0 14 vs (by kernel_rfl)
theorem wh15 (vs : List Value) : hwho Try.prog (some (.func (.func 15) #[] #[])) (some vs) = some (15, vs) := hwho_func0 15 vs (by kernel_rfl)
theorem wh16 (vs : List Value) : hwho Try.prog (some (.func (.func 16) #[] #[])) (some vs) = some (16, vs) := hwho_func0 16 vs (by kernel_rfl)
theorem wh17 (vs : List Value) : hwho Try.prog (some (.func (.func 17) #[] #[])) (some vs) = some (17, vs) := hwho_func0 17 vs (by kernel_rfl)
theorem wh18 (vs : List Value) : hwho Try.prog (some (.func (.func 18) #[] #[])) (some vs) = some (18, vs) := hwho_func0 18 vs (by kernel_rfl)
theorem wh19 (vs : List Value) : hwho Try.prog (some (.func (.func 19) #[] #[])) (some vs) = some (19, vs) := hwho_func0 19 vs (by kernel_rfl)
theorem wh20 (vs : List Value) : hwho Try.prog (some (.func (.func 20) #[] #[])) (some vs) = some (20, vs) := hwho_func0 20 vs (by kernel_rfl)
theorem wh21 (vs : List Value) : hwho Try.prog (some (.func (.func 21) #[] #[])) (some vs) = some (21, vs) := hwho_func0 21 vs (by kernel_rfl)
theorem wh22 (vs : List Value) : hwho Try.prog (some (.func (.func 22) #[] #[])) (some vs) = some (22, vs) := hwho_func0 22 vs (by kernel_rfl)
theorem wh23 (vs : List Value) : hwho Try.prog (some (.func (.func 23) #[] #[])) (some vs) = some (23, vs) := hwho_func0 23 vs (by kernel_rfl)
theorem wh24 (vs : List Value) : hwho Try.prog (some (.func (.func 24) #[] #[])) (some vs) = some (24, vs) := hwho_func0 24 vs (by kernel_rfl)
theorem wh25 (vs : List Value) : hwho Try.prog (some (.func (.func 25) #[] #[])) (some vs) = some (25, vs) := hwho_func0 25 vs (by kernel_rfl)
theorem wh26 (vs : List Value) : hwho Try.prog (some (.func (.func 26) #[] #[])) (some vs) = some (26, vs) := hwho_func0 26 vs (by kernel_rfl)
theorem wh27 (vs : List Value) : hwho Try.prog (some (.func (.func 27) #[] #[])) (some vs) = some (27, vs) := hwho_func0 27 vs (by kernel_rfl)
theorem wh28 (vs : List Value) : hwho Try.prog (some (.func (.func 28) #[] #[])) (some vs) = some (28, vs) := hwho_func0 28 vs (by kernel_rfl)
theorem wh29 (vs : List Value) : hwho Try.prog (some (.func (.func 29) #[] #[])) (some vs) = some (29, vs) := hwho_func0 29 vs (by kernel_rfl)
theorem wh30 (vs : List Value) : hwho Try.prog (some (.func (.func 30) #[] #[])) (some vs) = some (30, vs) := hwho_func0 30 vs (by kernel_rfl)
theorem wh31 (vs : List Value) : hwho Try.prog (some (.func (.func 31) #[] #[])) (some vs) = some (31, vs) := hwho_func0 31 vs (by kernel_rfl)
theorem wh32 (vs : List Value) : hwho Try.prog (some (.func (.func 32) #[] #[])) (some vs) = some (32, vs) := hwho_func0 32 vs (by kernel_rfl)
theorem wh33 (vs : List Value) : hwho Try.prog (some (.func (.func 33) #[] #[])) (some vs) = some (33, vs) := hwho_func0 33 vs (by kernel_rfl)
theorem wh34 (vs : List Value) : hwho Try.prog (some (.func (.func 34) #[] #[])) (some vs) = some (34, vs) := hwho_func0 34 vs (by kernel_rfl)
theorem wh35 (vs : List Value) : hwho Try.prog (some (.func (.func 35) #[] #[])) (some vs) = some (35, vs) := hwho_func0 35 vs (by kernel_rfl)
theorem wh36 (vs : List Value) : hwho Try.prog (some (.func (.func 36) #[] #[])) (some vs) = some (36, vs) := hwho_func0 36 vs (by kernel_rfl)
theorem wh37 (vs : List Value) : hwho Try.prog (some (.func (.func 37) #[] #[])) (some vs) = some (37, vs) := hwho_func0 37 vs (by kernel_rfl)
theorem wh38 (vs : List Value) : hwho Try.prog (some (.func (.func 38) #[] #[])) (some vs) = some (38, vs) := hwho_func0 38 vs (by kernel_rfl)
theorem mixed : Try.prog.follows .mixedOrders = true := by kernel_rfl
attribute [go_sem] al61 al72 ap23_23 ap67_67 bd65_0_1_2 bd69_0 bd72_0_1_2 bd83_0_1 bs23_0_ bs23_1_0 bs23_2_0_1 bs67_1_0 pe27 pn27 pez27 pnz27 be4 bn4 cv3_41 cv3_42 cv42_3 cv5_3 cp23 fa25_0 fa25_1 fa25_2 fa61_0 fa61_1 fa65_0 fa65_1 fa65_2 fa65_3 fa69_0 fa69_1 fa69_2 fa72_0 fa72_1 fa72_2 fa83_0 fa83_1 fa83_2 ix22 ix23 ix67 ix74 ln22 ln23 ln67 ld22 ld23 ld25 ld27 ld3 ld4 ld40 ld42 ld61 ld67 ld72 ld74 mk23 mk74 sl23 slg23 sln23 st23 st3 st4 st42 st61 st67 st72 wh3 wh4 wh5 wh6 wh7 wh8 wh9 wh10 wh11 wh12 wh13 wh14 wh15 wh16 wh17 wh18 wh19 wh20 wh21 wh22 wh23 wh24 wh25 wh26 wh27 wh28 wh29 wh30 wh31 wh32 wh33 wh34 wh35 wh36 wh37 wh38
end Go.HL
/-
  Walks: words, arenas (reading).
-/
namespace Go.HL
open Go.RowKit Go.Proofs
set_option maxHeartbeats 4000000
set_option maxRecDepth 100000
set_option linter.unusedSimpArgs false

/-- Is it the word of a place? -/
def toV (x : Nat) : Value := if x % 8 = 1 ∧ x / 8 < 1099511627776 then .tuple #[I (x / 8 : Nat), .bool true] else .tuple #[I 0, .bool false]
theorem word_To (x : Nat) (hx : x < 18446744073709551616) (H : HHeap) (R : Value → HHeap → Prop) (hR : R (toV x) H) : HCalls Try.prog 38 [I 1, U x] H R := by
  refine HCalls.of_hw Try.func38 rfl _ Try.ntmps38 _ (by rw [Try.results38]) ?_
  rw [hframe0_eq _ _ (by simp)]
  simp only [List.zipIdx_cons, List.zipIdx_nil, List.map_cons, List.map_nil, Nat.reduceAdd]
  by_cases h1 : x % 8 = 1
  · by_cases h2 : x / 8 < 1099511627776
    · rw [toV, if_pos ⟨h1, h2⟩] at hR
      simp (disch := first | omega | (show allOne _ = true; simp [allOne, Value.oneCell']) | (simp only [List.length_cons, List.length_nil, List.length_set, List.length_map, List.length_replicate, List.length_append, List.length_take, List.length_drop, Int.toNat_natCast, Int.toNat_of_nonneg, nx_push, nx_set, nx_kill]; done) | (simp only [List.length_cons, List.length_nil, List.length_set, List.length_map, List.length_replicate, List.length_append, List.length_take, List.length_drop, Int.toNat_natCast, Int.toNat_of_nonneg, nx_push, nx_set, nx_kill]; omega)) only [go_sem, reduceCtorEq, Nat.reduceAdd, Nat.reduceSub, Nat.reduceMul, Nat.reduceLT, Nat.reduceLeDiff, Nat.reduceEqDiff, Nat.reduceBEq, Nat.reduceBNe, Int.reduceBEq, Int.reduceEq, Int.reduceLT, Int.reduceLE, Int.reduceAdd, Int.reduceSub, ↓reduceIte, Int.reduceToNat, Nat.reduceShiftRight, Nat.reduceAnd]
      exact hR
    · rw [toV, if_neg (by simp [h2])] at hR
      simp (disch := first | omega | (show allOne _ = true; simp [allOne, Value.oneCell']) | (simp only [List.length_cons, List.length_nil, List.length_set, List.length_map, List.length_replicate, List.length_append, List.length_take, List.length_drop, Int.toNat_natCast, Int.toNat_of_nonneg, nx_push, nx_set, nx_kill]; done) | (simp only [List.length_cons, List.length_nil, List.length_set, List.length_map, List.length_replicate, List.length_append, List.length_take, List.length_drop, Int.toNat_natCast, Int.toNat_of_nonneg, nx_push, nx_set, nx_kill]; omega)) only [go_sem, reduceCtorEq, Nat.reduceAdd, Nat.reduceSub, Nat.reduceMul, Nat.reduceLT, Nat.reduceLeDiff, Nat.reduceEqDiff, Nat.reduceBEq, Nat.reduceBNe, Int.reduceBEq, Int.reduceEq, Int.reduceLT, Int.reduceLE, Int.reduceAdd, Int.reduceSub, ↓reduceIte, Int.reduceToNat, Nat.reduceShiftRight, Nat.reduceAnd]
      exact hR
  · rw [toV, if_neg (by simp [h1])] at hR
    simp (disch := first | omega | (show allOne _ = true; simp [allOne, Value.oneCell']) | (simp only [List.length_cons, List.length_nil, List.length_set, List.length_map, List.length_replicate, List.length_append, List.length_take, List.length_drop, Int.toNat_natCast, Int.toNat_of_nonneg, nx_push, nx_set, nx_kill]; done) | (simp only [List.length_cons, List.length_nil, List.length_set, List.length_map, List.length_replicate, List.length_append, List.length_take, List.length_drop, Int.toNat_natCast, Int.toNat_of_nonneg, nx_push, nx_set, nx_kill]; omega)) only [go_sem, reduceCtorEq, Nat.reduceAdd, Nat.reduceSub, Nat.reduceMul, Nat.reduceLT, Nat.reduceLeDiff, Nat.reduceEqDiff, Nat.reduceBEq, Nat.reduceBNe, Int.reduceBEq, Int.reduceEq, Int.reduceLT, Int.reduceLE, Int.reduceAdd, Int.reduceSub, ↓reduceIte, Int.reduceToNat, Nat.reduceShiftRight, Nat.reduceAnd]
    exact hR

theorem word_Of (n : Nat) (hn : n < 1099511627776) (H : HHeap) (R : Value → HHeap → Prop) (hR : R (.tuple #[U (wordAt n), I 0]) H) : HCalls Try.prog 36 [I 1, I n] H R := by
  refine HCalls.of_hw Try.func36 rfl _ Try.ntmps36 _ (by rw [Try.results36]) ?_
  rw [hframe0_eq _ _ (by simp)]
  simp only [List.zipIdx_cons, List.zipIdx_nil, List.map_cons, List.map_nil, Nat.reduceAdd]
  simp (disch := first | omega | (show allOne _ = true; simp [allOne, Value.oneCell']) | (simp only [List.length_cons, List.length_nil, List.length_set, List.length_map, List.length_replicate, List.length_append, List.length_take, List.length_drop, Int.toNat_natCast, Int.toNat_of_nonneg, nx_push, nx_set, nx_kill]; done) | (simp only [List.length_cons, List.length_nil, List.length_set, List.length_map, List.length_replicate, List.length_append, List.length_take, List.length_drop, Int.toNat_natCast, Int.toNat_of_nonneg, nx_push, nx_set, nx_kill]; omega)) only [go_sem, reduceCtorEq, Nat.reduceAdd, Nat.reduceSub, Nat.reduceMul, Nat.reduceLT, Nat.reduceLeDiff, Nat.reduceEqDiff, Nat.reduceBEq, Nat.reduceBNe, Int.reduceBEq, Int.reduceEq, Int.reduceLT, Int.reduceLE, Int.reduceAdd, Int.reduceSub, ↓reduceIte, Int.reduceToNat, Nat.reduceShiftRight, Nat.reduceAnd]
  exact hR

theorem arena_Used (H : HHeap) (g gw gh size : Nat) (T : Things) (hA : AtA H g gw gh size T) (R : Value → HHeap → Prop) (hR : R (I (usedOf T)) H) : HCalls Try.prog 22 [ptr g 0] H R := by
  refine HCalls.of_hw Try.func22 rfl _ Try.ntmps22 _ (by rw [Try.results22]) ?_
  rw [hframe0_eq _ _ (by simp)]
  simp only [List.zipIdx_cons, List.zipIdx_nil, List.map_cons, List.map_nil, Nat.reduceAdd]
  simp (disch := first | omega | (show allOne _ = true; simp [allOne, Value.oneCell']) | (simp only [List.length_cons, List.length_nil, List.length_set, List.length_map, List.length_replicate, List.length_append, List.length_take, List.length_drop, Int.toNat_natCast, Int.toNat_of_nonneg, nx_push, nx_set, nx_kill]; done) | (simp only [List.length_cons, List.length_nil, List.length_set, List.length_map, List.length_replicate, List.length_append, List.length_take, List.length_drop, Int.toNat_natCast, Int.toNat_of_nonneg, nx_push, nx_set, nx_kill]; omega)) only [go_sem, reduceCtorEq, Nat.reduceAdd, Nat.reduceSub, Nat.reduceMul, Nat.reduceLT, Nat.reduceLeDiff, Nat.reduceEqDiff, Nat.reduceBEq, Nat.reduceBNe, Int.reduceBEq, Int.reduceEq, Int.reduceLT, Int.reduceLE, Int.reduceAdd, Int.reduceSub, ↓reduceIte, Int.reduceToNat, Nat.reduceShiftRight, Nat.reduceAnd, hA.a, ldc_cells, acells]
  exact hR
theorem arena_Used0 (H : HHeap) (R : Value → HHeap → Prop) (hR : R (I 0) H) : HCalls Try.prog 22 [.pointer none] H R := by
  refine HCalls.of_hw Try.func22 rfl _ Try.ntmps22 _ (by rw [Try.results22]) ?_
  rw [hframe0_eq _ _ (by simp)]
  simp only [List.zipIdx_cons, List.zipIdx_nil, List.map_cons, List.map_nil, Nat.reduceAdd]
  simp (disch := first | omega | (show allOne _ = true; simp [allOne, Value.oneCell']) | (simp only [List.length_cons, List.length_nil, List.length_set, List.length_map, List.length_replicate, List.length_append, List.length_take, List.length_drop, Int.toNat_natCast, Int.toNat_of_nonneg, nx_push, nx_set, nx_kill]; done) | (simp only [List.length_cons, List.length_nil, List.length_set, List.length_map, List.length_replicate, List.length_append, List.length_take, List.length_drop, Int.toNat_natCast, Int.toNat_of_nonneg, nx_push, nx_set, nx_kill]; omega)) only [go_sem, reduceCtorEq, Nat.reduceAdd, Nat.reduceSub, Nat.reduceMul, Nat.reduceLT, Nat.reduceLeDiff, Nat.reduceEqDiff, Nat.reduceBEq, Nat.reduceBNe, Int.reduceBEq, Int.reduceEq, Int.reduceLT, Int.reduceLE, Int.reduceAdd, Int.reduceSub, ↓reduceIte, Int.reduceToNat, Nat.reduceShiftRight, Nat.reduceAnd]
  exact hR
theorem arena_Size (H : HHeap) (g gw gh size : Nat) (T : Things) (hA : AtA H g gw gh size T) (R : Value → HHeap → Prop) (hR : R (I size) H) : HCalls Try.prog 23 [ptr g 0] H R := by
  refine HCalls.of_hw Try.func23 rfl _ Try.ntmps23 _ (by rw [Try.results23]) ?_
  rw [hframe0_eq _ _ (by simp)]
  simp only [List.zipIdx_cons, List.zipIdx_nil, List.map_cons, List.map_nil, Nat.reduceAdd]
  simp (disch := first | omega | (show allOne _ = true; simp [allOne, Value.oneCell']) | (simp only [List.length_cons, List.length_nil, List.length_set, List.length_map, List.length_replicate, List.length_append, List.length_take, List.length_drop, Int.toNat_natCast, Int.toNat_of_nonneg, nx_push, nx_set, nx_kill]; done) | (simp only [List.length_cons, List.length_nil, List.length_set, List.length_map, List.length_replicate, List.length_append, List.length_take, List.length_drop, Int.toNat_natCast, Int.toNat_of_nonneg, nx_push, nx_set, nx_kill]; omega)) only [go_sem, reduceCtorEq, Nat.reduceAdd, Nat.reduceSub, Nat.reduceMul, Nat.reduceLT, Nat.reduceLeDiff, Nat.reduceEqDiff, Nat.reduceBEq, Nat.reduceBNe, Int.reduceBEq, Int.reduceEq, Int.reduceLT, Int.reduceLE, Int.reduceAdd, Int.reduceSub, ↓reduceIte, Int.reduceToNat, Nat.reduceShiftRight, Nat.reduceAnd, hA.a, ldc_cells, acells]
  exact hR
theorem arena_Size0 (H : HHeap) (R : Value → HHeap → Prop) (hR : R (I 0) H) : HCalls Try.prog 23 [.pointer none] H R := by
  refine HCalls.of_hw Try.func23 rfl _ Try.ntmps23 _ (by rw [Try.results23]) ?_
  rw [hframe0_eq _ _ (by simp)]
  simp only [List.zipIdx_cons, List.zipIdx_nil, List.map_cons, List.map_nil, Nat.reduceAdd]
  simp (disch := first | omega | (show allOne _ = true; simp [allOne, Value.oneCell']) | (simp only [List.length_cons, List.length_nil, List.length_set, List.length_map, List.length_replicate, List.length_append, List.length_take, List.length_drop, Int.toNat_natCast, Int.toNat_of_nonneg, nx_push, nx_set, nx_kill]; done) | (simp only [List.length_cons, List.length_nil, List.length_set, List.length_map, List.length_replicate, List.length_append, List.length_take, List.length_drop, Int.toNat_natCast, Int.toNat_of_nonneg, nx_push, nx_set, nx_kill]; omega)) only [go_sem, reduceCtorEq, Nat.reduceAdd, Nat.reduceSub, Nat.reduceMul, Nat.reduceLT, Nat.reduceLeDiff, Nat.reduceEqDiff, Nat.reduceBEq, Nat.reduceBNe, Int.reduceBEq, Int.reduceEq, Int.reduceLT, Int.reduceLE, Int.reduceAdd, Int.reduceSub, ↓reduceIte, Int.reduceToNat, Nat.reduceShiftRight, Nat.reduceAnd]
  exact hR

theorem arena_find (H : HHeap) (g gw gh size : Nat) (T : Things) (hA : AtA H g gw gh size T) (w : Nat) (hw : w < 18446744073709551616) (R : Value → HHeap → Prop) (hR : R (findV gw T w) H) : HCalls Try.prog 33 [ptr g 0, U w] H R := by
  refine HCalls.of_hw Try.func33 rfl _ Try.ntmps33 _ (by rw [Try.results33]) ?_
  rw [hframe0_eq _ _ (by simp)]
  simp only [List.zipIdx_cons, List.zipIdx_nil, List.map_cons, List.map_nil, Nat.reduceAdd]
  simp (disch := first | omega | (show allOne _ = true; simp [allOne, Value.oneCell']) | (simp only [List.length_cons, List.length_nil, List.length_set, List.length_map, List.length_replicate, List.length_append, List.length_take, List.length_drop, Int.toNat_natCast, Int.toNat_of_nonneg, nx_push, nx_set, nx_kill]; done) | (simp only [List.length_cons, List.length_nil, List.length_set, List.length_map, List.length_replicate, List.length_append, List.length_take, List.length_drop, Int.toNat_natCast, Int.toNat_of_nonneg, nx_push, nx_set, nx_kill]; omega)) only [go_sem, reduceCtorEq, Nat.reduceAdd, Nat.reduceSub, Nat.reduceMul, Nat.reduceLT, Nat.reduceLeDiff, Nat.reduceEqDiff, Nat.reduceBEq, Nat.reduceBNe, Int.reduceBEq, Int.reduceEq, Int.reduceLT, Int.reduceLE, Int.reduceAdd, Int.reduceSub, ↓reduceIte, Int.reduceToNat, Nat.reduceShiftRight, Nat.reduceAnd, hA.a, ldc_cells, acells]
  refine word_To w hw _ _ ?_
  have hroom := hA.room
  have hbig := hA.big
  rw [toV]
  split
  · rename_i hh
    obtain ⟨h8, hlt⟩ := hh
    simp (disch := first | omega | (show allOne _ = true; simp [allOne, Value.oneCell']) | (simp only [List.length_cons, List.length_nil, List.length_set, List.length_map, List.length_replicate, List.length_append, List.length_take, List.length_drop, Int.toNat_natCast, Int.toNat_of_nonneg, nx_push, nx_set, nx_kill]; done) | (simp only [List.length_cons, List.length_nil, List.length_set, List.length_map, List.length_replicate, List.length_append, List.length_take, List.length_drop, Int.toNat_natCast, Int.toNat_of_nonneg, nx_push, nx_set, nx_kill]; omega)) only [go_sem, reduceCtorEq, Nat.reduceAdd, Nat.reduceSub, Nat.reduceMul, Nat.reduceLT, Nat.reduceLeDiff, Nat.reduceEqDiff, Nat.reduceBEq, Nat.reduceBNe, Int.reduceBEq, Int.reduceEq, Int.reduceLT, Int.reduceLE, Int.reduceAdd, Int.reduceSub, ↓reduceIte, Int.reduceToNat, Nat.reduceShiftRight, Nat.reduceAnd, hA.a, ldc_cells, acells]
    refine arena_Used _ _ _ _ _ _ hA _ ?_
    by_cases hu : w / 8 < usedOf T
    · cases ha : atP T (w / 8) with
      | none =>
        have hn : findT T w = none := by rw [findT, if_pos h8, ha]
        rw [findV, hn] at hR
        simp (disch := first | omega | (show allOne _ = true; simp [allOne, Value.oneCell']) | (simp only [List.length_cons, List.length_nil, List.length_set, List.length_map, List.length_replicate, List.length_append, List.length_take, List.length_drop, Int.toNat_natCast, Int.toNat_of_nonneg, nx_push, nx_set, nx_kill]; done) | (simp only [List.length_cons, List.length_nil, List.length_set, List.length_map, List.length_replicate, List.length_append, List.length_take, List.length_drop, Int.toNat_natCast, Int.toNat_of_nonneg, nx_push, nx_set, nx_kill]; omega)) only [go_sem, reduceCtorEq, Nat.reduceAdd, Nat.reduceSub, Nat.reduceMul, Nat.reduceLT, Nat.reduceLeDiff, Nat.reduceEqDiff, Nat.reduceBEq, Nat.reduceBNe, Int.reduceBEq, Int.reduceEq, Int.reduceLT, Int.reduceLE, Int.reduceAdd, Int.reduceSub, ↓reduceIte, Int.reduceToNat, Nat.reduceShiftRight, Nat.reduceAnd, hA.a, hA.h, ldc_cells, acells, hcells_get hu, ixa_ok, ha, Option.isSome_none]
        exact hR
      | some t =>
        obtain ⟨k1, k2, k3, k4⟩ := atP_words T _ t ha
        have hk := hA.ok t k4
        have e1 := hk.k1
        have e2 := hk.k9
        have e3 := hk.len
        have hn : findT T w = some t := by rw [findT, if_pos h8, ha]
        rw [findV, hn] at hR
        unfold Thing.room at k1
        have d1 : ((t.l.length * 256 + t.kind : Nat) : Int) / 256 = (t.l.length : Int) := by omega
        have d2 : ((t.l.length * 256 + t.kind : Nat) : Int) % 256 = (t.kind : Int) := by omega
        simp (disch := first | omega | (show allOne _ = true; simp [allOne, Value.oneCell']) | (simp only [List.length_cons, List.length_nil, List.length_set, List.length_map, List.length_replicate, List.length_append, List.length_take, List.length_drop, Int.toNat_natCast, Int.toNat_of_nonneg, nx_push, nx_set, nx_kill]; done) | (simp only [List.length_cons, List.length_nil, List.length_set, List.length_map, List.length_replicate, List.length_append, List.length_take, List.length_drop, Int.toNat_natCast, Int.toNat_of_nonneg, nx_push, nx_set, nx_kill]; omega)) only [go_sem, reduceCtorEq, Nat.reduceAdd, Nat.reduceSub, Nat.reduceMul, Nat.reduceLT, Nat.reduceLeDiff, Nat.reduceEqDiff, Nat.reduceBEq, Nat.reduceBNe, Int.reduceBEq, Int.reduceEq, Int.reduceLT, Int.reduceLE, Int.reduceAdd, Int.reduceSub, ↓reduceIte, Int.reduceToNat, Nat.reduceShiftRight, Nat.reduceAnd, hA.a, hA.h, hA.w, ldc_cells, acells, hcells_get hu, ixa_ok, ha, Option.isSome_some, wcells_get ha, d1, d2, slx_lhm]
        simp only [Nat.add_sub_cancel_left, Nat.add_eq_left]
        exact hR
    · have hn : findT T w = none := by rw [findT, if_pos h8]; exact atP_none T _ (by omega)
      rw [findV, hn] at hR
      simp (disch := first | omega | (show allOne _ = true; simp [allOne, Value.oneCell']) | (simp only [List.length_cons, List.length_nil, List.length_set, List.length_map, List.length_replicate, List.length_append, List.length_take, List.length_drop, Int.toNat_natCast, Int.toNat_of_nonneg, nx_push, nx_set, nx_kill]; done) | (simp only [List.length_cons, List.length_nil, List.length_set, List.length_map, List.length_replicate, List.length_append, List.length_take, List.length_drop, Int.toNat_natCast, Int.toNat_of_nonneg, nx_push, nx_set, nx_kill]; omega)) only [go_sem, reduceCtorEq, Nat.reduceAdd, Nat.reduceSub, Nat.reduceMul, Nat.reduceLT, Nat.reduceLeDiff, Nat.reduceEqDiff, Nat.reduceBEq, Nat.reduceBNe, Int.reduceBEq, Int.reduceEq, Int.reduceLT, Int.reduceLE, Int.reduceAdd, Int.reduceSub, ↓reduceIte, Int.reduceToNat, Nat.reduceShiftRight, Nat.reduceAnd, hA.a, ldc_cells, acells]
      exact hR
  · rename_i hh
    have hn : findT T w = none := by
      rw [findT]; split
      · exact atP_none T _ (by omega)
      · rfl
    rw [findV, hn] at hR
    simp (disch := first | omega | (show allOne _ = true; simp [allOne, Value.oneCell']) | (simp only [List.length_cons, List.length_nil, List.length_set, List.length_map, List.length_replicate, List.length_append, List.length_take, List.length_drop, Int.toNat_natCast, Int.toNat_of_nonneg, nx_push, nx_set, nx_kill]; done) | (simp only [List.length_cons, List.length_nil, List.length_set, List.length_map, List.length_replicate, List.length_append, List.length_take, List.length_drop, Int.toNat_natCast, Int.toNat_of_nonneg, nx_push, nx_set, nx_kill]; omega)) only [go_sem, reduceCtorEq, Nat.reduceAdd, Nat.reduceSub, Nat.reduceMul, Nat.reduceLT, Nat.reduceLeDiff, Nat.reduceEqDiff, Nat.reduceBEq, Nat.reduceBNe, Int.reduceBEq, Int.reduceEq, Int.reduceLT, Int.reduceLE, Int.reduceAdd, Int.reduceSub, ↓reduceIte, Int.reduceToNat, Nat.reduceShiftRight, Nat.reduceAnd, hA.a, ldc_cells, acells]
    exact hR

def kindN (T : Things) (w : Nat) : Nat := match findT T w with | some t => t.kind | none => 0
def lenN (T : Things) (w : Nat) : Nat := match findT T w with | some t => t.l.length | none => 0
theorem arena_Kind (H : HHeap) (g gw gh size : Nat) (T : Things) (hA : AtA H g gw gh size T) (w : Nat) (hw : w < 18446744073709551616) (R : Value → HHeap → Prop) (hR : R (I (kindN T w)) H) : HCalls Try.prog 18 [ptr g 0, U w] H R := by
  refine HCalls.of_hw Try.func18 rfl _ Try.ntmps18 _ (by rw [Try.results18]) ?_
  rw [hframe0_eq _ _ (by simp)]
  simp only [List.zipIdx_cons, List.zipIdx_nil, List.map_cons, List.map_nil, Nat.reduceAdd]
  simp (disch := first | omega | (show allOne _ = true; simp [allOne, Value.oneCell']) | (simp only [List.length_cons, List.length_nil, List.length_set, List.length_map, List.length_replicate, List.length_append, List.length_take, List.length_drop, Int.toNat_natCast, Int.toNat_of_nonneg, nx_push, nx_set, nx_kill]; done) | (simp only [List.length_cons, List.length_nil, List.length_set, List.length_map, List.length_replicate, List.length_append, List.length_take, List.length_drop, Int.toNat_natCast, Int.toNat_of_nonneg, nx_push, nx_set, nx_kill]; omega)) only [go_sem, reduceCtorEq, Nat.reduceAdd, Nat.reduceSub, Nat.reduceMul, Nat.reduceLT, Nat.reduceLeDiff, Nat.reduceEqDiff, Nat.reduceBEq, Nat.reduceBNe, Int.reduceBEq, Int.reduceEq, Int.reduceLT, Int.reduceLE, Int.reduceAdd, Int.reduceSub, ↓reduceIte, Int.reduceToNat, Nat.reduceShiftRight, Nat.reduceAnd]
  refine arena_find _ _ _ _ _ _ hA w hw _ ?_
  rw [findV]; rw [kindN] at hR
  cases h : findT T w with
  | none => rw [h] at hR; simp (disch := first | omega | (show allOne _ = true; simp [allOne, Value.oneCell']) | (simp only [List.length_cons, List.length_nil, List.length_set, List.length_map, List.length_replicate, List.length_append, List.length_take, List.length_drop, Int.toNat_natCast, Int.toNat_of_nonneg, nx_push, nx_set, nx_kill]; done) | (simp only [List.length_cons, List.length_nil, List.length_set, List.length_map, List.length_replicate, List.length_append, List.length_take, List.length_drop, Int.toNat_natCast, Int.toNat_of_nonneg, nx_push, nx_set, nx_kill]; omega)) only [go_sem, reduceCtorEq, Nat.reduceAdd, Nat.reduceSub, Nat.reduceMul, Nat.reduceLT, Nat.reduceLeDiff, Nat.reduceEqDiff, Nat.reduceBEq, Nat.reduceBNe, Int.reduceBEq, Int.reduceEq, Int.reduceLT, Int.reduceLE, Int.reduceAdd, Int.reduceSub, ↓reduceIte, Int.reduceToNat, Nat.reduceShiftRight, Nat.reduceAnd]; exact hR
  | some t => rw [h] at hR; simp (disch := first | omega | (show allOne _ = true; simp [allOne, Value.oneCell']) | (simp only [List.length_cons, List.length_nil, List.length_set, List.length_map, List.length_replicate, List.length_append, List.length_take, List.length_drop, Int.toNat_natCast, Int.toNat_of_nonneg, nx_push, nx_set, nx_kill]; done) | (simp only [List.length_cons, List.length_nil, List.length_set, List.length_map, List.length_replicate, List.length_append, List.length_take, List.length_drop, Int.toNat_natCast, Int.toNat_of_nonneg, nx_push, nx_set, nx_kill]; omega)) only [go_sem, reduceCtorEq, Nat.reduceAdd, Nat.reduceSub, Nat.reduceMul, Nat.reduceLT, Nat.reduceLeDiff, Nat.reduceEqDiff, Nat.reduceBEq, Nat.reduceBNe, Int.reduceBEq, Int.reduceEq, Int.reduceLT, Int.reduceLE, Int.reduceAdd, Int.reduceSub, ↓reduceIte, Int.reduceToNat, Nat.reduceShiftRight, Nat.reduceAnd]; exact hR
theorem arena_Len (H : HHeap) (g gw gh size : Nat) (T : Things) (hA : AtA H g gw gh size T) (w : Nat) (hw : w < 18446744073709551616) (R : Value → HHeap → Prop) (hR : R (I (lenN T w)) H) : HCalls Try.prog 20 [ptr g 0, U w] H R := by
  refine HCalls.of_hw Try.func20 rfl _ Try.ntmps20 _ (by rw [Try.results20]) ?_
  rw [hframe0_eq _ _ (by simp)]
  simp only [List.zipIdx_cons, List.zipIdx_nil, List.map_cons, List.map_nil, Nat.reduceAdd]
  simp (disch := first | omega | (show allOne _ = true; simp [allOne, Value.oneCell']) | (simp only [List.length_cons, List.length_nil, List.length_set, List.length_map, List.length_replicate, List.length_append, List.length_take, List.length_drop, Int.toNat_natCast, Int.toNat_of_nonneg, nx_push, nx_set, nx_kill]; done) | (simp only [List.length_cons, List.length_nil, List.length_set, List.length_map, List.length_replicate, List.length_append, List.length_take, List.length_drop, Int.toNat_natCast, Int.toNat_of_nonneg, nx_push, nx_set, nx_kill]; omega)) only [go_sem, reduceCtorEq, Nat.reduceAdd, Nat.reduceSub, Nat.reduceMul, Nat.reduceLT, Nat.reduceLeDiff, Nat.reduceEqDiff, Nat.reduceBEq, Nat.reduceBNe, Int.reduceBEq, Int.reduceEq, Int.reduceLT, Int.reduceLE, Int.reduceAdd, Int.reduceSub, ↓reduceIte, Int.reduceToNat, Nat.reduceShiftRight, Nat.reduceAnd]
  refine arena_find _ _ _ _ _ _ hA w hw _ ?_
  rw [findV]; rw [lenN] at hR
  cases h : findT T w with
  | none => rw [h] at hR; simp (disch := first | omega | (show allOne _ = true; simp [allOne, Value.oneCell']) | (simp only [List.length_cons, List.length_nil, List.length_set, List.length_map, List.length_replicate, List.length_append, List.length_take, List.length_drop, Int.toNat_natCast, Int.toNat_of_nonneg, nx_push, nx_set, nx_kill]; done) | (simp only [List.length_cons, List.length_nil, List.length_set, List.length_map, List.length_replicate, List.length_append, List.length_take, List.length_drop, Int.toNat_natCast, Int.toNat_of_nonneg, nx_push, nx_set, nx_kill]; omega)) only [go_sem, reduceCtorEq, Nat.reduceAdd, Nat.reduceSub, Nat.reduceMul, Nat.reduceLT, Nat.reduceLeDiff, Nat.reduceEqDiff, Nat.reduceBEq, Nat.reduceBNe, Int.reduceBEq, Int.reduceEq, Int.reduceLT, Int.reduceLE, Int.reduceAdd, Int.reduceSub, ↓reduceIte, Int.reduceToNat, Nat.reduceShiftRight, Nat.reduceAnd]; exact hR
  | some t => rw [h] at hR; simp (disch := first | omega | (show allOne _ = true; simp [allOne, Value.oneCell']) | (simp only [List.length_cons, List.length_nil, List.length_set, List.length_map, List.length_replicate, List.length_append, List.length_take, List.length_drop, Int.toNat_natCast, Int.toNat_of_nonneg, nx_push, nx_set, nx_kill]; done) | (simp only [List.length_cons, List.length_nil, List.length_set, List.length_map, List.length_replicate, List.length_append, List.length_take, List.length_drop, Int.toNat_natCast, Int.toNat_of_nonneg, nx_push, nx_set, nx_kill]; omega)) only [go_sem, reduceCtorEq, Nat.reduceAdd, Nat.reduceSub, Nat.reduceMul, Nat.reduceLT, Nat.reduceLeDiff, Nat.reduceEqDiff, Nat.reduceBEq, Nat.reduceBNe, Int.reduceBEq, Int.reduceEq, Int.reduceLT, Int.reduceLE, Int.reduceAdd, Int.reduceSub, ↓reduceIte, Int.reduceToNat, Nat.reduceShiftRight, Nat.reduceAnd]; exact hR
/-- Where a thing's word is. -/
def atV (gw : Nat) (T : Things) (w : Nat) (i : Int) : Value :=
  match findT T w with
  | some t => if 0 ≤ i ∧ i < t.l.length then .tuple #[ptr gw (w / 8 + 1 + i.toNat), I 0] else .tuple #[.pointer none, I 1]
  | none => .tuple #[.pointer none, I 2]
theorem arena_at (H : HHeap) (g gw gh size : Nat) (T : Things) (hA : AtA H g gw gh size T) (w : Nat) (hw : w < 18446744073709551616) (i : Int) (R : Value → HHeap → Prop) (hR : R (atV gw T w i) H) : HCalls Try.prog 35 [ptr g 0, U w, I i] H R := by
  refine HCalls.of_hw Try.func35 rfl _ Try.ntmps35 _ (by rw [Try.results35]) ?_
  rw [hframe0_eq _ _ (by simp)]
  simp only [List.zipIdx_cons, List.zipIdx_nil, List.map_cons, List.map_nil, Nat.reduceAdd]
  simp (disch := first | omega | (show allOne _ = true; simp [allOne, Value.oneCell']) | (simp only [List.length_cons, List.length_nil, List.length_set, List.length_map, List.length_replicate, List.length_append, List.length_take, List.length_drop, Int.toNat_natCast, Int.toNat_of_nonneg, nx_push, nx_set, nx_kill]; done) | (simp only [List.length_cons, List.length_nil, List.length_set, List.length_map, List.length_replicate, List.length_append, List.length_take, List.length_drop, Int.toNat_natCast, Int.toNat_of_nonneg, nx_push, nx_set, nx_kill]; omega)) only [go_sem, reduceCtorEq, Nat.reduceAdd, Nat.reduceSub, Nat.reduceMul, Nat.reduceLT, Nat.reduceLeDiff, Nat.reduceEqDiff, Nat.reduceBEq, Nat.reduceBNe, Int.reduceBEq, Int.reduceEq, Int.reduceLT, Int.reduceLE, Int.reduceAdd, Int.reduceSub, ↓reduceIte, Int.reduceToNat, Nat.reduceShiftRight, Nat.reduceAnd]
  refine arena_find _ _ _ _ _ _ hA w hw _ ?_
  rw [findV]; rw [atV] at hR
  cases h : findT T w with
  | none => rw [h] at hR; simp (disch := first | omega | (show allOne _ = true; simp [allOne, Value.oneCell']) | (simp only [List.length_cons, List.length_nil, List.length_set, List.length_map, List.length_replicate, List.length_append, List.length_take, List.length_drop, Int.toNat_natCast, Int.toNat_of_nonneg, nx_push, nx_set, nx_kill]; done) | (simp only [List.length_cons, List.length_nil, List.length_set, List.length_map, List.length_replicate, List.length_append, List.length_take, List.length_drop, Int.toNat_natCast, Int.toNat_of_nonneg, nx_push, nx_set, nx_kill]; omega)) only [go_sem, reduceCtorEq, Nat.reduceAdd, Nat.reduceSub, Nat.reduceMul, Nat.reduceLT, Nat.reduceLeDiff, Nat.reduceEqDiff, Nat.reduceBEq, Nat.reduceBNe, Int.reduceBEq, Int.reduceEq, Int.reduceLT, Int.reduceLE, Int.reduceAdd, Int.reduceSub, ↓reduceIte, Int.reduceToNat, Nat.reduceShiftRight, Nat.reduceAnd]; exact hR
  | some t =>
    rw [h] at hR
    simp only at hR
    by_cases h0 : 0 ≤ i
    · by_cases h1 : i < t.l.length
      · rw [if_pos ⟨h0, h1⟩] at hR
        simp (disch := first | omega | (show allOne _ = true; simp [allOne, Value.oneCell']) | (simp only [List.length_cons, List.length_nil, List.length_set, List.length_map, List.length_replicate, List.length_append, List.length_take, List.length_drop, Int.toNat_natCast, Int.toNat_of_nonneg, nx_push, nx_set, nx_kill]; done) | (simp only [List.length_cons, List.length_nil, List.length_set, List.length_map, List.length_replicate, List.length_append, List.length_take, List.length_drop, Int.toNat_natCast, Int.toNat_of_nonneg, nx_push, nx_set, nx_kill]; omega)) only [go_sem, reduceCtorEq, Nat.reduceAdd, Nat.reduceSub, Nat.reduceMul, Nat.reduceLT, Nat.reduceLeDiff, Nat.reduceEqDiff, Nat.reduceBEq, Nat.reduceBNe, Int.reduceBEq, Int.reduceEq, Int.reduceLT, Int.reduceLE, Int.reduceAdd, Int.reduceSub, ↓reduceIte, Int.reduceToNat, Nat.reduceShiftRight, Nat.reduceAnd, ixa_ok]
        rw [if_neg (by omega)]
        exact hR
      · rw [if_neg (by omega)] at hR
        simp (disch := first | omega | (show allOne _ = true; simp [allOne, Value.oneCell']) | (simp only [List.length_cons, List.length_nil, List.length_set, List.length_map, List.length_replicate, List.length_append, List.length_take, List.length_drop, Int.toNat_natCast, Int.toNat_of_nonneg, nx_push, nx_set, nx_kill]; done) | (simp only [List.length_cons, List.length_nil, List.length_set, List.length_map, List.length_replicate, List.length_append, List.length_take, List.length_drop, Int.toNat_natCast, Int.toNat_of_nonneg, nx_push, nx_set, nx_kill]; omega)) only [go_sem, reduceCtorEq, Nat.reduceAdd, Nat.reduceSub, Nat.reduceMul, Nat.reduceLT, Nat.reduceLeDiff, Nat.reduceEqDiff, Nat.reduceBEq, Nat.reduceBNe, Int.reduceBEq, Int.reduceEq, Int.reduceLT, Int.reduceLE, Int.reduceAdd, Int.reduceSub, ↓reduceIte, Int.reduceToNat, Nat.reduceShiftRight, Nat.reduceAnd]
        exact hR
    · rw [if_neg (by omega)] at hR
      simp (disch := first | omega | (show allOne _ = true; simp [allOne, Value.oneCell']) | (simp only [List.length_cons, List.length_nil, List.length_set, List.length_map, List.length_replicate, List.length_append, List.length_take, List.length_drop, Int.toNat_natCast, Int.toNat_of_nonneg, nx_push, nx_set, nx_kill]; done) | (simp only [List.length_cons, List.length_nil, List.length_set, List.length_map, List.length_replicate, List.length_append, List.length_take, List.length_drop, Int.toNat_natCast, Int.toNat_of_nonneg, nx_push, nx_set, nx_kill]; omega)) only [go_sem, reduceCtorEq, Nat.reduceAdd, Nat.reduceSub, Nat.reduceMul, Nat.reduceLT, Nat.reduceLeDiff, Nat.reduceEqDiff, Nat.reduceBEq, Nat.reduceBNe, Int.reduceBEq, Int.reduceEq, Int.reduceLT, Int.reduceLE, Int.reduceAdd, Int.reduceSub, ↓reduceIte, Int.reduceToNat, Nat.reduceShiftRight, Nat.reduceAnd]
      exact hR
def getV (T : Things) (w : Nat) (i : Int) : Value :=
  match findT T w with
  | some t => if 0 ≤ i ∧ i < t.l.length then .tuple #[U (t.l.getD i.toNat 0), I 0] else .tuple #[U 0, I 1]
  | none => .tuple #[U 0, I 2]
theorem wcells_word {size : Nat} {T : Things} {p : Nat} {t : Thing} (h : atP T p = some t) {i : Nat} (hi : i < t.l.length) : (wcells size T)[p + 1 + i]? = some (U (t.l.getD i 0)) := by
  have e := wcells_words (size := size) h
  have : (((wcells size T).drop (p + 1)).take t.l.length)[i]? = (t.l.map U)[i]? := by rw [e]
  rw [List.getElem?_take, if_pos hi, List.getElem?_drop, List.getElem?_map] at this
  rw [this]; simp [List.getD, hi]
theorem arena_Get (H : HHeap) (g gw gh size : Nat) (T : Things) (hA : AtA H g gw gh size T) (w : Nat) (hw : w < 18446744073709551616) (i : Int) (R : Value → HHeap → Prop) (hR : R (getV T w i) H) : HCalls Try.prog 21 [ptr g 0, U w, I i] H R := by
  refine HCalls.of_hw Try.func21 rfl _ Try.ntmps21 _ (by rw [Try.results21]) ?_
  rw [hframe0_eq _ _ (by simp)]
  simp only [List.zipIdx_cons, List.zipIdx_nil, List.map_cons, List.map_nil, Nat.reduceAdd]
  simp (disch := first | omega | (show allOne _ = true; simp [allOne, Value.oneCell']) | (simp only [List.length_cons, List.length_nil, List.length_set, List.length_map, List.length_replicate, List.length_append, List.length_take, List.length_drop, Int.toNat_natCast, Int.toNat_of_nonneg, nx_push, nx_set, nx_kill]; done) | (simp only [List.length_cons, List.length_nil, List.length_set, List.length_map, List.length_replicate, List.length_append, List.length_take, List.length_drop, Int.toNat_natCast, Int.toNat_of_nonneg, nx_push, nx_set, nx_kill]; omega)) only [go_sem, reduceCtorEq, Nat.reduceAdd, Nat.reduceSub, Nat.reduceMul, Nat.reduceLT, Nat.reduceLeDiff, Nat.reduceEqDiff, Nat.reduceBEq, Nat.reduceBNe, Int.reduceBEq, Int.reduceEq, Int.reduceLT, Int.reduceLE, Int.reduceAdd, Int.reduceSub, ↓reduceIte, Int.reduceToNat, Nat.reduceShiftRight, Nat.reduceAnd]
  refine arena_at _ _ _ _ _ _ hA w hw i _ ?_
  rw [atV]; rw [getV] at hR
  cases h : findT T w with
  | none => rw [h] at hR; simp (disch := first | omega | (show allOne _ = true; simp [allOne, Value.oneCell']) | (simp only [List.length_cons, List.length_nil, List.length_set, List.length_map, List.length_replicate, List.length_append, List.length_take, List.length_drop, Int.toNat_natCast, Int.toNat_of_nonneg, nx_push, nx_set, nx_kill]; done) | (simp only [List.length_cons, List.length_nil, List.length_set, List.length_map, List.length_replicate, List.length_append, List.length_take, List.length_drop, Int.toNat_natCast, Int.toNat_of_nonneg, nx_push, nx_set, nx_kill]; omega)) only [go_sem, reduceCtorEq, Nat.reduceAdd, Nat.reduceSub, Nat.reduceMul, Nat.reduceLT, Nat.reduceLeDiff, Nat.reduceEqDiff, Nat.reduceBEq, Nat.reduceBNe, Int.reduceBEq, Int.reduceEq, Int.reduceLT, Int.reduceLE, Int.reduceAdd, Int.reduceSub, ↓reduceIte, Int.reduceToNat, Nat.reduceShiftRight, Nat.reduceAnd]; exact hR
  | some t =>
    rw [h] at hR
    simp only at hR ⊢
    by_cases h1 : 0 ≤ i ∧ i < t.l.length
    · rw [if_pos h1] at hR ⊢
      have ha : atP T (w / 8) = some t := by unfold findT at h; split at h <;> first | exact h | cases h
      have e := wcells_word (size := size) ha (i := i.toNat) (by omega)
      simp (disch := first | omega | (show allOne _ = true; simp [allOne, Value.oneCell']) | (simp only [List.length_cons, List.length_nil, List.length_set, List.length_map, List.length_replicate, List.length_append, List.length_take, List.length_drop, Int.toNat_natCast, Int.toNat_of_nonneg, nx_push, nx_set, nx_kill]; done) | (simp only [List.length_cons, List.length_nil, List.length_set, List.length_map, List.length_replicate, List.length_append, List.length_take, List.length_drop, Int.toNat_natCast, Int.toNat_of_nonneg, nx_push, nx_set, nx_kill]; omega)) only [go_sem, reduceCtorEq, Nat.reduceAdd, Nat.reduceSub, Nat.reduceMul, Nat.reduceLT, Nat.reduceLeDiff, Nat.reduceEqDiff, Nat.reduceBEq, Nat.reduceBNe, Int.reduceBEq, Int.reduceEq, Int.reduceLT, Int.reduceLE, Int.reduceAdd, Int.reduceSub, ↓reduceIte, Int.reduceToNat, Nat.reduceShiftRight, Nat.reduceAnd, hA.w, ldc_cells, e]
      exact hR
    · rw [if_neg h1] at hR ⊢
      simp (disch := first | omega | (show allOne _ = true; simp [allOne, Value.oneCell']) | (simp only [List.length_cons, List.length_nil, List.length_set, List.length_map, List.length_replicate, List.length_append, List.length_take, List.length_drop, Int.toNat_natCast, Int.toNat_of_nonneg, nx_push, nx_set, nx_kill]; done) | (simp only [List.length_cons, List.length_nil, List.length_set, List.length_map, List.length_replicate, List.length_append, List.length_take, List.length_drop, Int.toNat_natCast, Int.toNat_of_nonneg, nx_push, nx_set, nx_kill]; omega)) only [go_sem, reduceCtorEq, Nat.reduceAdd, Nat.reduceSub, Nat.reduceMul, Nat.reduceLT, Nat.reduceLeDiff, Nat.reduceEqDiff, Nat.reduceBEq, Nat.reduceBNe, Int.reduceBEq, Int.reduceEq, Int.reduceLT, Int.reduceLE, Int.reduceAdd, Int.reduceSub, ↓reduceIte, Int.reduceToNat, Nat.reduceShiftRight, Nat.reduceAnd]
      exact hR
end Go.HL
