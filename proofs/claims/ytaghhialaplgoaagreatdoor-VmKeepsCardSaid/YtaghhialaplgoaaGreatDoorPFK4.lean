/-
  Joined: K1, K2, K3, K4.
-/
import Derived.Test.YtaghhialaplgoaaGreatDoorPFH15
set_option linter.unusedVariables false
set_option linter.unusedSimpArgs false
/-
  A way to run code on given data inside the kernel, part 1: rows by paths, a heap and a frame made of them.
-/
namespace Go.HL
open Go.RowKit

inductive Tr (α : Type) where
  | nil
  | node (l : Tr α) (v : Option α) (r : Tr α)

/-- The way to a number's place; and back. -/
noncomputable def pathF (d : Nat) : Nat → List Bool :=
  Nat.rec (motive := fun _ => Nat → List Bool) (fun _ => []) (fun _ ih n => Bool.rec (Bool.rec (List.cons false (ih (Nat.sub (Nat.div n 2) 1))) (List.cons true (ih (Nat.div n 2))) (Nat.beq (Nat.mod n 2) 1)) [] (Nat.beq n 0)) d
noncomputable def path (n : Nat) : List Bool := pathF 20 n
noncomputable def unpath (p : List Bool) : Nat := List.rec (motive := fun _ => Nat) 0 (fun b _ ih => Bool.rec (Nat.add (Nat.mul 2 ih) 2) (Nat.add (Nat.mul 2 ih) 1) b) p
/-- A number that has a place. -/
noncomputable def placed (n : Nat) : Bool := Nat.beq (unpath (path n)) n

noncomputable def Tr.walk {α : Type} (p : List Bool) : Tr α → Option α :=
  List.rec (motive := fun _ => Tr α → Option α) (fun t => Tr.rec (motive := fun _ => Option α) none (fun _ v _ _ _ => v) t)
    (fun b _ ih t => Tr.rec (motive := fun _ => Option α) none (fun l _ r _ _ => Bool.rec (ih r) (ih l) b) t) p

noncomputable def Tr.ins {α : Type} (x : Option α) (p : List Bool) : Tr α → Tr α :=
  List.rec (motive := fun _ => Tr α → Tr α)
    (fun t => Tr.rec (motive := fun _ => Tr α) (.node .nil x .nil) (fun l _ r _ _ => .node l x r) t)
    (fun b _ ih t => Tr.rec (motive := fun _ => Tr α)
      (Bool.rec (.node .nil none (ih .nil)) (.node (ih .nil) none .nil) b)
      (fun l v r _ _ => Bool.rec (.node l v (ih r)) (.node (ih l) v r) b) t) p

/-- The same, made at once. -/
noncomputable def Tr.insK {α β : Type} (x : Option α) (p : List Bool) : Tr α → (Tr α → β) → β :=
  List.rec (motive := fun _ => Tr α → (Tr α → β) → β)
    (fun t k => Tr.rec (motive := fun _ => β) (k (.node .nil x .nil)) (fun l _ r _ _ => k (.node l x r)) t)
    (fun b _ ih t k => Tr.rec (motive := fun _ => β)
      (Bool.rec (ih .nil (fun r' => k (.node .nil none r'))) (ih .nil (fun l' => k (.node l' none .nil))) b)
      (fun l v r _ _ => Bool.rec (ih r (fun r' => k (.node l v r'))) (ih l (fun l' => k (.node l' v r))) b) t) p

theorem Tr.insK_eq {α β : Type} (x : Option α) : ∀ (p : List Bool) (t : Tr α) (k : Tr α → β), Tr.insK x p t k = k (Tr.ins x p t)
  | [], .nil, _ => rfl
  | [], .node _ _ _, _ => rfl
  | true :: p, .nil, k => Tr.insK_eq x p .nil (fun l' => k (.node l' none .nil))
  | false :: p, .nil, k => Tr.insK_eq x p .nil (fun r' => k (.node .nil none r'))
  | true :: p, .node l v r, k => Tr.insK_eq x p l (fun l' => k (.node l' v r))
  | false :: p, .node l v r, k => Tr.insK_eq x p r (fun r' => k (.node l v r'))

theorem Tr.walk_nil {α : Type} (p : List Bool) : Tr.walk p (.nil : Tr α) = none := by cases p <;> rfl
theorem Tr.walk_ins {α : Type} (x : Option α) : ∀ (p q : List Bool) (t : Tr α), Tr.walk q (Tr.ins x p t) = if q = p then x else Tr.walk q t
  | [], [], .nil => rfl
  | [], [], .node _ _ _ => rfl
  | [], b :: q, .nil => by
    rw [if_neg (by simp), Tr.walk_nil]
    cases b <;> exact Tr.walk_nil q
  | [], b :: q, .node _ _ _ => by rw [if_neg (by simp)]; rfl
  | b :: p, [], .nil => by rw [if_neg (by simp)]; cases b <;> rfl
  | b :: p, [], .node _ _ _ => by rw [if_neg (by simp)]; cases b <;> rfl
  | true :: p, true :: q, .nil => by
    have := Tr.walk_ins x p q .nil
    simp only [List.cons.injEq, true_and]
    rw [Tr.walk_nil] at this
    rw [Tr.walk_nil]
    exact this
  | false :: p, false :: q, .nil => by
    have := Tr.walk_ins x p q .nil
    simp only [List.cons.injEq, true_and]
    rw [Tr.walk_nil] at this
    rw [Tr.walk_nil]
    exact this
  | true :: p, false :: q, .nil => by
    rw [if_neg (by simp), Tr.walk_nil]; exact Tr.walk_nil q
  | false :: p, true :: q, .nil => by
    rw [if_neg (by simp), Tr.walk_nil]; exact Tr.walk_nil q
  | true :: p, true :: q, .node l v r => by
    have := Tr.walk_ins x p q l
    simp only [List.cons.injEq, true_and]
    exact this
  | false :: p, false :: q, .node l v r => by
    have := Tr.walk_ins x p q r
    simp only [List.cons.injEq, true_and]
    exact this
  | true :: p, false :: q, .node l v r => by rw [if_neg (by simp)]; rfl
  | false :: p, true :: q, .node l v r => by rw [if_neg (by simp)]; rfl

noncomputable def Tr.at {α : Type} (t : Tr α) (n : Nat) : Option α := Bool.rec none (t.walk (path n)) (placed n)
theorem Tr.at_nil {α : Type} (n : Nat) : (Tr.nil : Tr α).at n = none := by
  unfold Tr.at; cases placed n
  · rfl
  · exact Tr.walk_nil _
theorem path_inj {a b : Nat} (ha : placed a = true) (hb : placed b = true) (h : path a = path b) : a = b := by
  unfold placed at ha hb
  have h1 := Nat.eq_of_beq_eq_true ha
  have h2 := Nat.eq_of_beq_eq_true hb
  rw [← h1, ← h2, h]
theorem Tr.at_ins {α : Type} {t : Tr α} {n : Nat} (hn : placed n = true) (x : Option α) (m : Nat) : (t.ins x (path n)).at m = if m = n then x else t.at m := by
  unfold Tr.at
  cases hm : placed m with
  | false =>
    by_cases h : m = n
    · subst h; rw [hn] at hm; cases hm
    · rw [if_neg h]
  | true =>
    show Tr.walk (path m) (t.ins x (path n)) = _
    rw [Tr.walk_ins]
    by_cases h : m = n
    · subst h; rw [if_pos rfl, if_pos rfl]
    · rw [if_neg h, if_neg (fun e => h (path_inj hm hn e))]

/-- A heap, and a frame, made of rows. -/
noncomputable def absH (n : Nat) (h : Tr HObj) : HHeap := ⟨n, h.at⟩
noncomputable def absF (sz : Nat) (fr : Tr Value) : HFrame := ⟨sz, fr.at⟩

theorem absH_set {n : Nat} {h : Tr HObj} {b : Nat} (hb : placed b = true) (o : HObj) : (absH n h).set b o = absH n (h.ins (some o) (path b)) := by
  unfold HHeap.set absH
  congr 1
  funext x
  rw [Tr.at_ins hb]
theorem absH_kill {n : Nat} {h : Tr HObj} {b : Nat} (hb : placed b = true) : (absH n h).kill b = absH n (h.ins none (path b)) := by
  unfold HHeap.kill absH
  congr 1
  funext x
  rw [Tr.at_ins hb]
theorem absH_push {n : Nat} {h : Tr HObj} (hb : placed n = true) (o : HObj) : (absH n h).push o = absH (Nat.succ n) (h.ins (some o) (path n)) := by
  unfold HHeap.push absH
  congr 1
  funext x
  rw [Tr.at_ins hb]
theorem absF_put {sz : Nat} {fr : Tr Value} {d : Nat} (hd : placed d = true) (hs : d < sz) (v : Value) : hput (absF sz fr) (some d) v = absF sz (fr.ins (some v) (path d)) := by
  have e : hput (absF sz fr) (some d) v = if d < sz then ⟨sz, fun t => if t = d then some v else fr.at t⟩ else absF sz fr := rfl
  rw [e, if_pos hs]
  unfold absF
  congr 1
  funext x
  rw [Tr.at_ins hd]

/-- A number made ready. -/
noncomputable def forceNat {β : Type} (n : Nat) (k : Nat → β) : β := Nat.rec (motive := fun _ => β) (k 0) (fun m _ => k (Nat.succ m)) n
theorem forceNat_eq {β : Type} (n : Nat) (k : Nat → β) : forceNat n k = k n := by cases n <;> rfl
noncomputable def forceInt {β : Type} (n : Int) (k : Int → β) : β := Int.rec (motive := fun _ => β) (fun m => forceNat m fun m => k (.ofNat m)) (fun m => forceNat m fun m => k (.negSucc m)) n
theorem forceInt_eq {β : Type} (n : Int) (k : Int → β) : forceInt n k = k n := by
  cases n with
  | ofNat m => exact forceNat_eq m fun m => k (.ofNat m)
  | negSucc m => exact forceNat_eq m fun m => k (.negSucc m)
/-- A value made ready. -/
noncomputable def forceV {β : Type} (v : Value) (k : Value → β) : β :=
  match v with
  | .bool b => Bool.rec (k (.bool false)) (k (.bool true)) b
  | .int ik n => forceInt n fun n => k (.int ik n)
  | .pointer (some ⟨b, o, s⟩) => forceNat b fun b => forceNat o fun o => k (.pointer (some ⟨b, o, s⟩))
  | .slice (some ⟨b, o, s⟩) l c => forceNat b fun b => forceNat o fun o => forceNat l fun l => forceNat c fun c => k (.slice (some ⟨b, o, s⟩) l c)
  | v => k v
theorem forceV_eq {β : Type} (v : Value) (k : Value → β) : forceV v k = k v := by
  unfold forceV
  split
  · rename_i b; cases b <;> rfl
  · rw [forceInt_eq]
  · rw [forceNat_eq, forceNat_eq]
  · rw [forceNat_eq, forceNat_eq, forceNat_eq, forceNat_eq]
  · rfl

/-- What a call comes to; what code comes to. -/
inductive KR where
  | bad
  | ok (v : Value) (n : Nat) (h : Tr HObj)
inductive KX where
  | bad
  | ok (e : Exit) (fr : Tr Value) (n : Nat) (h : Tr HObj)

/-- Something that goes on with one thing at most. -/
def Thru {α : Type} (g : (α → KX) → KX) (Q : α → Prop) : Prop := ∀ k, g k ≠ .bad → ∃ a, Q a ∧ g k = k a

/-- Boxes: what is in one that does not change is worked out once. -/
inductive Bx (α : Type) where
  | mk (a : α)
noncomputable def Bx.on {α β : Type} (b : Bx α) (f : α → β) : β := Bx.rec f b
theorem Bx.on_mk {α β : Type} (a : α) (f : α → β) : (Bx.mk a).on f = f a := rfl

/-- A way, made a reader. -/
abbrev TGet (α : Type) := Tr α → (α → KX) → KX
noncomputable def tgStop {α : Type} : TGet α := fun t k => Tr.rec (motive := fun _ => KX) .bad (fun _ v _ _ _ => Option.rec .bad k v) t
noncomputable def tgL {α : Type} (g : TGet α) : TGet α := fun t k => Tr.rec (motive := fun _ => KX) .bad (fun l _ _ _ _ => g l k) t
noncomputable def tgR {α : Type} (g : TGet α) : TGet α := fun t k => Tr.rec (motive := fun _ => KX) .bad (fun _ _ r _ _ => g r k) t
noncomputable def tget {α β : Type} (p : List Bool) : (TGet α → β) → β :=
  List.rec (motive := fun _ => (TGet α → β) → β) (fun k => k (fun t k => Tr.rec (motive := fun _ => KX) .bad (fun _ v _ _ _ => Option.rec .bad k v) t))
    (fun b _ ih k => Bool.rec (ih fun g => k (fun t k => Tr.rec (motive := fun _ => KX) .bad (fun _ _ r _ _ => g r k) t)) (ih fun g => k (fun t k => Tr.rec (motive := fun _ => KX) .bad (fun l _ _ _ _ => g l k) t)) b) p
noncomputable def tgetOf {α : Type} (p : List Bool) : TGet α := fun t k => Option.rec .bad k (t.walk p)
theorem tgStop_eq {α : Type} : (tgStop : TGet α) = tgetOf [] := by
  funext t k; cases t <;> rfl
theorem tgL_eq {α : Type} (p : List Bool) : (tgL (tgetOf p) : TGet α) = tgetOf (true :: p) := by
  funext t k; cases t <;> rfl
theorem tgR_eq {α : Type} (p : List Bool) : (tgR (tgetOf p) : TGet α) = tgetOf (false :: p) := by
  funext t k; cases t <;> rfl
theorem tget_eq {α β : Type} : ∀ (p : List Bool) (k : TGet α → β), tget p k = k (tgetOf p)
  | [], k => congrArg k tgStop_eq
  | true :: p, k => by
    show tget p (fun g => k (tgL g)) = _
    rw [tget_eq p, tgL_eq]
  | false :: p, k => by
    show tget p (fun g => k (tgR g)) = _
    rw [tget_eq p, tgR_eq]
/-- A way, made a writer. -/
abbrev TPut (α : Type) := Option α → Tr α → (Tr α → KX) → KX
noncomputable def tpStop {α : Type} : TPut α := fun x t k => Tr.rec (motive := fun _ => KX) (k (.node .nil x .nil)) (fun l _ r _ _ => k (.node l x r)) t
noncomputable def tpL {α : Type} (g : TPut α) : TPut α := fun x t k => Tr.rec (motive := fun _ => KX) (g x .nil fun l' => k (.node l' none .nil)) (fun l v r _ _ => g x l fun l' => k (.node l' v r)) t
noncomputable def tpR {α : Type} (g : TPut α) : TPut α := fun x t k => Tr.rec (motive := fun _ => KX) (g x .nil fun r' => k (.node .nil none r')) (fun l v r _ _ => g x r fun r' => k (.node l v r')) t
noncomputable def tput {α β : Type} (p : List Bool) : (TPut α → β) → β :=
  List.rec (motive := fun _ => (TPut α → β) → β) (fun k => k (fun x t k => Tr.rec (motive := fun _ => KX) (k (.node .nil x .nil)) (fun l _ r _ _ => k (.node l x r)) t))
    (fun b _ ih k => Bool.rec (ih fun g => k (fun x t k => Tr.rec (motive := fun _ => KX) (g x .nil fun r' => k (.node .nil none r')) (fun l v r _ _ => g x r fun r' => k (.node l v r')) t))
      (ih fun g => k (fun x t k => Tr.rec (motive := fun _ => KX) (g x .nil fun l' => k (.node l' none .nil)) (fun l v r _ _ => g x l fun l' => k (.node l' v r)) t)) b) p
noncomputable def tputOf {α : Type} (p : List Bool) : TPut α := fun x t k => k (Tr.ins x p t)
theorem tpStop_eq {α : Type} : (tpStop : TPut α) = tputOf [] := by
  funext x t k; cases t <;> rfl
theorem tpL_eq {α : Type} (p : List Bool) : (tpL (tputOf p) : TPut α) = tputOf (true :: p) := by
  funext x t k; cases t <;> rfl
theorem tpR_eq {α : Type} (p : List Bool) : (tpR (tputOf p) : TPut α) = tputOf (false :: p) := by
  funext x t k; cases t <;> rfl
theorem tput_eq {α β : Type} : ∀ (p : List Bool) (k : TPut α → β), tput p k = k (tputOf p)
  | [], k => congrArg k tpStop_eq
  | true :: p, k => by
    show tput p (fun g => k (tpL g)) = _
    rw [tput_eq p, tpL_eq]
  | false :: p, k => by
    show tput p (fun g => k (tpR g)) = _
    rw [tput_eq p, tpR_eq]
def tgBad {α : Type} : TGet α := fun _ _ => .bad
def tpBad {α : Type} : TPut α := fun _ _ _ => .bad
/-- The place of a number, read and written. -/
noncomputable def tgB (α : Type) (b : Nat) : Bx (TGet α) := Bool.rec (.mk tgBad) (tget (path b) fun g => .mk g) (placed b)
noncomputable def tpB (α : Type) (b : Nat) : Bx (TPut α) := Bool.rec (.mk tpBad) (tput (path b) fun g => .mk g) (placed b)
theorem tgB_eq {α : Type} (b : Nat) (t : Tr α) (k : α → KX) : (tgB α b).on (fun g => g t k) = Bool.rec .bad (Option.rec .bad k (t.walk (path b))) (placed b) := by
  unfold tgB
  rw [tget_eq]
  cases placed b <;> rfl
theorem tpB_eq {α : Type} (b : Nat) (x : Option α) (t : Tr α) (k : Tr α → KX) : (tpB α b).on (fun g => g x t k) = Bool.rec .bad (k (Tr.ins x (path b) t)) (placed b) := by
  unfold tpB
  rw [tput_eq]
  cases placed b <;> rfl
end Go.HL
/-
  A way to run code on given data inside the kernel, part 2: operands, numbers, texts, places.
-/
namespace Go.HL
open Go.RowKit
set_option linter.unusedSimpArgs false
set_option linter.unusedVariables false

variable {P : Program}

/-- Slots and operands. -/
noncomputable def kslot (p : List Bool) (fr : Tr Value) (k : Value → KX) : KX := Option.rec .bad k (fr.walk p)
def kbad2 (fr : Tr Value) (k : Value → KX) : KX := .bad
def kconst (v : Value) (fr : Tr Value) (k : Value → KX) : KX := k v
noncomputable def kev : Operand → Tr Value → (Value → KX) → KX :=
  Operand.rec (fun t => Bool.rec kbad2 (kslot (path t)) (placed t)) (fun v => Bool.rec kbad2 (kconst v) (flat v)) (fun _ => kbad2) (fun f => kconst (.func (.func f) #[] #[]))

theorem kev_ok {sz : Nat} {x : Operand} {fr : Tr Value} : Thru (kev x fr) fun v => hev (absF sz fr) x = some v := by
  intro k hk
  cases x with
  | tmp t =>
    have e : kev (.tmp t) = Bool.rec kbad2 (kslot (path t)) (placed t) := rfl
    rw [e] at hk ⊢
    cases hp : placed t with
    | false => rw [hp] at hk; exact absurd rfl hk
    | true =>
      rw [hp] at hk
      have e2 : hev (absF sz fr) (.tmp t) = fr.walk (path t) := by
        show Tr.at fr t = _
        unfold Tr.at; rw [hp]
      show ∃ a, _ ∧ kslot (path t) fr k = k a
      rw [e2]
      have hk' : kslot (path t) fr k ≠ .bad := hk
      unfold kslot at hk' ⊢
      cases hw : fr.walk (path t) with
      | none => rw [hw] at hk'; exact absurd rfl hk'
      | some v => exact ⟨v, rfl, rfl⟩
  | const v =>
    have e : kev (.const v) = Bool.rec kbad2 (kconst v) (flat v) := rfl
    rw [e] at hk ⊢
    cases hp : flat v with
    | false => rw [hp] at hk; exact absurd rfl hk
    | true => exact ⟨v, by simp [hev, hp], rfl⟩
  | global g => exact absurd rfl hk
  | func f => exact ⟨_, rfl, rfl⟩

/-- An outcome of the high level that is a value alone. -/
noncomputable def kslow (o : Option Value) (k : Value → KX) : KX := Option.rec .bad (fun v => forceV v k) o
theorem kslow_ok (o : Option Value) : Thru (kslow o) fun v => o = some v := by
  intro k hk
  unfold kslow at hk ⊢
  cases o with
  | none => exact absurd rfl hk
  | some v => exact ⟨v, rfl, forceV_eq v k⟩

/-- Kinds of whole numbers. -/
noncomputable def ikN (k : IntKind) : Nat := IntKind.rec 0 1 2 3 4 5 6 7 k
noncomputable def ikEq (a b : IntKind) : Bool := Nat.beq (ikN a) (ikN b)
theorem ikEq_eq {a b : IntKind} (h : ikEq a b = true) : a = b := by
  have := Nat.eq_of_beq_eq_true h
  cases a <;> cases b <;> first | rfl | (simp [ikN] at this)
noncomputable def kcap (k : IntKind) : Nat := IntKind.rec 127 32767 2147483647 9223372036854775807 255 65535 4294967295 18446744073709551615 k
theorem kcap_wrap {k : IntKind} {z : Nat} (h : Nat.ble z (kcap k) = true) : k.wrap (Int.ofNat z) = Int.ofNat z := by
  have h := Nat.le_of_ble_eq_true h
  cases k <;> simp only [kcap] at h <;> simp only [IntKind.wrap, IntKind.bits, IntKind.signed, Int.ofNat_eq_natCast] <;> simp <;> omega
theorem kcap_wrap' {k : IntKind} {z : Nat} {n : Int} (h : Nat.ble z (kcap k) = true) (hn : n = Int.ofNat z) : k.wrap n = Int.ofNat z := by rw [hn]; exact kcap_wrap h

/-- Two numbers that are not below 0, by a way of their own. -/
abbrev KG := IntKind → Nat → Nat → (Value → KX) → KX → KX
def GOk (op : BinOp) (g : KG) : Prop := ∀ ik x y k s, g ik x y k s = s ∨ ∃ v, hint op ik (Int.ofNat x) (Int.ofNat y) = some v ∧ g ik x y k s = k v
noncomputable def kgcap (f : Nat → Nat → Nat) : KG := fun ik x y k s => Bool.rec s (forceNat (f x y) fun z => k (.int ik (.ofNat z))) (Nat.ble (f x y) (kcap ik))
theorem kgcap_ok {op : BinOp} {f : Nat → Nat → Nat} (ik : IntKind) (x y : Nat) (k : Value → KX) (s : KX) (h : ∀ z, f x y = z → Nat.ble z (kcap ik) = true → hint op ik (Int.ofNat x) (Int.ofNat y) = some (.int ik (.ofNat z))) :
    kgcap f ik x y k s = s ∨ ∃ v, hint op ik (Int.ofNat x) (Int.ofNat y) = some v ∧ kgcap f ik x y k s = k v := by
  unfold kgcap
  cases hb : Nat.ble (f x y) (kcap ik) with
  | false => exact .inl rfl
  | true => exact .inr ⟨_, h _ rfl hb, forceNat_eq _ _⟩
noncomputable def gAdd : KG := kgcap Nat.add
theorem gAdd_ok : GOk .add gAdd := fun ik x y k s => kgcap_ok ik x y k s fun z hz hc => by
  simp only [hint]; rw [kcap_wrap' hc]; rw [← hz]; rfl
noncomputable def gMul : KG := kgcap Nat.mul
theorem gMul_ok : GOk .mul gMul := fun ik x y k s => kgcap_ok ik x y k s fun z hz hc => by
  simp only [hint]; rw [kcap_wrap' hc]; rw [← hz]; rfl
noncomputable def gSub : KG := fun ik x y k s => Bool.rec s (kgcap Nat.sub ik x y k s) (Nat.ble y x)
theorem gSub_ok : GOk .sub gSub := fun ik x y k s => by
  unfold gSub
  cases hb : Nat.ble y x with
  | false => exact .inl rfl
  | true =>
    refine kgcap_ok ik x y k s fun z hz hc => ?_
    have := Nat.le_of_ble_eq_true hb
    simp only [hint]; rw [kcap_wrap' hc]
    rw [← hz]
    simp only [Int.ofNat_eq_natCast]
    show (x : Int) - (y : Int) = ((x - y : Nat) : Int)
    omega
noncomputable def gQuo : KG := fun ik x y k s => Bool.rec (kgcap Nat.div ik x y k s) s (Nat.beq y 0)
theorem gQuo_ok : GOk .quo gQuo := fun ik x y k s => by
  unfold gQuo
  cases hb : Nat.beq y 0 with
  | true => exact .inl rfl
  | false =>
    refine kgcap_ok ik x y k s fun z hz hc => ?_
    have h0 : y ≠ 0 := fun e => by subst e; simp at hb
    simp only [hint]
    rw [if_neg (by simp only [Int.ofNat_eq_natCast]; omega), kcap_wrap' hc]
    rw [← hz]
    simp only [Int.ofNat_eq_natCast]
    show Int.tdiv (x : Int) (y : Int) = ((x / y : Nat) : Int)
    rfl
noncomputable def gRem : KG := fun ik x y k s => Bool.rec (forceNat (Nat.mod x y) fun z => k (.int ik (.ofNat z))) s (Nat.beq y 0)
theorem gRem_ok : GOk .rem gRem := fun ik x y k s => by
  unfold gRem
  cases hb : Nat.beq y 0 with
  | true => exact .inl rfl
  | false =>
    refine .inr ⟨_, ?_, forceNat_eq _ _⟩
    have h0 : y ≠ 0 := fun e => by subst e; simp at hb
    simp only [hint]
    rw [if_neg (by simp only [Int.ofNat_eq_natCast]; omega)]
    rfl
noncomputable def kbool (b : Bool) (k : Value → KX) : KX := Bool.rec (k (.bool false)) (k (.bool true)) b
theorem kbool_eq (b : Bool) (k : Value → KX) : kbool b k = k (.bool b) := by cases b <;> rfl
noncomputable def gEql : KG := fun _ x y k _ => kbool (Nat.beq x y) k
theorem gEql_ok : GOk .eql gEql := fun ik x y k s => .inr ⟨_, by
  simp only [hint]
  congr 2
  rw [Bool.eq_iff_iff]
  simp only [beq_iff_eq, Int.ofNat_eq_natCast]
  constructor
  · intro h; rw [show x = y by omega]; exact Nat.beq_refl y
  · intro h; rw [Nat.eq_of_beq_eq_true h], kbool_eq _ _⟩
noncomputable def gNeq : KG := fun _ x y k _ => kbool (Bool.not (Nat.beq x y)) k
theorem gNeq_ok : GOk .neq gNeq := fun ik x y k s => .inr ⟨_, by
  simp only [hint]
  congr 2
  show (!(Int.ofNat x == Int.ofNat y)) = !(Nat.beq x y)
  congr 1
  rw [Bool.eq_iff_iff]
  simp only [beq_iff_eq, Int.ofNat_eq_natCast]
  constructor
  · intro h; rw [show x = y by omega]; exact Nat.beq_refl y
  · intro h; rw [Nat.eq_of_beq_eq_true h], kbool_eq _ _⟩
theorem ble_dec (a b : Nat) (p : Prop) [Decidable p] (h : p ↔ a ≤ b) : decide p = Nat.ble a b := by
  rw [Bool.eq_iff_iff, decide_eq_true_iff, h]
  exact ⟨Nat.ble_eq_true_of_le, Nat.le_of_ble_eq_true⟩
noncomputable def gLss : KG := fun _ x y k _ => kbool (Nat.ble (Nat.succ x) y) k
theorem gLss_ok : GOk .lss gLss := fun ik x y k s => .inr ⟨_, by
  simp only [hint]; rw [ble_dec (Nat.succ x) y _ (by simp only [Int.ofNat_eq_natCast]; omega)], kbool_eq _ _⟩
noncomputable def gLeq : KG := fun _ x y k _ => kbool (Nat.ble x y) k
theorem gLeq_ok : GOk .leq gLeq := fun ik x y k s => .inr ⟨_, by
  simp only [hint]; rw [ble_dec x y _ (by simp only [Int.ofNat_eq_natCast]; omega)], kbool_eq _ _⟩
noncomputable def gGtr : KG := fun _ x y k _ => kbool (Nat.ble (Nat.succ y) x) k
theorem gGtr_ok : GOk .gtr gGtr := fun ik x y k s => .inr ⟨_, by
  simp only [hint]; rw [ble_dec (Nat.succ y) x _ (by simp only [Int.ofNat_eq_natCast]; omega)], kbool_eq _ _⟩
noncomputable def gGeq : KG := fun _ x y k _ => kbool (Nat.ble y x) k
theorem gGeq_ok : GOk .geq gGeq := fun ik x y k s => .inr ⟨_, by
  simp only [hint]; rw [ble_dec y x _ (by simp only [Int.ofNat_eq_natCast]; omega)], kbool_eq _ _⟩
def gSlow : KG := fun _ _ _ _ s => s
theorem gSlow_ok (op : BinOp) : GOk op gSlow := fun _ _ _ _ _ => .inl rfl

/-- Rows of bytes. -/
noncomputable def lEq (a : List UInt8) : List UInt8 → Bool :=
  List.rec (motive := fun _ => List UInt8 → Bool) (fun b => List.rec (motive := fun _ => Bool) true (fun _ _ _ => false) b)
    (fun x _ ih b => List.rec (motive := fun _ => Bool) false (fun y b' _ => Bool.rec false (ih b') (Nat.beq x.toNat y.toNat)) b) a
theorem lEq_eq : ∀ (a b : List UInt8), (a == b) = lEq a b
  | [], [] => rfl
  | [], _ :: _ => rfl
  | _ :: _, [] => rfl
  | x :: a, y :: b => by
    have e : lEq (x :: a) (y :: b) = Bool.rec false (lEq a b) (Nat.beq x.toNat y.toNat) := rfl
    rw [e, List.cons_beq_cons, lEq_eq a b]
    cases hb : Nat.beq x.toNat y.toNat with
    | true =>
      have := UInt8.toNat_inj.1 (Nat.eq_of_beq_eq_true hb)
      subst this
      simp
    | false =>
      have : x ≠ y := fun e => by subst e; rw [Nat.beq_refl] at hb; cases hb
      simp [this]
theorem k_bytes_loop (bs : ByteArray) : ∀ (k i : Nat) (r : List UInt8), bs.size - i = k → ByteArray.toList.loop bs i r = r.reverse ++ bs.data.toList.drop i := by
  intro k
  induction k with
  | zero =>
    intro i r h
    rw [ByteArray.toList.loop, if_neg (by omega), List.drop_eq_nil_of_le (by rw [Array.length_toList, ByteArray.size_data]; omega), List.append_nil]
  | succ k ih =>
    intro i r h
    have hi : i < bs.size := by omega
    rw [ByteArray.toList.loop, if_pos hi, ih (i + 1) _ (by omega), List.reverse_cons, List.append_assoc]
    congr 1
    have hi' : i < bs.data.toList.length := by rw [Array.length_toList, ByteArray.size_data]; exact hi
    rw [List.drop_eq_getElem_cons hi']
    simp only [List.singleton_append, List.cons.injEq, and_true]
    cases bs with
    | mk data =>
      show data[i]! = _
      have : i < data.size := hi
      rw [getElem!_pos data i this]; simp
theorem k_bytes_list (bs : ByteArray) : bs.toList = bs.data.toList := by
  unfold ByteArray.toList; rw [k_bytes_loop bs _ 0 [] rfl]; simp

/-- Texts held against each other. -/
noncomputable def kstr (op : BinOp) (x y : ByteArray) (k : Value → KX) : KX :=
  match op with
  | .eql => kbool (lEq x.data.toList y.data.toList) k
  | .neq => kbool (Bool.not (lEq x.data.toList y.data.toList)) k
  | op => kslow (hstr op x y) k
theorem kstr_ok (op : BinOp) (x y : ByteArray) : Thru (kstr op x y) fun v => hstr op x y = some v := by
  intro k hk
  unfold kstr at hk ⊢
  split at hk
  · exact ⟨_, by simp only [hstr, k_bytes_list, lEq_eq], kbool_eq _ _⟩
  · exact ⟨_, by simp only [hstr, k_bytes_list, lEq_eq], kbool_eq _ _⟩
  · exact kslow_ok _ k hk

/-- Two values. -/
noncomputable def kbin2 (P : Program) (op : BinOp) (t : TypeId) (g : KG) (a b : Value) (k : Value → KX) : KX :=
  match a with
  | .int ik x => (match b with
    | .int jk y => Int.rec (fun x' => Int.rec (fun y' => Bool.rec (kslow (hbin P op t a b) k) (g ik x' y' k (kslow (hbin P op t a b) k)) (ikEq ik jk)) (fun _ => kslow (hbin P op t a b) k) y) (fun _ => kslow (hbin P op t a b) k) x
    | _ => .bad)
  | .string x => (match b with
    | .string y => kstr op x y k
    | _ => .bad)
  | _ => kslow (hbin P op t a b) k
def notShift : BinOp → Bool
  | .shl | .shr => false
  | _ => true
theorem kbin2_ok {op : BinOp} {t : TypeId} {g : KG} (hg : GOk op g) (hs : notShift op = true ∨ g = gSlow) (a b : Value) : Thru (kbin2 P op t g a b) fun v => hbin P op t a b = some v := by
  intro k hk
  unfold kbin2 at hk ⊢
  split at hk
  · split at hk
    · rename_i ik x _ jk y
      have slow : kslow (hbin P op t (.int ik x) (.int jk y)) k ≠ .bad → ∃ v, hbin P op t (.int ik x) (.int jk y) = some v ∧ kslow (hbin P op t (.int ik x) (.int jk y)) k = k v := kslow_ok _ k
      cases x with
      | negSucc m => exact slow hk
      | ofNat x =>
        cases y with
        | negSucc m => exact slow hk
        | ofNat y =>
          show ∃ v, _ ∧ Bool.rec _ _ (ikEq ik jk) = k v
          cases hi : ikEq ik jk with
          | false => rw [hi] at hk; exact slow hk
          | true =>
            rw [hi] at hk
            have := ikEq_eq hi
            subst this
            rcases hg ik x y k (kslow (hbin P op t (.int ik (.ofNat x)) (.int ik (.ofNat y))) k) with he | ⟨v, h1, h2⟩
            · show ∃ v, _ ∧ g ik x y k _ = k v
              rw [he]
              have hk2 : g ik x y k (kslow (hbin P op t (.int ik (.ofNat x)) (.int ik (.ofNat y))) k) ≠ .bad := hk
              rw [he] at hk2
              exact slow hk2
            · rcases hs with hs | hs
              · refine ⟨v, ?_, h2⟩
                unfold hbin
                cases op <;> simp only [notShift, Bool.false_eq_true] at hs <;> simp only [if_true] <;> exact h1
              · subst hs
                exact slow hk
    · exact absurd rfl hk
  · split at hk
    · rename_i x _ y
      obtain ⟨v, h1, h2⟩ := kstr_ok op x y k hk
      exact ⟨v, by unfold hbin; exact h1, h2⟩
    · exact absurd rfl hk
  · exact kslow_ok _ k hk

/-- Places. -/
def kaddr (p : Value) (k : Nat → Nat → KX) : KX :=
  match p with
  | .pointer (some ⟨b, o, none⟩) => k b o
  | _ => .bad
theorem kaddr_ok (p : Value) (k : Nat → Nat → KX) (h : kaddr p k ≠ .bad) : ∃ b o, p = .pointer (some ⟨b, o, none⟩) ∧ kaddr p k = k b o := by
  unfold kaddr at h ⊢
  split at h
  · exact ⟨_, _, rfl, rfl⟩
  · exact absurd rfl h
noncomputable def kcells0 (b : Nat) (h : Tr HObj) (k : List Value → Bool → KX) : KX :=
  Bool.rec .bad (Option.rec .bad (fun o => HObj.rec (fun cs rw => k cs rw) (fun _ => .bad) (fun _ _ => .bad) (fun _ _ _ => .bad) o) (h.walk (path b))) (placed b)
noncomputable def kcells (b : Nat) (h : Tr HObj) (k : List Value → Bool → KX) : KX :=
  (tgB HObj b).on fun g => g h fun o => HObj.rec (fun cs rw => k cs rw) (fun _ => .bad) (fun _ _ => .bad) (fun _ _ _ => .bad) o
theorem kcells_eq (b : Nat) (h : Tr HObj) (k : List Value → Bool → KX) : kcells b h k = kcells0 b h k := tgB_eq b h _
theorem kcells_ok {n : Nat} {b : Nat} {h : Tr HObj} (k : List Value → Bool → KX) (hk : kcells b h k ≠ .bad) : placed b = true ∧ ∃ cs rw, (absH n h).get b = some (.cells cs rw) ∧ kcells b h k = k cs rw := by
  rw [kcells_eq] at hk ⊢
  unfold kcells0 at hk ⊢
  cases hp : placed b with
  | false => rw [hp] at hk; exact absurd rfl hk
  | true =>
    rw [hp] at hk
    refine ⟨rfl, ?_⟩
    have e : (absH n h).get b = h.walk (path b) := by
      show h.at b = _
      unfold Tr.at; rw [hp]
    rw [e]
    simp only at hk ⊢
    cases hw : h.walk (path b) with
    | none => rw [hw] at hk; exact absurd rfl hk
    | some o =>
      rw [hw] at hk
      cases o with
      | cells cs rw => exact ⟨cs, rw, rfl, rfl⟩
      | map es => exact absurd rfl hk
      | iter _ _ => exact absurd rfl hk
      | tag _ _ _ => exact absurd rfl hk
/-- One of a row; some of a row. -/
noncomputable def knth {α : Type} (l : List α) : Nat → Option α :=
  List.rec (motive := fun _ => Nat → Option α) (fun _ => none) (fun v _ ih i => Nat.rec (motive := fun _ => Option α) (some v) (fun m _ => ih m) i) l
theorem knth_eq {α : Type} : ∀ (l : List α) (i : Nat), knth l i = l[i]?
  | [], i => by simp [knth]
  | v :: l, 0 => rfl
  | v :: l, i + 1 => by
    have : knth (v :: l) (i + 1) = knth l i := rfl
    rw [this, knth_eq l i]; simp
noncomputable def kdrop {α : Type} (i : Nat) (l : List α) : List α :=
  Nat.rec (motive := fun _ => List α) l (fun _ ih => List.rec (motive := fun _ => List α) [] (fun _ l _ => l) ih) i
theorem kdrop_eq {α : Type} : ∀ (i : Nat) (l : List α), kdrop i l = l.drop i
  | 0, l => rfl
  | i + 1, l => by
    have : kdrop (i + 1) l = List.rec (motive := fun _ => List α) [] (fun _ l _ => l) (kdrop i l) := rfl
    rw [this, kdrop_eq i l]
    cases h : l.drop i with
    | nil =>
      have := List.drop_eq_nil_iff.1 h
      exact (List.drop_eq_nil_of_le (by omega)).symm
    | cons x r =>
      show r = _
      rw [show l.drop (i + 1) = (l.drop i).drop 1 by rw [List.drop_drop], h]; rfl
noncomputable def ktake {α : Type} (n : Nat) : List α → (List α → KX) → KX :=
  Nat.rec (motive := fun _ => List α → (List α → KX) → KX) (fun _ k => k []) (fun _ ih l k => List.rec (motive := fun _ => KX) .bad (fun v l _ => ih l fun r => k (v :: r)) l) n
theorem ktake_ok {α : Type} : ∀ (n : Nat) (l : List α) (k : List α → KX), ktake n l k ≠ .bad → n ≤ l.length ∧ ktake n l k = k (l.take n)
  | 0, l, k, h => ⟨Nat.zero_le _, rfl⟩
  | n + 1, [], k, h => absurd rfl h
  | n + 1, v :: l, k, h => by
    have e : ktake (n + 1) (v :: l) k = ktake n l fun r => k (v :: r) := rfl
    rw [e] at h ⊢
    obtain ⟨h1, h2⟩ := ktake_ok n l _ h
    exact ⟨by simp; omega, by rw [h2]; rfl⟩
/-- Some of a row written anew: made when it is looked at. -/
noncomputable def splL (cs : List Value) : Nat → List Value → List Value :=
  List.rec (motive := fun _ => Nat → List Value → List Value) (fun _ _ => [])
    (fun c cs ih o vs => Nat.rec (motive := fun _ => List Value) (List.rec (motive := fun _ => List Value) (c :: cs) (fun v vs _ => v :: ih 0 vs) vs) (fun m _ => c :: ih m vs) o) cs
theorem splice_cons_succ (c : Value) : ∀ (vs cs : List Value) (o : Nat), splice (c :: cs) (o + 1) vs = c :: splice cs o vs
  | [], _, _ => rfl
  | v :: vs, cs, o => by
    rw [splice, splice, List.set_cons_succ, splice_cons_succ c vs]
theorem splice_nil : ∀ (vs : List Value) (o : Nat), splice [] o vs = []
  | [], _ => rfl
  | v :: vs, o => by rw [splice, List.set_nil, splice_nil vs]
theorem splL_eq : ∀ (cs : List Value) (o : Nat) (vs : List Value), splL cs o vs = splice cs o vs
  | [], o, vs => (splice_nil vs o).symm
  | c :: cs, 0, [] => rfl
  | c :: cs, 0, v :: vs => by
    show v :: splL cs 0 vs = splice (v :: cs) (0 + 1) vs
    rw [splL_eq cs, splice_cons_succ]
  | c :: cs, o + 1, vs => by
    show c :: splL cs o vs = _
    rw [splL_eq cs, splice_cons_succ]
noncomputable def kspl (cs : List Value) (o : Nat) (vs : List Value) (k : List Value → KX) : KX :=
  Option.rec .bad (fun _ => k (splL cs o vs)) (knth cs (Nat.sub (Nat.add o vs.length) 1))
theorem kspl_ok (cs : List Value) (o : Nat) (vs : List Value) (k : List Value → KX) (h : kspl cs o vs k ≠ .bad) : (vs = [] ∨ o + vs.length ≤ cs.length) ∧ kspl cs o vs k = k (splice cs o vs) := by
  unfold kspl at h ⊢
  cases hn : knth cs (Nat.sub (Nat.add o vs.length) 1) with
  | none => rw [hn] at h; exact absurd rfl h
  | some v =>
    rw [splL_eq]
    refine ⟨?_, rfl⟩
    cases vs with
    | nil => exact .inl rfl
    | cons x xs =>
      rw [knth_eq] at hn
      have := (List.getElem?_eq_some_iff.1 hn).1
      have e : Nat.sub (Nat.add o (x :: xs).length) 1 = o + (x :: xs).length - 1 := rfl
      rw [e] at this
      simp only [List.length_cons] at this ⊢
      exact .inr (by omega)
/-- The first cells of a row, from a place on: made when they are looked at. -/
noncomputable def kpre (o m : Nat) (cs : List Value) (k : List Value → KX) : KX :=
  Bool.rec (Option.rec .bad (fun _ => Bool.rec (k ((kdrop o cs).take m)) (Option.rec (k cs) (fun _ => k (cs.take m)) (knth cs m)) (Nat.beq o 0)) (knth cs (Nat.sub (Nat.add o m) 1))) (k []) (Nat.beq m 0)
theorem kpre_ok (o m : Nat) (cs : List Value) (k : List Value → KX) (h : kpre o m cs k ≠ .bad) : (m = 0 ∨ o + m ≤ cs.length) ∧ kpre o m cs k = k ((cs.drop o).take m) := by
  unfold kpre at h ⊢
  cases hm : Nat.beq m 0 with
  | true =>
    have := Nat.eq_of_beq_eq_true hm
    subst this
    exact ⟨.inl rfl, by simp⟩
  | false =>
    rw [hm] at h
    have hm0 : m ≠ 0 := fun e => by subst e; simp at hm
    cases hn : knth cs (Nat.sub (Nat.add o m) 1) with
    | none => rw [hn] at h; exact absurd rfl h
    | some v =>
      rw [knth_eq] at hn
      have hl := (List.getElem?_eq_some_iff.1 hn).1
      rw [show Nat.sub (Nat.add o m) 1 = o + m - 1 from rfl] at hl
      refine ⟨.inr (by omega), ?_⟩
      cases ho : Nat.beq o 0 with
      | false => show k ((kdrop o cs).take m) = _; rw [kdrop_eq]
      | true =>
        have := Nat.eq_of_beq_eq_true ho
        subst this
        simp only [List.drop_zero]
        cases hx : knth cs m with
        | none =>
          rw [knth_eq] at hx
          have := List.getElem?_eq_none_iff.1 hx
          show k cs = _
          rw [List.take_of_length_le this]
        | some u => rfl
end Go.HL
/-
  A way to run code on given data inside the kernel, part 3: operations.
-/
namespace Go.HL
open Go.RowKit
set_option linter.unusedSimpArgs false
set_option linter.unusedVariables false

variable {P : Program}

abbrev KOp := Tr Value → Nat → Tr HObj → (Value → Nat → Tr HObj → KX) → KX
def KOk (P : Program) (sz : Nat) (op : Op) (g : KOp) : Prop :=
  ∀ fr n h k, g fr n h k ≠ .bad → ∃ v n' h', hop P (absF sz fr) (absH n h) op = some (v, absH n' h') ∧ g fr n h k = k v n' h'

def kbadOp : KOp := fun _ _ _ _ => .bad
theorem kbadOp_ok (sz : Nat) (op : Op) : KOk P sz op kbadOp := fun fr n h k hk => absurd rfl hk

noncomputable def kpush (n : Nat) (h : Tr HObj) (o : HObj) (k : Nat → Tr HObj → KX) : KX := (tpB HObj n).on fun g => g (some o) h fun h' => forceNat (Nat.succ n) fun n' => k n' h'
theorem kpush_ok {n : Nat} {h : Tr HObj} {o : HObj} {k : Nat → Tr HObj → KX} (hk : kpush n h o k ≠ .bad) : ∃ n' h', (absH n h).push o = absH n' h' ∧ kpush n h o k = k n' h' := by
  unfold kpush at hk ⊢
  rw [tpB_eq] at hk ⊢
  rw [forceNat_eq] at hk ⊢
  cases hp : placed n with
  | false => rw [hp] at hk; exact absurd rfl hk
  | true => exact ⟨_, _, absH_push hp o, rfl⟩
noncomputable def kset (b : Nat) (h : Tr HObj) (o : HObj) (k : Tr HObj → KX) : KX := (tpB HObj b).on fun g => g (some o) h k
theorem kset_ok {n b : Nat} {h : Tr HObj} {o : HObj} {k : Tr HObj → KX} (hk : kset b h o k ≠ .bad) : ∃ h', (absH n h).set b o = absH n h' ∧ kset b h o k = k h' := by
  unfold kset at hk ⊢
  rw [tpB_eq] at hk ⊢
  cases hp : placed b with
  | false => rw [hp] at hk; exact absurd rfl hk
  | true => exact ⟨_, absH_set hp o, rfl⟩
noncomputable def kkill (b : Nat) (h : Tr HObj) (k : Tr HObj → KX) : KX := (tpB HObj b).on fun g => g none h k
theorem kkill_ok {n b : Nat} {h : Tr HObj} {k : Tr HObj → KX} (hk : kkill b h k ≠ .bad) : ∃ h', (absH n h).kill b = absH n h' ∧ kkill b h k = k h' := by
  unfold kkill at hk ⊢
  rw [tpB_eq] at hk ⊢
  cases hp : placed b with
  | false => rw [hp] at hk; exact absurd rfl hk
  | true => exact ⟨_, absH_kill hp, rfl⟩

/-- move, assign. -/
noncomputable def kMove (x : Operand) : KOp := fun fr n h k => kev x fr fun v => k v n h
theorem kMove_ok (sz : Nat) (x : Operand) : KOk P sz (.move x) (kMove x) ∧ KOk P sz (.assign x) (kMove x) := by
  constructor <;>
  · intro fr n h k hk
    obtain ⟨v, h1, h2⟩ := kev_ok (sz := sz) (fun v => k v n h) hk
    exact ⟨v, n, h, by simp only [hop, h1]; rfl, h2⟩

/-- pick. -/
noncomputable def kboolV (v : Value) (x y : KX) : KX := match v with | .bool b => Bool.rec y x b | _ => .bad
noncomputable def kPick (c a b : Operand) : KOp := fun fr n h k => kev c fr fun v => kboolV v (kev a fr fun v => k v n h) (kev b fr fun v => k v n h)
theorem kPick_ok (sz : Nat) (c a b : Operand) : KOk P sz (.pick c a b) (kPick c a b) := by
  intro fr n h k hk
  obtain ⟨v, h1, h2⟩ := kev_ok (sz := sz) (fun v => kboolV v (kev a fr fun v => k v n h) (kev b fr fun v => k v n h)) hk
  unfold kPick at hk ⊢
  rw [h2] at hk ⊢
  unfold kboolV at hk ⊢
  split at hk
  · rename_i t
    cases t with
    | true =>
      obtain ⟨u, h3, h4⟩ := kev_ok (sz := sz) (fun v => k v n h) hk
      exact ⟨u, n, h, by simp only [hop, h1, h3]; rfl, h4⟩
    | false =>
      obtain ⟨u, h3, h4⟩ := kev_ok (sz := sz) (fun v => k v n h) hk
      exact ⟨u, n, h, by simp only [hop, h1, h3]; rfl, h4⟩
  · exact absurd rfl hk

/-- alloc, box. -/
noncomputable def kNew (cs : List Value) : KOp := fun fr n h k => kpush n h (.cells cs true) fun n' h' => k (.pointer (some ⟨n, 0, none⟩)) n' h'
noncomputable def kAlloc (P : Program) (t : TypeId) : KOp := match helem P t with | some e => kNew e.zero | none => kbadOp
theorem kAlloc_ok (sz : Nat) (t : TypeId) : KOk P sz (.alloc t) (kAlloc P t) := by
  unfold kAlloc
  split
  · rename_i e he
    intro fr n h k hk
    obtain ⟨n', h', h1, h2⟩ := kpush_ok hk
    exact ⟨_, n', h', by simp only [hop, halloc, he, Option.map_some]; rw [h1]; rfl, h2⟩
  · exact kbadOp_ok _ _
noncomputable def kBox (x : Operand) : KOp := fun fr n h k => kev x fr fun v => Bool.rec .bad (kNew v.cells.toList fr n h k) (allOne v.cells.toList)
theorem kBox_ok (sz : Nat) (t : TypeId) (x : Operand) : KOk P sz (.box t x) (kBox x) := by
  intro fr n h k hk
  unfold kBox at hk ⊢
  obtain ⟨v, h1, h2⟩ := kev_ok (sz := sz) _ hk
  rw [h2] at hk ⊢
  cases ha : allOne v.cells.toList with
  | false => rw [ha] at hk; exact absurd rfl hk
  | true =>
    rw [ha] at hk
    obtain ⟨n', h', h3, h4⟩ := kpush_ok hk
    exact ⟨_, n', h', by simp only [hop, h1, Option.bind_some, hbox, ha, if_true]; rw [h3]; rfl, h4⟩

/-- Rows of operands. -/
noncomputable def kevs (xs : List Operand) : Tr Value → (List Value → KX) → KX :=
  List.rec (motive := fun _ => Tr Value → (List Value → KX) → KX) (fun _ k => k []) (fun x _ ih fr k => kev x fr fun v => ih fr fun vs => k (v :: vs)) xs
theorem kevs_ok {sz : Nat} {fr : Tr Value} : ∀ (xs : List Operand), Thru (kevs xs fr) fun vs => hevs (absF sz fr) xs = some vs
  | [], k, hk => ⟨[], rfl, rfl⟩
  | x :: xs, k, hk => by
    have e : kevs (x :: xs) fr k = kev x fr fun v => kevs xs fr fun vs => k (v :: vs) := rfl
    rw [e] at hk ⊢
    obtain ⟨v, h1, h2⟩ := kev_ok (sz := sz) _ hk
    rw [h2] at hk ⊢
    obtain ⟨vs, h3, h4⟩ := kevs_ok (sz := sz) xs _ hk
    exact ⟨v :: vs, by simp only [hevs, h1, h3, Option.bind_some, Option.map_some], h4⟩
noncomputable def kparts (xs : List (Nat × Operand)) : Tr Value → (List (Nat × Value) → KX) → KX :=
  List.rec (motive := fun _ => Tr Value → (List (Nat × Value) → KX) → KX) (fun _ k => k []) (fun x _ ih fr k => kev x.2 fr fun v => ih fr fun vs => k ((x.1, v) :: vs)) xs
theorem kparts_ok {sz : Nat} {fr : Tr Value} : ∀ (xs : List (Nat × Operand)), Thru (kparts xs fr) fun vs => hparts (absF sz fr) xs = some vs
  | [], k, hk => ⟨[], rfl, rfl⟩
  | (i, x) :: xs, k, hk => by
    have e : kparts ((i, x) :: xs) fr k = kev x fr fun v => kparts xs fr fun vs => k ((i, v) :: vs) := rfl
    rw [e] at hk ⊢
    obtain ⟨v, h1, h2⟩ := kev_ok (sz := sz) _ hk
    rw [h2] at hk ⊢
    obtain ⟨vs, h3, h4⟩ := kparts_ok (sz := sz) xs _ hk
    exact ⟨(i, v) :: vs, by simp only [hparts, h1, h3, Option.bind_some, Option.map_some], h4⟩

/-- A row of cells made at once. -/
noncomputable def klist (l : List Value) : (List Value → KX) → KX :=
  List.rec (motive := fun _ => (List Value → KX) → KX) (fun k => k []) (fun v _ ih k => forceV v fun v => ih fun r => k (v :: r)) l
theorem klist_eq : ∀ (l : List Value) (k : List Value → KX), klist l k = k l
  | [], _ => rfl
  | v :: l, k => by
    show forceV v (fun v => klist l fun r => k (v :: r)) = _
    rw [forceV_eq, klist_eq l]

/-- build. -/
noncomputable def kagg (v : Value) (k : Value → KX) : KX := match v with | .agg cs => klist cs.toList fun l => k (.agg l.toArray) | v => k v
theorem kagg_eq (v : Value) (k : Value → KX) : kagg v k = k v := by
  unfold kagg
  split
  · rw [klist_eq]
  · rfl
noncomputable def kBuild (P : Program) (t : TypeId) (ps : List (Nat × Operand)) : KOp := fun fr n h k => kparts ps fr fun vs => kslow (hbuild P t vs) fun v => kagg v fun v => k v n h
theorem kBuild_ok (sz : Nat) (t : TypeId) (ps : Array (Nat × Operand)) : KOk P sz (.build t ps) (kBuild P t ps.toList) := by
  intro fr n h k hk
  unfold kBuild at hk ⊢
  obtain ⟨vs, h1, h2⟩ := kparts_ok (sz := sz) _ _ hk
  rw [h2] at hk ⊢
  obtain ⟨v, h3, h4⟩ := kslow_ok _ _ hk
  exact ⟨v, n, h, by simp only [hop, h1, Option.bind_some, h3, Option.map_some], by rw [h4, kagg_eq]⟩
/-- buildSlice, makeSlice, makeMap. -/
def hbuildCells (P : Program) (t : TypeId) (len : Nat) (ps : List (Nat × Value)) : Option (List Value) :=
  match P.underlying t with
  | some (.slice u) => (helem P u).bind fun e =>
    if 0 < e.size ∧ len * e.size ≤ 16777216 then
      (hfill (fun i => some (i * e.size, e.size)) (hzeros e.zero (len * e.size)) ps).bind fun cs => if allOne cs then some cs else none
    else none
  | _ => none
theorem hbuildSlice_eq (H : HHeap) (t : TypeId) (len : Nat) (ps : List (Nat × Value)) : hbuildSlice P H t len ps = (hbuildCells P t len ps).map fun cs => (.slice (some ⟨H.next, 0, none⟩) len len, H.push (.cells cs true)) := by
  unfold hbuildSlice hbuildCells
  split
  · rename_i u hu
    simp only [hu]
    cases helem P u with
    | none => rfl
    | some e =>
      simp only [Option.bind_some]
      split
      · cases hfill (fun i => some (i * e.size, e.size)) (hzeros e.zero (len * e.size)) ps with
        | none => rfl
        | some cs =>
          simp only [Option.bind_some]
          split <;> rfl
      · rfl
  · split <;> simp_all
noncomputable def kRow (o : Option (List Value)) (l c : Nat) : KOp := fun fr n h k => Option.rec .bad (fun cs => klist cs fun cs => kpush n h (.cells cs true) fun n' h' => k (.slice (some ⟨n, 0, none⟩) l c) n' h') o
noncomputable def kBuildSlice (P : Program) (t : TypeId) (len : Nat) (ps : List (Nat × Operand)) : KOp := fun fr n h k => kparts ps fr fun vs => kRow (hbuildCells P t len vs) len len fr n h k
theorem kRow_ok {o : Option (List Value)} {l c : Nat} {fr : Tr Value} {n : Nat} {h : Tr HObj} {k : Value → Nat → Tr HObj → KX} (hk : kRow o l c fr n h k ≠ .bad) :
    ∃ cs n' h', o = some cs ∧ (absH n h).push (.cells cs true) = absH n' h' ∧ kRow o l c fr n h k = k (.slice (some ⟨n, 0, none⟩) l c) n' h' := by
  unfold kRow at hk ⊢
  cases o with
  | none => exact absurd rfl hk
  | some cs =>
    simp only [klist_eq] at hk ⊢
    obtain ⟨n', h', h1, h2⟩ := kpush_ok hk
    exact ⟨cs, n', h', rfl, h1, h2⟩
theorem kBuildSlice_ok (sz : Nat) (t : TypeId) (len : Nat) (ps : Array (Nat × Operand)) : KOk P sz (.buildSlice t len ps) (kBuildSlice P t len ps.toList) := by
  intro fr n h k hk
  unfold kBuildSlice at hk ⊢
  obtain ⟨vs, h1, h2⟩ := kparts_ok (sz := sz) _ _ hk
  rw [h2] at hk ⊢
  obtain ⟨cs, n', h', h3, h4, h5⟩ := kRow_ok hk
  exact ⟨_, n', h', by simp only [hop, h1, Option.bind_some, hbuildSlice_eq, h3, Option.map_some]; rw [h4]; rfl, h5⟩
def hmakeCells (P : Program) (t : TypeId) (l c : Value) : Option (List Value × Nat × Nat) :=
  match P.underlying t, l, c with
  | some (.slice u), .int _ l, .int _ c => (helem P u).bind fun e =>
    if 0 < e.size ∧ 0 ≤ l ∧ l ≤ c ∧ c * e.bytes ≤ 1099511627776 ∧ c ≤ 1099511627776 then some (hzeros e.zero (c.toNat * e.size), l.toNat, c.toNat) else none
  | _, _, _ => none
theorem hmakeSlice_eq (H : HHeap) (t : TypeId) (l c : Value) : hmakeSlice P H t l c = (hmakeCells P t l c).map fun r => (.slice (some ⟨H.next, 0, none⟩) r.2.1 r.2.2, H.push (.cells r.1 true)) := by
  unfold hmakeSlice hmakeCells
  split
  · rename_i u k l k' c hu
    simp only [hu]
    cases helem P u with
    | none => rfl
    | some e =>
      simp only [Option.bind_some]
      split <;> rfl
  · split
    · simp_all
      rename_i hn
      exact (hn _ _ _ _ _ rfl rfl rfl rfl rfl).elim
    · rfl
noncomputable def kMk (o : Option (List Value × Nat × Nat)) : KOp := fun fr n h k => Option.rec .bad (fun r => forceNat r.2.1 fun l => forceNat r.2.2 fun c => kRow (some r.1) l c fr n h k) o
def kintV (v : Value) (x : KX) : KX := match v with | .int _ _ => x | _ => .bad
noncomputable def kMakeSlice (P : Program) (t : TypeId) (l c : Operand) : KOp := fun fr n h k => kev l fr fun a => kev c fr fun b => kintV a (kintV b (kMk (hmakeCells P t a b) fr n h k))
theorem kMakeSlice_ok (sz : Nat) (t : TypeId) (l c : Operand) : KOk P sz (.makeSlice t l c) (kMakeSlice P t l c) := by
  intro fr n h k hk
  unfold kMakeSlice at hk ⊢
  obtain ⟨a, h1, h2⟩ := kev_ok (sz := sz) _ hk
  rw [h2] at hk ⊢
  obtain ⟨b, h3, h4⟩ := kev_ok (sz := sz) _ hk
  rw [h4] at hk ⊢
  unfold kintV at hk ⊢
  split at hk
  · rename_i ik x
    split at hk
    · rename_i jk y
      unfold kMk at hk ⊢
      cases ho : hmakeCells P t (.int ik x) (.int jk y) with
      | none => rw [ho] at hk; exact absurd rfl hk
      | some r =>
        rw [ho] at hk
        simp only [forceNat_eq] at hk ⊢
        obtain ⟨cs, n', h', h5, h6, h7⟩ := kRow_ok hk
        cases h5
        exact ⟨_, n', h', by simp only [hop, h1, h3, hmakeSlice_eq, ho, Option.map_some]; rw [h6]; rfl, h7⟩
    · exact absurd rfl hk
  · exact absurd rfl hk
noncomputable def kMakeMap : KOp := fun fr n h k => kpush n h (.map []) fun n' h' => k (.map (some n)) n' h'
theorem kMakeMap_ok (sz : Nat) (t : TypeId) : KOk P sz (.makeMap t none) kMakeMap := by
  intro fr n h k hk
  obtain ⟨n', h', h1, h2⟩ := kpush_ok hk
  exact ⟨_, n', h', by simp only [hop]; rw [h1]; rfl, h2⟩

/-- load. -/
noncomputable def kLoad1 (a : Operand) : KOp := fun fr n h k => kev a fr fun p => kaddr p fun b o => kcells b h fun cs _ => Option.rec .bad (fun v => k v n h) (knth cs o)
noncomputable def kLoadA (s : Nat) (a : Operand) : KOp := fun fr n h k => kev a fr fun p => kaddr p fun b o => kcells b h fun cs _ => ktake s (kdrop o cs) fun l => k (.agg l.toArray) n h
noncomputable def kLoad (P : Program) (t : TypeId) (a : Operand) : KOp :=
  match hagg P t with
  | some true => (match hsize P t with | some s => Bool.rec kbadOp (kLoadA s a) (Nat.ble 1 s) | none => kbadOp)
  | some false => kLoad1 a
  | none => kbadOp
theorem kLoad_ok (sz : Nat) (t : TypeId) (a : Operand) : KOk P sz (.load t a) (kLoad P t a) := by
  unfold kLoad
  split
  · rename_i ht
    split
    · rename_i s hs
      cases hb : Nat.ble 1 s with
      | false => exact kbadOp_ok _ _
      | true =>
        have h0 := Nat.le_of_ble_eq_true hb
        intro fr n h k hk
        have hk : kLoadA s a fr n h k ≠ .bad := hk
        show ∃ v n' h', _ ∧ kLoadA s a fr n h k = _
        unfold kLoadA at hk ⊢
        obtain ⟨p, h1, h2⟩ := kev_ok (sz := sz) _ hk
        rw [h2] at hk ⊢
        obtain ⟨b, o, rfl, h3⟩ := kaddr_ok _ _ hk
        rw [h3] at hk ⊢
        obtain ⟨hp, cs, rw', h4, h5⟩ := kcells_ok (n := n) _ hk
        rw [h5] at hk ⊢
        obtain ⟨h6, h7⟩ := ktake_ok _ _ _ hk
        rw [kdrop_eq, List.length_drop] at h6
        refine ⟨_, n, h, ?_, h7⟩
        simp only [hop, h1, Option.bind_some, hload, h4, ht, hs]
        rw [if_pos (by omega), kdrop_eq]; rfl
    · exact kbadOp_ok _ _
  · rename_i ht
    intro fr n h k hk
    unfold kLoad1 at hk ⊢
    obtain ⟨p, h1, h2⟩ := kev_ok (sz := sz) _ hk
    rw [h2] at hk ⊢
    obtain ⟨b, o, rfl, h3⟩ := kaddr_ok _ _ hk
    rw [h3] at hk ⊢
    obtain ⟨hp, cs, rw', h4, h5⟩ := kcells_ok (n := n) _ hk
    rw [h5] at hk ⊢
    cases hv : knth cs o with
    | none => rw [hv] at hk; exact absurd rfl hk
    | some v =>
      rw [knth_eq] at hv
      exact ⟨v, n, h, by simp only [hop, h1, Option.bind_some, hload, h4, ht, hv, Option.map_some], rfl⟩
  · exact kbadOp_ok _ _

/-- store. -/
noncomputable def kput1 (n : Nat) (h : Tr HObj) (b : Nat) (cs : List Value) (o : Nat) (vs : List Value) (k : Value → Nat → Tr HObj → KX) : KX := kspl cs o vs fun r => kset b h (.cells r true) fun h' => k undef n h'
noncomputable def kstoreV (s : Nat) (n : Nat) (h : Tr HObj) (k : Value → Nat → Tr HObj → KX) (b o : Nat) (cs : List Value) (rw : Bool) (v : Value) : KX :=
  Bool.rec .bad (Bool.rec .bad (Bool.rec .bad (kput1 n h b cs o v.cells.toList k) (allOne v.cells.toList)) (Nat.beq v.cells.toList.length s)) rw
noncomputable def kStore1 (s : Nat) (a x : Operand) : KOp := fun fr n h k => kev a fr fun p => kev x fr fun v => kaddr p fun b o => kcells b h fun cs rw => kstoreV s n h k b o cs rw v
noncomputable def kStore (P : Program) (t : TypeId) (a x : Operand) : KOp := match hsize P t with | some s => Bool.rec kbadOp (kStore1 s a x) (Nat.ble 1 s) | none => kbadOp
theorem kStore_ok (sz : Nat) (t : TypeId) (a x : Operand) : KOk P sz (.store t a x) (kStore P t a x) := by
  unfold kStore
  split
  · rename_i s hs
    cases hb1 : Nat.ble 1 s with
    | false => exact kbadOp_ok _ _
    | true =>
    have h0 := Nat.le_of_ble_eq_true hb1
    intro fr n h k hk
    have hk : kStore1 s a x fr n h k ≠ .bad := hk
    show ∃ v n' h', _ ∧ kStore1 s a x fr n h k = _
    unfold kStore1 at hk ⊢
    obtain ⟨p, h1, h2⟩ := kev_ok (sz := sz) _ hk
    rw [h2] at hk ⊢
    obtain ⟨v, h3, h4⟩ := kev_ok (sz := sz) _ hk
    rw [h4] at hk ⊢
    obtain ⟨b, o, rfl, h5⟩ := kaddr_ok _ _ hk
    rw [h5] at hk ⊢
    obtain ⟨hp, cs, rw', h6, h7⟩ := kcells_ok (n := n) _ hk
    rw [h7] at hk ⊢
    unfold kstoreV at hk ⊢
    cases rw' with
    | false => exact absurd rfl hk
    | true =>
      cases hl : Nat.beq v.cells.toList.length s with
      | false => rw [hl] at hk; exact absurd rfl hk
      | true =>
        rw [hl] at hk
        have hl := Nat.eq_of_beq_eq_true hl
        cases ha : allOne v.cells.toList with
        | false => rw [ha] at hk; exact absurd rfl hk
        | true =>
          rw [ha] at hk
          have hk : kput1 n h b cs o v.cells.toList k ≠ .bad := hk
          show ∃ v' n' h', _ ∧ kput1 n h b cs o v.cells.toList k = _
          unfold kput1 at hk ⊢
          obtain ⟨h8, h9⟩ := kspl_ok _ _ _ _ hk
          rw [h9] at hk ⊢
          obtain ⟨h', h10, h11⟩ := kset_ok (n := n) hk
          refine ⟨undef, n, h', ?_, h11⟩
          have hne : v.cells.toList ≠ [] := by intro e; rw [e] at hl; simp at hl; omega
          have hle : o + v.cells.toList.length ≤ cs.length := h8.resolve_left hne
          simp only [hop, h1, h3, Option.bind_some, hstore, h6, hs]
          rw [if_pos ⟨by rw [← hl]; simp, by omega, ha⟩, ← h10]; rfl
  · exact kbadOp_ok _ _

/-- nilCheck. -/
def knil (v : Value) (k : Value → KX) : KX :=
  match v with
  | .pointer (some a) => k (.pointer (some a))
  | .func (.func f) a b => k (.func (.func f) a b)
  | _ => .bad
noncomputable def kNil (x : Operand) : KOp := fun fr n h k => kev x fr fun v => knil v fun v => k v n h
theorem kNil_ok (sz : Nat) (x : Operand) : KOk P sz (.nilCheck x) (kNil x) := by
  intro fr n h k hk
  unfold kNil at hk ⊢
  obtain ⟨v, h1, h2⟩ := kev_ok (sz := sz) _ hk
  rw [h2] at hk ⊢
  unfold knil at hk ⊢
  split at hk
  · exact ⟨_, n, h, by simp only [hop, h1], rfl⟩
  · exact ⟨_, n, h, by simp only [hop, h1], rfl⟩
  · exact absurd rfl hk

/-- Of two. -/
noncomputable def kBin1 (P : Program) (op : BinOp) (t : TypeId) (g : KG) (x y : Operand) : KOp := fun fr n h k => kev x fr fun a => kev y fr fun b => kbin2 P op t g a b fun v => k v n h
theorem kBin1_ok {op : BinOp} {g : KG} (hg : GOk op g) (hs : notShift op = true ∨ g = gSlow) (sz : Nat) (t u : TypeId) (x y : Operand) : KOk P sz (.binOp op t x y u) (kBin1 P op t g x y) := by
  intro fr n h k hk
  unfold kBin1 at hk ⊢
  obtain ⟨a, h1, h2⟩ := kev_ok (sz := sz) _ hk
  rw [h2] at hk ⊢
  obtain ⟨b, h3, h4⟩ := kev_ok (sz := sz) _ hk
  rw [h4] at hk ⊢
  obtain ⟨v, h5, h6⟩ := kbin2_ok hg hs a b _ hk
  exact ⟨v, n, h, by simp only [hop, h1, h3, Option.bind_some, h5, Option.map_some], h6⟩
noncomputable def kBin (P : Program) (op : BinOp) (t : TypeId) (x y : Operand) : KOp :=
  match op with
  | .add => kBin1 P .add t gAdd x y
  | .sub => kBin1 P .sub t gSub x y
  | .mul => kBin1 P .mul t gMul x y
  | .quo => kBin1 P .quo t gQuo x y
  | .rem => kBin1 P .rem t gRem x y
  | .eql => kBin1 P .eql t gEql x y
  | .neq => kBin1 P .neq t gNeq x y
  | .lss => kBin1 P .lss t gLss x y
  | .leq => kBin1 P .leq t gLeq x y
  | .gtr => kBin1 P .gtr t gGtr x y
  | .geq => kBin1 P .geq t gGeq x y
  | op => kBin1 P op t gSlow x y
theorem kBin_ok (sz : Nat) (op : BinOp) (t u : TypeId) (x y : Operand) : KOk P sz (.binOp op t x y u) (kBin P op t x y) := by
  unfold kBin
  split
  · exact kBin1_ok gAdd_ok (.inl rfl) sz t u x y
  · exact kBin1_ok gSub_ok (.inl rfl) sz t u x y
  · exact kBin1_ok gMul_ok (.inl rfl) sz t u x y
  · exact kBin1_ok gQuo_ok (.inl rfl) sz t u x y
  · exact kBin1_ok gRem_ok (.inl rfl) sz t u x y
  · exact kBin1_ok gEql_ok (.inl rfl) sz t u x y
  · exact kBin1_ok gNeq_ok (.inl rfl) sz t u x y
  · exact kBin1_ok gLss_ok (.inl rfl) sz t u x y
  · exact kBin1_ok gLeq_ok (.inl rfl) sz t u x y
  · exact kBin1_ok gGtr_ok (.inl rfl) sz t u x y
  · exact kBin1_ok gGeq_ok (.inl rfl) sz t u x y
  · exact kBin1_ok (gSlow_ok _) (.inr rfl) sz t u x y

/-- A value of one, two .. values, the heap at hand. -/
noncomputable def kOf1 (g : Nat → Tr HObj → Value → Option Value) (x : Operand) : KOp := fun fr n h k => kev x fr fun a => kslow (g n h a) fun v => k v n h
theorem kOf1_ok {sz : Nat} {op : Op} {g : Nat → Tr HObj → Value → Option Value} {x : Operand} (hg : ∀ fr n h a, hev (absF sz fr) x = some a → hop P (absF sz fr) (absH n h) op = (g n h a).map fun v => (v, absH n h)) : KOk P sz op (kOf1 g x) := by
  intro fr n h k hk
  unfold kOf1 at hk ⊢
  obtain ⟨a, h1, h2⟩ := kev_ok (sz := sz) _ hk
  rw [h2] at hk ⊢
  obtain ⟨v, h3, h4⟩ := kslow_ok _ _ hk
  exact ⟨v, n, h, by rw [hg fr n h a h1, h3]; rfl, h4⟩
noncomputable def kOf2 (g : Nat → Tr HObj → Value → Value → Option Value) (x y : Operand) : KOp := fun fr n h k => kev x fr fun a => kev y fr fun b => kslow (g n h a b) fun v => k v n h
theorem kOf2_ok {sz : Nat} {op : Op} {g : Nat → Tr HObj → Value → Value → Option Value} {x y : Operand} (hg : ∀ fr n h a b, hev (absF sz fr) x = some a → hev (absF sz fr) y = some b → ∀ v, g n h a b = some v → hop P (absF sz fr) (absH n h) op = some (v, absH n h)) : KOk P sz op (kOf2 g x y) := by
  intro fr n h k hk
  unfold kOf2 at hk ⊢
  obtain ⟨a, h1, h2⟩ := kev_ok (sz := sz) _ hk
  rw [h2] at hk ⊢
  obtain ⟨b, h3, h4⟩ := kev_ok (sz := sz) _ hk
  rw [h4] at hk ⊢
  obtain ⟨v, h5, h6⟩ := kslow_ok _ _ hk
  exact ⟨v, n, h, hg fr n h a b h1 h3 v h5, h6⟩
noncomputable def kUn (op : UnOp) (x : Operand) : KOp := kOf1 (fun _ _ a => hunary op a) x
theorem kUn_ok (sz : Nat) (op : UnOp) (t : TypeId) (x : Operand) : KOk P sz (.unOp op t x) (kUn op x) := kOf1_ok fun fr n h a ha => by simp only [hop, ha, Option.bind_some]
/-- Numbers turned into numbers. -/
noncomputable def kconvI (P : Program) (s d : TypeId) (kk : IntKind) (v : Value) (k : Value → KX) : KX :=
  match v with
  | .int _ n => Int.rec (fun z => Bool.rec (kslow (hconvert P s d v) k) (k (.int kk (.ofNat z))) (Nat.ble z (kcap kk))) (fun _ => kslow (hconvert P s d v) k) n
  | _ => kslow (hconvert P s d v) k
noncomputable def kconv (P : Program) (s d : TypeId) : Value → (Value → KX) → KX :=
  match P.underlying s, P.underlying d with
  | some (.int _), some (.int kk) => kconvI P s d kk
  | _, _ => fun v k => kslow (hconvert P s d v) k
theorem kconv_ok (s d : TypeId) (v : Value) : Thru (kconv P s d v) fun u => hconvert P s d v = some u := by
  generalize hg : kconv P s d = g
  unfold kconv at hg
  split at hg <;> subst hg
  · rename_i k0 kk hs hd
    intro k hk
    unfold kconvI at hk ⊢
    split at hk
    · rename_i ik n
      cases n with
      | negSucc m => exact kslow_ok _ k hk
      | ofNat z =>
        simp only at hk ⊢
        cases hb : Nat.ble z (kcap kk) with
        | false => rw [hb] at hk; exact kslow_ok _ k hk
        | true => exact ⟨_, by simp only [hconvert, hs, hd]; rw [kcap_wrap hb], rfl⟩
    · exact kslow_ok _ k hk
  · exact fun k hk => kslow_ok _ k hk
noncomputable def kConv (P : Program) (s d : TypeId) (x : Operand) : KOp := fun fr n h k => kev x fr fun a => kconv P s d a fun v => k v n h
theorem kConv_ok (sz : Nat) (s d : TypeId) (x : Operand) : KOk P sz (.convert s d x) (kConv P s d x) := by
  intro fr n h k hk
  unfold kConv at hk ⊢
  obtain ⟨a, h1, h2⟩ := kev_ok (sz := sz) _ hk
  rw [h2] at hk ⊢
  obtain ⟨v, h3, h4⟩ := kconv_ok s d a _ hk
  exact ⟨v, n, h, by simp only [hop, h1, Option.bind_some, hcv_some h3, Option.map_some], h4⟩
noncomputable def kIface (P : Program) (t : TypeId) (x : Operand) : KOp := if kindOf P t = 5 then kbadOp else if (P.underlying t).isSome then kOf1 (fun _ _ a => some (.iface t a)) x else kbadOp
theorem kIface_ok (sz : Nat) (t : TypeId) (x : Operand) : KOk P sz (.makeInterface t x) (kIface P t x) := by
  unfold kIface
  split
  · exact kbadOp_ok _ _
  · rename_i h5
    split
    · rename_i hs
      exact kOf1_ok fun fr n h a ha => by simp only [hop, ha, if_neg h5, if_pos hs]; rfl
    · exact kbadOp_ok _ _
noncomputable def kFunc (fn : Fn) (first captured : List Operand) : KOp := fun fr n h k => kevs first fr fun fs => kevs captured fr fun vs => k (.func fn fs.toArray vs.toArray) n h
theorem kFunc_ok (sz : Nat) (fn : Fn) (first captured : Array Operand) : KOk P sz (.makeFunc fn first captured) (kFunc fn first.toList captured.toList) := by
  intro fr n h k hk
  unfold kFunc at hk ⊢
  obtain ⟨fs, h1, h2⟩ := kevs_ok (sz := sz) _ _ hk
  rw [h2] at hk ⊢
  obtain ⟨vs, h3, h4⟩ := kevs_ok (sz := sz) _ _ hk
  exact ⟨_, n, h, by simp only [hop, h1, h3, Option.bind_some, Option.map_some], h4⟩
end Go.HL
/-
  A way to run code on given data inside the kernel, part 4: places of parts, slices, maps, lengths, appends, copies.
-/
namespace Go.HL
open Go.RowKit
set_option linter.unusedSimpArgs false
set_option linter.unusedVariables false

variable {P : Program}

/-- Operands that may be missing. -/
def koptV (v : Value) (k : Option Value → KX) : KX := match v with | .int ik n => k (some (.int ik n)) | _ => .bad
noncomputable def kopt (x : Option Operand) : Tr Value → (Option Value → KX) → KX :=
  match x with
  | none => fun _ k => k none
  | some x => fun fr k => kev x fr fun v => koptV v k
theorem kopt_ok {sz : Nat} {fr : Tr Value} (x : Option Operand) : Thru (kopt x fr) fun v => hopt (absF sz fr) x = some v := by
  intro k hk
  cases x with
  | none => exact ⟨none, rfl, rfl⟩
  | some x =>
    have hk : (kev x fr fun v => koptV v k) ≠ .bad := hk
    show ∃ a, _ ∧ (kev x fr fun v => koptV v k) = k a
    obtain ⟨v, h1, h2⟩ := kev_ok (sz := sz) _ hk
    rw [h2] at hk ⊢
    unfold koptV at hk ⊢
    split at hk
    · exact ⟨_, by simp only [hopt, h1], rfl⟩
    · exact absurd rfl hk
noncomputable def kbyteRow (l : List UInt8) (k : List UInt8 → KX) : KX := List.rec (motive := fun _ => (List UInt8 → KX) → KX) (fun k => k []) (fun b _ ih k => ih fun r => k (b :: r)) l k
theorem kbyteRow_eq : ∀ (l : List UInt8) (k : List UInt8 → KX), kbyteRow l k = k l
  | [], _ => rfl
  | b :: l, k => by
    have := kbyteRow_eq l fun r => k (b :: r)
    exact this
theorem k_extract (l : List UInt8) (a h : Nat) : (ByteArray.mk ⟨l⟩).extract a h = ⟨⟨(l.take h).drop a⟩⟩ := by
  apply ByteArray.ext
  rw [ByteArray.data_extract]
  show (List.toArray l).extract a h = List.toArray ((l.take h).drop a)
  simp [List.extract_toArray, List.extract_eq_take_drop, List.drop_take]
/-- A text's part, by hand: lo and hi are numbers that are not below 0. -/
noncomputable def kpart (l : List UInt8) (a n : Nat) (k : Value → KX) : KX := ktake n (kdrop a l) fun r => k (.string ⟨⟨r⟩⟩)
def kbnd (d : Nat) (x : Option Value) (k : Nat → KX) (s : KX) : KX :=
  match x with
  | none => k d
  | some (.int _ (.ofNat m)) => k m
  | _ => s
noncomputable def kslS (P : Program) (t : TypeId) (v : Value) (lo hi mx : Option Value) (k : Value → KX) : KX :=
  match v, mx with
  | .string s, none => kbnd s.data.toList.length hi (fun h => kbnd 0 lo (fun a => Bool.rec .bad (Bool.rec .bad (kpart s.data.toList a (Nat.sub h a) k) (Nat.ble h s.data.toList.length)) (Nat.ble a h)) .bad) .bad
  | v, mx => kslow (hslice P t v lo hi mx) k
theorem kbnd_ok {d : Nat} {x : Option Value} {k : Nat → KX} (h : kbnd d x k .bad ≠ .bad) : ∃ m, (∀ len, m ≤ len → hbound len d x = some m) ∧ kbnd d x k .bad = k m := by
  unfold kbnd at h ⊢
  split at h
  · exact ⟨d, fun _ _ => rfl, rfl⟩
  · rename_i ik m
    refine ⟨m, fun len hl => ?_, rfl⟩
    simp only [hbound]
    rw [if_pos (by simp only [Int.ofNat_eq_natCast]; omega)]
    rfl
  · exact absurd rfl h
theorem kslS_ok {t : TypeId} (ht : P.underlying t = some .string) (v : Value) (lo hi mx : Option Value) : Thru (kslS P t v lo hi mx) fun u => hslice P t v lo hi mx = some u := by
  intro k hk
  unfold kslS at hk ⊢
  split at hk
  · rename_i s
    obtain ⟨h, h1, h2⟩ := kbnd_ok hk
    rw [h2] at hk ⊢
    obtain ⟨a, h3, h4⟩ := kbnd_ok hk
    rw [h4] at hk ⊢
    cases hb : Nat.ble a h with
    | false => rw [hb] at hk; exact absurd rfl hk
    | true =>
      rw [hb] at hk
      have hah := Nat.le_of_ble_eq_true hb
      cases hb2 : Nat.ble h s.data.toList.length with
      | false => rw [hb2] at hk; exact absurd rfl hk
      | true =>
      rw [hb2] at hk
      have hle := Nat.le_of_ble_eq_true hb2
      have hk : kpart s.data.toList a (Nat.sub h a) k ≠ .bad := hk
      show ∃ u, _ ∧ kpart s.data.toList a (Nat.sub h a) k = k u
      unfold kpart at hk ⊢
      obtain ⟨h5, h6⟩ := ktake_ok _ _ _ hk
      rw [kdrop_eq] at h5 h6
      rw [kdrop_eq, h6]
      refine ⟨_, ?_, rfl⟩
      have hsz : s.size = s.data.toList.length := by rw [Array.length_toList, ByteArray.size_data]
      simp only [hslice, ht]
      rw [hsz]
      rw [h1 _ hle, Option.bind_some, h3 _ hah, Option.bind_some]
      simp only [Option.isSome_none, Bool.false_eq_true, if_false]
      congr 2
      obtain ⟨⟨l⟩⟩ := s
      rw [k_extract]
      congr 2
      rw [List.drop_take]; rfl
  · exact kslow_ok _ k hk
noncomputable def kslP (P : Program) (t : TypeId) : Value → Option Value → Option Value → Option Value → (Value → KX) → KX :=
  match P.underlying t with
  | some .string => kslS P t
  | _ => fun v lo hi mx k => kslow (hslice P t v lo hi mx) k
theorem kslP_ok (t : TypeId) (v : Value) (lo hi mx : Option Value) : Thru (kslP P t v lo hi mx) fun u => hslice P t v lo hi mx = some u := by
  generalize hg : kslP P t = g
  unfold kslP at hg
  split at hg <;> subst hg
  · exact kslS_ok ‹_› v lo hi mx
  · exact fun k hk => kslow_ok _ k hk
noncomputable def kSlice (P : Program) (t : TypeId) (x : Operand) (lo hi mx : Option Operand) : KOp := fun fr n h k => kev x fr fun v => kopt lo fr fun lo => kopt hi fr fun hi => kopt mx fr fun mx => kslP P t v lo hi mx fun v => k v n h
theorem kSlice_ok (sz : Nat) (t : TypeId) (x : Operand) (lo hi mx : Option Operand) : KOk P sz (.slice t x lo hi mx) (kSlice P t x lo hi mx) := by
  intro fr n h k hk
  unfold kSlice at hk ⊢
  obtain ⟨v, h1, h2⟩ := kev_ok (sz := sz) _ hk
  rw [h2] at hk ⊢
  obtain ⟨lo', h3, h4⟩ := kopt_ok (sz := sz) _ _ hk
  rw [h4] at hk ⊢
  obtain ⟨hi', h5, h6⟩ := kopt_ok (sz := sz) _ _ hk
  rw [h6] at hk ⊢
  obtain ⟨mx', h7, h8⟩ := kopt_ok (sz := sz) _ _ hk
  rw [h8] at hk ⊢
  obtain ⟨u, h9, h10⟩ := kslP_ok t _ _ _ _ _ hk
  exact ⟨u, n, h, by simp only [hop, h1, h3, h5, h7, Option.bind_some, h9, Option.map_some], h10⟩

/-- fieldAddr. -/
def hfieldOff (P : Program) (s : TypeId) (f : Nat) : Option Nat :=
  match P.underlying s with
  | some (.struct fs) => (fs[f]?).bind fun fd => (hsize P fd.type).bind fun n => if n = 0 then none else some fd.offset
  | _ => none
noncomputable def kField1 (off : Nat) (x : Operand) : KOp := fun fr n h k => kev x fr fun p => kaddr p fun b o => forceNat (Nat.add o off) fun o => k (.pointer (some ⟨b, o, none⟩)) n h
noncomputable def kField (P : Program) (s : TypeId) (x : Operand) (f : Nat) : KOp := match hfieldOff P s f with | some off => kField1 off x | none => kbadOp
theorem kField_ok (sz : Nat) (s : TypeId) (x : Operand) (f : Nat) : KOk P sz (.fieldAddr s x f) (kField P s x f) := by
  unfold kField
  split
  · rename_i off ho
    intro fr n h k hk
    unfold kField1 at hk ⊢
    obtain ⟨p, h1, h2⟩ := kev_ok (sz := sz) _ hk
    rw [h2] at hk ⊢
    obtain ⟨b, o, rfl, h3⟩ := kaddr_ok _ _ hk
    rw [h3, forceNat_eq]
    refine ⟨_, n, h, ?_, rfl⟩
    simp only [hop, h1, Option.bind_some, hfieldAt]
    unfold hfieldOff at ho
    split at ho
    · rename_i fs hf
      simp only [hf]
      simp only [Option.bind_eq_some_iff] at ho
      obtain ⟨fd, h4, m, h5, h6⟩ := ho
      split at h6 <;> cases h6
      rename_i h0
      simp only [h4, Option.bind_some, h5, if_neg h0, Option.map_some]
      rfl
    · cases ho
  · exact kbadOp_ok _ _

/-- indexAddr. -/
noncomputable def kixS (e : Nat) (p i : Value) (k : Value → KX) (s : KX) : KX :=
  match p, i with
  | .slice (some ⟨b, o, _⟩) len _, .int _ (.ofNat m) => Bool.rec .bad (forceNat (Nat.add o (Nat.mul m e)) fun o => k (.pointer (some ⟨b, o, none⟩))) (Nat.ble (Nat.succ m) len)
  | _, _ => s
noncomputable def kixP (P : Program) (t : TypeId) : Value → Value → (Value → KX) → KX :=
  match P.underlying t with
  | some (.slice e) => (match hsize P e with
    | some e => fun p i k => kixS e p i k .bad
    | none => fun _ _ _ => .bad)
  | _ => fun p i k => kslow (hindexAt P t p i) k
theorem kixP_ok (t : TypeId) (p i : Value) : Thru (kixP P t p i) fun u => hindexAt P t p i = some u := by
  generalize hg : kixP P t = g
  unfold kixP at hg
  split at hg
  · rename_i e ht
    split at hg <;> subst hg
    · rename_i s hs
      intro k hk
      dsimp only at hk ⊢
      unfold kixS at hk ⊢
      split at hk
      · rename_i b o sp len c ik m
        cases hb : Nat.ble (Nat.succ m) len with
        | false => rw [hb] at hk; exact absurd rfl hk
        | true =>
          have := Nat.le_of_ble_eq_true hb
          simp only [forceNat_eq]
          refine ⟨_, ?_, rfl⟩
          simp only [hindexAt, ht, hs, Option.bind_some]
          rw [if_pos (by simp only [Int.ofNat_eq_natCast]; omega)]
          rfl
      · exact absurd rfl hk
    · exact fun k hk => absurd rfl hk
  · subst hg
    exact fun k hk => kslow_ok _ k hk
noncomputable def kIxA (P : Program) (t : TypeId) (x i : Operand) : KOp := fun fr n h k => kev x fr fun p => kev i fr fun i => kintV i (kixP P t p i fun v => k v n h)
theorem kIxA_ok (sz : Nat) (t : TypeId) (x i : Operand) : KOk P sz (.indexAddr t x i) (kIxA P t x i) := by
  intro fr n h k hk
  unfold kIxA at hk ⊢
  obtain ⟨p, h1, h2⟩ := kev_ok (sz := sz) _ hk
  rw [h2] at hk ⊢
  obtain ⟨j, h3, h4⟩ := kev_ok (sz := sz) _ hk
  rw [h4] at hk ⊢
  unfold kintV at hk ⊢
  split at hk
  · obtain ⟨u, h5, h6⟩ := kixP_ok t _ _ _ hk
    exact ⟨u, n, h, by simp only [hop, h1, h3, Option.bind_some, h5, Option.map_some], h6⟩
  · exact absurd rfl hk

/-- index. -/
noncomputable def kixT (l : List UInt8) (m : Nat) (k : Value → KX) : KX := List.rec (motive := fun _ => KX) .bad (fun b _ _ => forceNat b.toNat fun z => k (.int .u8 (.ofNat z))) (kdrop m l)
noncomputable def kixV (P : Program) (t : TypeId) (p i : Value) (k : Value → KX) : KX :=
  match p, i with
  | .string s, .int _ (.ofNat m) => kixT s.data.toList m k
  | p, i => kslow (hindex P t p i) k
noncomputable def kixQ (P : Program) (t : TypeId) : Value → Value → (Value → KX) → KX :=
  match P.underlying t with
  | some .string => kixV P t
  | _ => fun p i k => kslow (hindex P t p i) k
theorem kixQ_ok (t : TypeId) (p i : Value) : Thru (kixQ P t p i) fun u => hindex P t p i = some u := by
  generalize hg : kixQ P t = g
  unfold kixQ at hg
  split at hg <;> subst hg
  · rename_i ht
    intro k hk
    unfold kixV at hk ⊢
    split at hk
    · rename_i s ik m
      unfold kixT at hk ⊢
      rw [kdrop_eq] at hk ⊢
      cases hd : s.data.toList.drop m with
      | nil => rw [hd] at hk; exact absurd rfl hk
      | cons b r =>
        simp only [forceNat_eq]
        refine ⟨_, ?_, rfl⟩
        simp only [hindex, ht]
        rw [if_pos (by simp only [Int.ofNat_eq_natCast]; omega)]
        have : s.data.toList[m]? = some b := by
          have := congrArg (fun l => l[0]?) hd
          simpa [List.getElem?_drop] using this
        have h2 : s.data[(Int.ofNat m).toNat]? = some b := by rw [← Array.getElem?_toList]; exact this
        rw [h2]; rfl
    · exact kslow_ok _ k hk
  · exact fun k hk => kslow_ok _ k hk
noncomputable def kIx (P : Program) (t : TypeId) (x i : Operand) : KOp := fun fr n h k => kev x fr fun p => kev i fr fun i => kintV i (kixQ P t p i fun v => k v n h)
theorem kIx_ok (sz : Nat) (t : TypeId) (x i : Operand) : KOk P sz (.index t x i) (kIx P t x i) := by
  intro fr n h k hk
  unfold kIx at hk ⊢
  obtain ⟨p, h1, h2⟩ := kev_ok (sz := sz) _ hk
  rw [h2] at hk ⊢
  obtain ⟨j, h3, h4⟩ := kev_ok (sz := sz) _ hk
  rw [h4] at hk ⊢
  unfold kintV at hk ⊢
  split at hk
  · obtain ⟨u, h5, h6⟩ := kixQ_ok t _ _ _ hk
    exact ⟨u, n, h, by simp only [hop, h1, h3, Option.bind_some, h5, Option.map_some], h6⟩
  · exact absurd rfl hk

/-- field, lookup, extract. -/
noncomputable def kFld (P : Program) (t : TypeId) (x : Operand) (f : Nat) : KOp := kOf1 (fun _ _ a => hfield P t a f) x
theorem kFld_ok (sz : Nat) (t : TypeId) (x : Operand) (f : Nat) : KOk P sz (.field t x f) (kFld P t x f) := kOf1_ok fun fr n h a ha => by simp only [hop, ha, Option.bind_some]
noncomputable def kLookup (P : Program) (t : TypeId) (m x : Operand) (ok : Bool) : KOp := kOf2 (fun n h a b => hlookup P (absH n h) t a b ok) m x
theorem kLookup_ok (sz : Nat) (t : TypeId) (m x : Operand) (ok : Bool) : KOk P sz (.lookup t m x ok) (kLookup P t m x ok) := kOf2_ok fun fr n h a b ha hb v hv => by simp only [hop, ha, hb, Option.bind_some, hv, Option.map_some]
noncomputable def kextr (v : Value) (i : Nat) (k : Value → KX) : KX := match v with | .tuple vs => Option.rec .bad k (knth vs.toList i) | _ => .bad
noncomputable def kExtract (x : Operand) (i : Nat) : KOp := fun fr n h k => kev x fr fun v => kextr v i fun v => k v n h
theorem kExtract_ok (sz : Nat) (x : Operand) (i : Nat) : KOk P sz (.extract x i) (kExtract x i) := by
  intro fr n h k hk
  unfold kExtract at hk ⊢
  obtain ⟨v, h1, h2⟩ := kev_ok (sz := sz) _ hk
  rw [h2] at hk ⊢
  unfold kextr at hk ⊢
  split at hk
  · rename_i vs
    cases hv : knth vs.toList i with
    | none => rw [hv] at hk; exact absurd rfl hk
    | some u =>
      rw [knth_eq] at hv
      exact ⟨u, n, h, by simp only [hop, h1, hv, Option.map_some], rfl⟩
  · exact absurd rfl hk

/-- A map is written. -/
noncomputable def hmapCells (P : Program) (H : HHeap) (t : TypeId) (m k x : Value) : Option (Nat × List (Value × Value)) :=
  match P.underlying t, m with
  | some (.map kt _), .map (some b) =>
    match H.get b with
    | some (.map es) =>
      if plainKey P kt k ∧ es.all (fun e => plainKey P kt e.1) then
        match hfind k es with
        | some (j, _) => some (b, es.set j (k, x))
        | none => some (b, es ++ [(k, x)])
      else none
    | _ => none
  | _, _ => none
theorem hmapCells_ok {H : HHeap} {t : TypeId} {m k x : Value} {r : Nat × List (Value × Value)} (h : hmapCells P H t m k x = some r) : hmapUpdate P H t m k x = some (H.set r.1 (.map r.2)) := by
  unfold hmapCells at h
  unfold hmapUpdate
  split at h
  · rename_i kt et b ht
    simp only [ht]
    split at h
    · rename_i es he
      simp only [he]
      split at h
      · rename_i hc
        rw [if_pos hc]
        split at h
        · rename_i hf
          cases h; simp only [hf]
        · rename_i hf
          cases h; simp only [hf]
      · cases h
    · cases h
  · cases h
noncomputable def kMapUp (P : Program) (t : TypeId) (m x y : Operand) : KOp := fun fr n h k => kev m fr fun m => kev x fr fun x => kev y fr fun y =>
  Option.rec .bad (fun r => kset r.1 h (.map r.2) fun h' => k undef n h') (hmapCells P (absH n h) t m x y)
theorem kMapUp_ok (sz : Nat) (t : TypeId) (m x y : Operand) : KOk P sz (.mapUpdate t m x y) (kMapUp P t m x y) ∧ KOk P sz (.insert t m x y) (kMapUp P t m x y) := by
  constructor <;>
  · intro fr n h k hk
    unfold kMapUp at hk ⊢
    obtain ⟨a, h1, h2⟩ := kev_ok (sz := sz) _ hk
    rw [h2] at hk ⊢
    obtain ⟨b, h3, h4⟩ := kev_ok (sz := sz) _ hk
    rw [h4] at hk ⊢
    obtain ⟨c, h5, h6⟩ := kev_ok (sz := sz) _ hk
    rw [h6] at hk ⊢
    cases hr : hmapCells P (absH n h) t a b c with
    | none => rw [hr] at hk; exact absurd rfl hk
    | some r =>
      rw [hr] at hk
      obtain ⟨h', h7, h8⟩ := kset_ok (n := n) hk
      refine ⟨undef, n, h', ?_, h8⟩
      simp only [hop, h1, h3, h5, Option.bind_some, hmapCells_ok hr, Option.map_some]
      rw [h7]

/-- len. -/
noncomputable def klenV (v : Value) (k : Value → KX) (s : KX) : KX := match v with | .slice _ n _ => k (.int .i64 (.ofNat n)) | _ => s
noncomputable def klenS (v : Value) (k : Value → KX) (s : KX) : KX := match v with | .string b => forceNat b.data.toList.length fun z => k (.int .i64 (.ofNat z)) | _ => s
noncomputable def klen (P : Program) (t : TypeId) : Nat → Tr HObj → Value → (Value → KX) → KX :=
  match P.underlying t with
  | some .string => fun _ _ v k => klenS v k .bad
  | some (.slice _) => fun _ _ v k => klenV v k .bad
  | _ => fun n h v k => kslow (hlen P (absH n h) t v) k
theorem klen_ok (t : TypeId) (n : Nat) (h : Tr HObj) (v : Value) : Thru (klen P t n h v) fun u => hlen P (absH n h) t v = some u := by
  generalize hg : klen P t = g
  unfold klen at hg
  split at hg <;> subst hg
  · rename_i ht
    intro k hk
    dsimp only at hk ⊢
    unfold klenS at hk ⊢
    split at hk
    · rename_i b
      refine ⟨_, ?_, forceNat_eq _ _⟩
      simp only [hlen, ht]
      rw [Array.length_toList, ByteArray.size_data]; rfl
    · exact absurd rfl hk
  · rename_i ht
    intro k hk
    dsimp only at hk ⊢
    unfold klenV at hk ⊢
    split at hk
    · exact ⟨_, by simp only [hlen, ht]; rfl, rfl⟩
    · exact absurd rfl hk
  · exact fun k hk => kslow_ok _ k hk
end Go.HL
