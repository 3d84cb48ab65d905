/-
  A way to run code on given data inside the kernel, part 1: rows by paths, a heap and a frame made of them.
-/
import Derived.Test.YtakjligkeplohaaGreatDoorH15
namespace Go.HL
open Go.RowKit

inductive Tr (α : Type) where
  | nil
  | node (l : Tr α) (v : Option α) (r : Tr α)

/-- The way to a number's place; and back. -/
noncomputable def pathF (d : Nat) : Nat → List Bool :=
  Nat.rec (motive := fun _ => Nat → List Bool) (fun _ => []) (fun _ ih n => Bool.rec (Bool.rec (List.cons false (ih (Nat.sub (Nat.div n 2) 1))) (List.cons true (ih (Nat.div n 2))) (Nat.beq (Nat.mod n 2) 1)) [] (Nat.beq n 0)) d
noncomputable def path (n : Nat) : List Bool := pathF 20 n
noncomputable def unpath (p : List Bool) : Nat := List.rec (motive := fun _ => Nat) 0 (fun b _ ih => Bool.rec (Nat.add (Nat.mul 2 ih) 2) (Nat.add (Nat.mul 2 ih) 1) b) p
/-- A number that has a place. -/
noncomputable def placed (n : Nat) : Bool := Nat.beq (unpath (path n)) n

noncomputable def Tr.walk {α : Type} (p : List Bool) : Tr α → Option α :=
  List.rec (motive := fun _ => Tr α → Option α) (fun t => Tr.rec (motive := fun _ => Option α) none (fun _ v _ _ _ => v) t)
    (fun b _ ih t => Tr.rec (motive := fun _ => Option α) none (fun l _ r _ _ => Bool.rec (ih r) (ih l) b) t) p

noncomputable def Tr.ins {α : Type} (x : Option α) (p : List Bool) : Tr α → Tr α :=
  List.rec (motive := fun _ => Tr α → Tr α)
    (fun t => Tr.rec (motive := fun _ => Tr α) (.node .nil x .nil) (fun l _ r _ _ => .node l x r) t)
    (fun b _ ih t => Tr.rec (motive := fun _ => Tr α)
      (Bool.rec (.node .nil none (ih .nil)) (.node (ih .nil) none .nil) b)
      (fun l v r _ _ => Bool.rec (.node l v (ih r)) (.node (ih l) v r) b) t) p

/-- The same, made at once. -/
noncomputable def Tr.insK {α β : Type} (x : Option α) (p : List Bool) : Tr α → (Tr α → β) → β :=
  List.rec (motive := fun _ => Tr α → (Tr α → β) → β)
    (fun t k => Tr.rec (motive := fun _ => β) (k (.node .nil x .nil)) (fun l _ r _ _ => k (.node l x r)) t)
    (fun b _ ih t k => Tr.rec (motive := fun _ => β)
      (Bool.rec (ih .nil (fun r' => k (.node .nil none r'))) (ih .nil (fun l' => k (.node l' none .nil))) b)
      (fun l v r _ _ => Bool.rec (ih r (fun r' => k (.node l v r'))) (ih l (fun l' => k (.node l' v r))) b) t) p

theorem Tr.insK_eq {α β : Type} (x : Option α) : ∀ (p : List Bool) (t : Tr α) (k : Tr α → β), Tr.insK x p t k = k (Tr.ins x p t)
  | [], .nil, _ => rfl
  | [], .node _ _ _, _ => rfl
  | true :: p, .nil, k => Tr.insK_eq x p .nil (fun l' => k (.node l' none .nil))
  | false :: p, .nil, k => Tr.insK_eq x p .nil (fun r' => k (.node .nil none r'))
  | true :: p, .node l v r, k => Tr.insK_eq x p l (fun l' => k (.node l' v r))
  | false :: p, .node l v r, k => Tr.insK_eq x p r (fun r' => k (.node l v r'))

theorem Tr.walk_nil {α : Type} (p : List Bool) : Tr.walk p (.nil : Tr α) = none := by cases p <;> rfl
theorem Tr.walk_ins {α : Type} (x : Option α) : ∀ (p q : List Bool) (t : Tr α), Tr.walk q (Tr.ins x p t) = if q = p then x else Tr.walk q t
  | [], [], .nil => rfl
  | [], [], .node _ _ _ => rfl
  | [], b :: q, .nil => by
    rw [if_neg (by simp), Tr.walk_nil]
    cases b <;> exact Tr.walk_nil q
  | [], b :: q, .node _ _ _ => by rw [if_neg (by simp)]; rfl
  | b :: p, [], .nil => by rw [if_neg (by simp)]; cases b <;> rfl
  | b :: p, [], .node _ _ _ => by rw [if_neg (by simp)]; cases b <;> rfl
  | true :: p, true :: q, .nil => by
    have := Tr.walk_ins x p q .nil
    simp only [List.cons.injEq, true_and]
    rw [Tr.walk_nil] at this
    rw [Tr.walk_nil]
    exact this
  | false :: p, false :: q, .nil => by
    have := Tr.walk_ins x p q .nil
    simp only [List.cons.injEq, true_and]
    rw [Tr.walk_nil] at this
    rw [Tr.walk_nil]
    exact this
  | true :: p, false :: q, .nil => by
    rw [if_neg (by simp), Tr.walk_nil]; exact Tr.walk_nil q
  | false :: p, true :: q, .nil => by
    rw [if_neg (by simp), Tr.walk_nil]; exact Tr.walk_nil q
  | true :: p, true :: q, .node l v r => by
    have := Tr.walk_ins x p q l
    simp only [List.cons.injEq, true_and]
    exact this
  | false :: p, false :: q, .node l v r => by
    have := Tr.walk_ins x p q r
    simp only [List.cons.injEq, true_and]
    exact this
  | true :: p, false :: q, .node l v r => by rw [if_neg (by simp)]; rfl
  | false :: p, true :: q, .node l v r => by rw [if_neg (by simp)]; rfl

noncomputable def Tr.at {α : Type} (t : Tr α) (n : Nat) : Option α := Bool.rec none (t.walk (path n)) (placed n)
theorem Tr.at_nil {α : Type} (n : Nat) : (Tr.nil : Tr α).at n = none := by
  unfold Tr.at; cases placed n
  · rfl
  · exact Tr.walk_nil _
theorem path_inj {a b : Nat} (ha : placed a = true) (hb : placed b = true) (h : path a = path b) : a = b := by
  unfold placed at ha hb
  have h1 := Nat.eq_of_beq_eq_true ha
  have h2 := Nat.eq_of_beq_eq_true hb
  rw [← h1, ← h2, h]
theorem Tr.at_ins {α : Type} {t : Tr α} {n : Nat} (hn : placed n = true) (x : Option α) (m : Nat) : (t.ins x (path n)).at m = if m = n then x else t.at m := by
  unfold Tr.at
  cases hm : placed m with
  | false =>
    by_cases h : m = n
    · subst h; rw [hn] at hm; cases hm
    · rw [if_neg h]
  | true =>
    show Tr.walk (path m) (t.ins x (path n)) = _
    rw [Tr.walk_ins]
    by_cases h : m = n
    · subst h; rw [if_pos rfl, if_pos rfl]
    · rw [if_neg h, if_neg (fun e => h (path_inj hm hn e))]

/-- A heap, and a frame, made of rows. -/
noncomputable def absH (n : Nat) (h : Tr HObj) : HHeap := ⟨n, h.at⟩
noncomputable def absF (sz : Nat) (fr : Tr Value) : HFrame := ⟨sz, fr.at⟩

theorem absH_set {n : Nat} {h : Tr HObj} {b : Nat} (hb : placed b = true) (o : HObj) : (absH n h).set b o = absH n (h.ins (some o) (path b)) := by
  unfold HHeap.set absH
  congr 1
  funext x
  rw [Tr.at_ins hb]
theorem absH_kill {n : Nat} {h : Tr HObj} {b : Nat} (hb : placed b = true) : (absH n h).kill b = absH n (h.ins none (path b)) := by
  unfold HHeap.kill absH
  congr 1
  funext x
  rw [Tr.at_ins hb]
theorem absH_push {n : Nat} {h : Tr HObj} (hb : placed n = true) (o : HObj) : (absH n h).push o = absH (Nat.succ n) (h.ins (some o) (path n)) := by
  unfold HHeap.push absH
  congr 1
  funext x
  rw [Tr.at_ins hb]
theorem absF_put {sz : Nat} {fr : Tr Value} {d : Nat} (hd : placed d = true) (hs : d < sz) (v : Value) : hput (absF sz fr) (some d) v = absF sz (fr.ins (some v) (path d)) := by
  have e : hput (absF sz fr) (some d) v = if d < sz then ⟨sz, fun t => if t = d then some v else fr.at t⟩ else absF sz fr := rfl
  rw [e, if_pos hs]
  unfold absF
  congr 1
  funext x
  rw [Tr.at_ins hd]

/-- A number made ready. -/
noncomputable def forceNat {β : Type} (n : Nat) (k : Nat → β) : β := Nat.rec (motive := fun _ => β) (k 0) (fun m _ => k (Nat.succ m)) n
theorem forceNat_eq {β : Type} (n : Nat) (k : Nat → β) : forceNat n k = k n := by cases n <;> rfl
noncomputable def forceInt {β : Type} (n : Int) (k : Int → β) : β := Int.rec (motive := fun _ => β) (fun m => forceNat m fun m => k (.ofNat m)) (fun m => forceNat m fun m => k (.negSucc m)) n
theorem forceInt_eq {β : Type} (n : Int) (k : Int → β) : forceInt n k = k n := by
  cases n with
  | ofNat m => exact forceNat_eq m fun m => k (.ofNat m)
  | negSucc m => exact forceNat_eq m fun m => k (.negSucc m)
/-- A value made ready. -/
noncomputable def forceV {β : Type} (v : Value) (k : Value → β) : β :=
  match v with
  | .bool b => Bool.rec (k (.bool false)) (k (.bool true)) b
  | .int ik n => forceInt n fun n => k (.int ik n)
  | .pointer (some ⟨b, o, s⟩) => forceNat b fun b => forceNat o fun o => k (.pointer (some ⟨b, o, s⟩))
  | .slice (some ⟨b, o, s⟩) l c => forceNat b fun b => forceNat o fun o => forceNat l fun l => forceNat c fun c => k (.slice (some ⟨b, o, s⟩) l c)
  | v => k v
theorem forceV_eq {β : Type} (v : Value) (k : Value → β) : forceV v k = k v := by
  unfold forceV
  split
  · rename_i b; cases b <;> rfl
  · rw [forceInt_eq]
  · rw [forceNat_eq, forceNat_eq]
  · rw [forceNat_eq, forceNat_eq, forceNat_eq, forceNat_eq]
  · rfl

/-- What a call comes to; what code comes to. -/
inductive KR where
  | bad
  | ok (v : Value) (n : Nat) (h : Tr HObj)
inductive KX where
  | bad
  | ok (e : Exit) (fr : Tr Value) (n : Nat) (h : Tr HObj)

/-- Something that goes on with one thing at most. -/
def Thru {α : Type} (g : (α → KX) → KX) (Q : α → Prop) : Prop := ∀ k, g k ≠ .bad → ∃ a, Q a ∧ g k = k a

/-- Boxes: what is in one that does not change is worked out once. -/
inductive Bx (α : Type) where
  | mk (a : α)
noncomputable def Bx.on {α β : Type} (b : Bx α) (f : α → β) : β := Bx.rec f b
theorem Bx.on_mk {α β : Type} (a : α) (f : α → β) : (Bx.mk a).on f = f a := rfl

/-- A way, made a reader. -/
abbrev TGet (α : Type) := Tr α → (α → KX) → KX
noncomputable def tgStop {α : Type} : TGet α := fun t k => Tr.rec (motive := fun _ => KX) .bad (fun _ v _ _ _ => Option.rec .bad k v) t
noncomputable def tgL {α : Type} (g : TGet α) : TGet α := fun t k => Tr.rec (motive := fun _ => KX) .bad (fun l _ _ _ _ => g l k) t
noncomputable def tgR {α : Type} (g : TGet α) : TGet α := fun t k => Tr.rec (motive := fun _ => KX) .bad (fun _ _ r _ _ => g r k) t
noncomputable def tget {α β : Type} (p : List Bool) : (TGet α → β) → β :=
  List.rec (motive := fun _ => (TGet α → β) → β) (fun k => k tgStop) (fun b _ ih k => Bool.rec (ih fun g => k (tgR g)) (ih fun g => k (tgL g)) b) p
noncomputable def tgetOf {α : Type} (p : List Bool) : TGet α := fun t k => Option.rec .bad k (t.walk p)
theorem tgStop_eq {α : Type} : (tgStop : TGet α) = tgetOf [] := by
  funext t k; cases t <;> rfl
theorem tgL_eq {α : Type} (p : List Bool) : (tgL (tgetOf p) : TGet α) = tgetOf (true :: p) := by
  funext t k; cases t <;> rfl
theorem tgR_eq {α : Type} (p : List Bool) : (tgR (tgetOf p) : TGet α) = tgetOf (false :: p) := by
  funext t k; cases t <;> rfl
theorem tget_eq {α β : Type} : ∀ (p : List Bool) (k : TGet α → β), tget p k = k (tgetOf p)
  | [], k => congrArg k tgStop_eq
  | true :: p, k => by
    show tget p (fun g => k (tgL g)) = _
    rw [tget_eq p, tgL_eq]
  | false :: p, k => by
    show tget p (fun g => k (tgR g)) = _
    rw [tget_eq p, tgR_eq]
/-- A way, made a writer. -/
abbrev TPut (α : Type) := Option α → Tr α → (Tr α → KX) → KX
noncomputable def tpStop {α : Type} : TPut α := fun x t k => Tr.rec (motive := fun _ => KX) (k (.node .nil x .nil)) (fun l _ r _ _ => k (.node l x r)) t
noncomputable def tpL {α : Type} (g : TPut α) : TPut α := fun x t k => Tr.rec (motive := fun _ => KX) (g x .nil fun l' => k (.node l' none .nil)) (fun l v r _ _ => g x l fun l' => k (.node l' v r)) t
noncomputable def tpR {α : Type} (g : TPut α) : TPut α := fun x t k => Tr.rec (motive := fun _ => KX) (g x .nil fun r' => k (.node .nil none r')) (fun l v r _ _ => g x r fun r' => k (.node l v r')) t
noncomputable def tput {α β : Type} (p : List Bool) : (TPut α → β) → β :=
  List.rec (motive := fun _ => (TPut α → β) → β) (fun k => k tpStop) (fun b _ ih k => Bool.rec (ih fun g => k (tpR g)) (ih fun g => k (tpL g)) b) p
noncomputable def tputOf {α : Type} (p : List Bool) : TPut α := fun x t k => k (Tr.ins x p t)
theorem tpStop_eq {α : Type} : (tpStop : TPut α) = tputOf [] := by
  funext x t k; cases t <;> rfl
theorem tpL_eq {α : Type} (p : List Bool) : (tpL (tputOf p) : TPut α) = tputOf (true :: p) := by
  funext x t k; cases t <;> rfl
theorem tpR_eq {α : Type} (p : List Bool) : (tpR (tputOf p) : TPut α) = tputOf (false :: p) := by
  funext x t k; cases t <;> rfl
theorem tput_eq {α β : Type} : ∀ (p : List Bool) (k : TPut α → β), tput p k = k (tputOf p)
  | [], k => congrArg k tpStop_eq
  | true :: p, k => by
    show tput p (fun g => k (tpL g)) = _
    rw [tput_eq p, tpL_eq]
  | false :: p, k => by
    show tput p (fun g => k (tpR g)) = _
    rw [tput_eq p, tpR_eq]
def tgBad {α : Type} : TGet α := fun _ _ => .bad
def tpBad {α : Type} : TPut α := fun _ _ _ => .bad
/-- The place of a number, read and written. -/
noncomputable def tgB (α : Type) (b : Nat) : Bx (TGet α) := Bool.rec (.mk tgBad) (tget (path b) fun g => .mk g) (placed b)
noncomputable def tpB (α : Type) (b : Nat) : Bx (TPut α) := Bool.rec (.mk tpBad) (tput (path b) fun g => .mk g) (placed b)
theorem tgB_eq {α : Type} (b : Nat) (t : Tr α) (k : α → KX) : (tgB α b).on (fun g => g t k) = Bool.rec .bad (Option.rec .bad k (t.walk (path b))) (placed b) := by
  unfold tgB
  rw [tget_eq]
  cases placed b <;> rfl
theorem tpB_eq {α : Type} (b : Nat) (x : Option α) (t : Tr α) (k : Tr α → KX) : (tpB α b).on (fun g => g x t k) = Bool.rec .bad (k (Tr.ins x (path b) t)) (placed b) := by
  unfold tpB
  rw [tput_eq]
  cases placed b <;> rfl
end Go.HL
