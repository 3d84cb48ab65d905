/-
  A high level over the model, part 1: a heap of blocks with names of its own, the relation of its values and its blocks to a world's, and how each step of a heap is met by one of a world. Nothing here speaks of any program.
-/
import Derived.WalkKit
namespace Go.HL
open Go.RowKit

/-- A block: cells, that may be written or not; or a map's entries, in the order in which they came. -/
inductive HObj where
  | cells (cs : List Value) (rw : Bool)
  | map (es : List (Value × Value))

structure HHeap where
  next : Nat
  get : Nat → Option HObj

def HHeap.set (H : HHeap) (b : Nat) (o : HObj) : HHeap := { H with get := fun x => if x = b then some o else H.get x }
def HHeap.kill (H : HHeap) (b : Nat) : HHeap := { H with get := fun x => if x = b then none else H.get x }
def HHeap.push (H : HHeap) (o : HObj) : HHeap := { next := H.next + 1, get := fun x => if x = H.next then some o else H.get x }

@[simp] theorem HHeap.set_next (H : HHeap) (b : Nat) (o : HObj) : (H.set b o).next = H.next := rfl
@[simp] theorem HHeap.kill_next (H : HHeap) (b : Nat) : (H.kill b).next = H.next := rfl
@[simp] theorem HHeap.push_next (H : HHeap) (o : HObj) : (H.push o).next = H.next + 1 := rfl
theorem HHeap.get_set (H : HHeap) (b c : Nat) (o : HObj) : (H.set b o).get c = if c = b then some o else H.get c := rfl
theorem HHeap.get_kill (H : HHeap) (b c : Nat) : (H.kill b).get c = if c = b then none else H.get c := rfl
theorem HHeap.get_push (H : HHeap) (c : Nat) (o : HObj) : (H.push o).get c = if c = H.next then some o else H.get c := rfl

/-- Where a block lies: the real block, from where on, how many cells there are (some may be spare). -/
structure Place where
  g : Nat
  d : Nat
  ext : Nat

abbrev Mu := Nat → Option Place

def Sub (μ ν : Mu) : Prop := ∀ b p, μ b = some p → ν b = some p
theorem Sub.refl (μ : Mu) : Sub μ μ := fun _ _ h => h
theorem Sub.trans {a b c : Mu} (h : Sub a b) (k : Sub b c) : Sub a c := fun _ _ x => k _ _ (h _ _ x)

mutual
/-- A value of the high level, and a real one. -/
inductive VRel (μ : Mu) : Value → Value → Prop where
  | bool (b : Bool) : VRel μ (.bool b) (.bool b)
  | int (k : IntKind) (n : Int) : VRel μ (.int k n) (.int k n)
  | string (s : ByteArray) : VRel μ (.string s) (.string s)
  | nilPtr : VRel μ (.pointer none) (.pointer none)
  | ptr (b o : Nat) (p : Place) (h : μ b = some p) : VRel μ (.pointer (some ⟨b, o, none⟩)) (.pointer (some ⟨p.g, p.d + o, none⟩))
  | nilSlice : VRel μ (.slice none 0 0) (.slice none 0 0)
  | slice (b o len cap : Nat) (p : Place) (h : μ b = some p) (hl : len ≤ cap) : VRel μ (.slice (some ⟨b, o, none⟩) len cap) (.slice (some ⟨p.g, p.d + o, none⟩) len cap)
  | grown (b o len cap cap' e : Nat) (p : Place) (h : μ b = some p) (hl : len ≤ cap) (hc : cap ≤ cap') (hx : o + cap' * e ≤ p.ext) :
      VRel μ (.slice (some ⟨b, o, some (2 * e)⟩) len cap) (.slice (some ⟨p.g, p.d + o, none⟩) len cap')
  | hole (b o o2 cap' e : Nat) (p : Place) (h : μ b = some p) (hx : o2 + cap' * e ≤ p.ext) : VRel μ (.slice (some ⟨b, o, some (2 * e + 1)⟩) 0 0) (.slice (some ⟨p.g, p.d + o2, none⟩) 0 cap')
  | void (b o : Nat) (a : Addr) : VRel μ (.slice (some ⟨b, o, none⟩) 0 0) (.slice (some a) 0 0)
  | nilMap : VRel μ (.map none) (.map none)
  | map (b : Nat) (p : Place) (h : μ b = some p) : VRel μ (.map (some b)) (.map (some p.g))
  | func (f : Fn) (cs cs' : List Value) (h : VRels μ cs cs') : VRel μ (.func f #[] cs.toArray) (.func f #[] cs'.toArray)
  | nilFunc : VRel μ .nilFunc .nilFunc
  | iface (t : TypeId) (v v' : Value) (h : VRel μ v v') : VRel μ (.iface t v) (.iface t v')
  | nilIface : VRel μ .nilIface .nilIface
  | agg (cs cs' : List Value) (h : VRels μ cs cs') : VRel μ (.agg cs.toArray) (.agg cs'.toArray)
  | tuple (cs cs' : List Value) (h : VRels μ cs cs') : VRel μ (.tuple cs.toArray) (.tuple cs'.toArray)
inductive VRels (μ : Mu) : List Value → List Value → Prop where
  | nil : VRels μ [] []
  | cons (v v' : Value) (vs vs' : List Value) (h : VRel μ v v') (hs : VRels μ vs vs') : VRels μ (v :: vs) (v' :: vs')
end

mutual
theorem VRel.mono {μ ν : Mu} (hs : Sub μ ν) : ∀ {v v' : Value}, VRel μ v v' → VRel ν v v'
  | _, _, .bool b => .bool b
  | _, _, .int k n => .int k n
  | _, _, .string s => .string s
  | _, _, .nilPtr => .nilPtr
  | _, _, .ptr b o p h => .ptr b o p (hs _ _ h)
  | _, _, .nilSlice => .nilSlice
  | _, _, .slice b o len cap p h hl => .slice b o len cap p (hs _ _ h) hl
  | _, _, .grown b o len cap cap' e p h hl hc hx => .grown b o len cap cap' e p (hs _ _ h) hl hc hx
  | _, _, .hole b o o2 cap' e p h hx => .hole b o o2 cap' e p (hs _ _ h) hx
  | _, _, .void b o a => .void b o a
  | _, _, .nilMap => .nilMap
  | _, _, .map b p h => .map b p (hs _ _ h)
  | _, _, .func f cs cs' h => .func f cs cs' (VRels.mono hs h)
  | _, _, .nilFunc => .nilFunc
  | _, _, .iface t v v' h => .iface t v v' (VRel.mono hs h)
  | _, _, .nilIface => .nilIface
  | _, _, .agg cs cs' h => .agg cs cs' (VRels.mono hs h)
  | _, _, .tuple cs cs' h => .tuple cs cs' (VRels.mono hs h)
theorem VRels.mono {μ ν : Mu} (hs : Sub μ ν) : ∀ {v v' : List Value}, VRels μ v v' → VRels ν v v'
  | _, _, .nil => .nil
  | _, _, .cons v v' vs vs' h k => .cons v v' vs vs' (VRel.mono hs h) (VRels.mono hs k)
end

mutual
theorem VRel.oneCell {μ : Mu} : ∀ {v v' : Value}, VRel μ v v' → v'.oneCell' = v.oneCell'
  | _, _, .bool _ | _, _, .int _ _ | _, _, .string _ | _, _, .nilPtr | _, _, .ptr _ _ _ _ | _, _, .nilSlice | _, _, .slice _ _ _ _ _ _ _ | _, _, .grown _ _ _ _ _ _ _ _ _ _ _ | _, _, .hole _ _ _ _ _ _ _ _ | _, _, .void _ _ _ | _, _, .nilMap
  | _, _, .map _ _ _ | _, _, .func _ _ _ _ | _, _, .nilFunc | _, _, .iface _ _ _ _ | _, _, .nilIface | _, _, .agg _ _ _ | _, _, .tuple _ _ _ => rfl
end

theorem VRels.length {μ : Mu} : ∀ {vs vs' : List Value}, VRels μ vs vs' → vs'.length = vs.length
  | _, _, .nil => rfl
  | _, _, .cons _ _ _ _ _ h => by simp [VRels.length h]

theorem VRels.get {μ : Mu} : ∀ {vs vs' : List Value}, VRels μ vs vs' → ∀ (i : Nat) (v : Value), vs[i]? = some v → ∃ v', vs'[i]? = some v' ∧ VRel μ v v'
  | _, _, .nil, i, v, h => by simp at h
  | _, _, .cons u u' us us' h hs, 0, v, e => by simp at e; subst e; exact ⟨u', by simp, h⟩
  | _, _, .cons u u' us us' h hs, i + 1, v, e => by simp at e; simpa using VRels.get hs i v e

theorem VRels.get' {μ : Mu} : ∀ {vs vs' : List Value}, VRels μ vs vs' → ∀ (i : Nat) (v' : Value), vs'[i]? = some v' → ∃ v, vs[i]? = some v ∧ VRel μ v v'
  | _, _, .nil, i, v, h => by simp at h
  | _, _, .cons u u' us us' h hs, 0, v, e => by simp at e; subst e; exact ⟨u, by simp, h⟩
  | _, _, .cons u u' us us' h hs, i + 1, v, e => by simp at e; simpa using VRels.get' hs i v e

theorem VRels.of_get {μ : Mu} : ∀ {vs vs' : List Value}, vs'.length = vs.length → (∀ (i : Nat) (v v' : Value), vs[i]? = some v → vs'[i]? = some v' → VRel μ v v') → VRels μ vs vs'
  | [], [], _, _ => .nil
  | [], _ :: _, h, _ => by simp at h
  | _ :: _, [], h, _ => by simp at h
  | v :: vs, v' :: vs', h, k => .cons v v' vs vs' (k 0 v v' rfl rfl) (VRels.of_get (by simpa using h) (fun i u u' e e' => k (i + 1) u u' (by simpa using e) (by simpa using e')))

theorem VRels.append {μ : Mu} : ∀ {a a' b b' : List Value}, VRels μ a a' → VRels μ b b' → VRels μ (a ++ b) (a' ++ b')
  | _, _, _, _, .nil, h => h
  | _, _, _, _, .cons _ _ _ _ h hs, k => .cons _ _ _ _ h (VRels.append hs k)

theorem VRels.take {μ : Mu} {a a' : List Value} (h : VRels μ a a') (n : Nat) : VRels μ (a.take n) (a'.take n) := by
  refine .of_get (by simp [h.length]) fun i v v' e e' => ?_
  rw [List.getElem?_take] at e e'
  split at e
  · rename_i hi; rw [if_pos hi] at e'
    obtain ⟨u, hu, hr⟩ := h.get i v e
    rw [hu] at e'; cases e'; exact hr
  · cases e

theorem VRels.drop {μ : Mu} {a a' : List Value} (h : VRels μ a a') (n : Nat) : VRels μ (a.drop n) (a'.drop n) := by
  refine .of_get (by simp [h.length]) fun i v v' e e' => ?_
  rw [List.getElem?_drop] at e e'
  obtain ⟨u, hu, hr⟩ := h.get _ v e
  rw [hu] at e'; cases e'; exact hr

/-- A value without an address. -/
def flat1 : Value → Bool
  | .bool _ | .int _ _ | .string _ | .pointer none | .slice none 0 0 | .map none | .nilFunc | .nilIface => true
  | _ => false
def flat : Value → Bool
  | .agg cs => cs.toList.all flat1
  | .tuple cs => cs.toList.all flat1
  | v => flat1 v

theorem VRel.of_flat1 {μ : Mu} {v : Value} (h : flat1 v = true) : VRel μ v v := by
  cases v with
  | bool b => exact .bool b
  | int k n => exact .int k n
  | string s => exact .string s
  | pointer a => cases a with
    | none => exact .nilPtr
    | some a => simp [flat1] at h
  | slice a l c =>
    cases a with
    | none => cases l <;> cases c <;> simp [flat1] at h; exact .nilSlice
    | some a => simp [flat1] at h
  | map r => cases r with
    | none => exact .nilMap
    | some r => simp [flat1] at h
  | nilFunc => exact .nilFunc
  | nilIface => exact .nilIface
  | _ => simp [flat1] at h

theorem VRels.of_flat1 {μ : Mu} : ∀ {vs : List Value}, vs.all flat1 = true → VRels μ vs vs
  | [], _ => .nil
  | v :: vs, h => by simp at h; exact .cons _ _ _ _ (.of_flat1 h.1) (.of_flat1 (by simpa using h.2))

theorem VRels.of_flat1' {μ : Mu} : ∀ {vs : List Value}, (∀ v ∈ vs, v = .tuple #[]) → VRels μ vs vs
  | [], _ => .nil
  | v :: vs, h => by
    have := h v (by simp)
    subst this
    exact .cons _ _ _ _ (.tuple [] [] .nil) (VRels.of_flat1' (fun u hu => h u (by simp [hu])))

theorem VRel.of_flat {μ : Mu} {v : Value} (h : flat v = true) : VRel μ v v := by
  cases v with
  | agg cs => exact .agg cs.toList cs.toList (.of_flat1 h)
  | tuple cs => exact .tuple cs.toList cs.toList (.of_flat1 h)
  | _ => exact .of_flat1 h

theorem VRel.flat1_eq {μ : Mu} {v v' : Value} (h : VRel μ v v') (hf : flat1 v = true) : v' = v := by
  cases h <;> simp_all [flat1]

theorem VRels.flat1_eq {μ : Mu} : ∀ {v v' : List Value}, VRels μ v v' → v.all flat1 = true → v' = v
  | _, _, .nil, _ => rfl
  | _, _, .cons _ _ _ _ h hs, hf => by
    simp at hf
    rw [h.flat1_eq hf.1, hs.flat1_eq (by simpa using hf.2)]

theorem VRel.flat_eq {μ : Mu} {v v' : Value} (h : VRel μ v v') (hf : flat v = true) : v' = v := by
  cases h with
  | agg cs cs' h => simp [flat] at hf; rw [h.flat1_eq (by simpa using hf)]
  | tuple cs cs' h => simp [flat] at hf; rw [h.flat1_eq (by simpa using hf)]
  | _ => simp_all [flat, flat1]

theorem VRel.cells {μ : Mu} {v v' : Value} (h : VRel μ v v') : VRels μ v.cells.toList v'.cells.toList := by
  cases h with
  | agg cs cs' h => simpa [Value.cells] using h
  | _ => first
    | exact .cons _ _ _ _ (by first | exact .bool _ | exact .int _ _ | exact .string _ | exact .nilPtr | exact .nilSlice | exact .nilMap | exact .nilFunc | exact .nilIface) .nil
    | exact .cons _ _ _ _ (by first | exact .ptr _ _ _ ‹_› | exact .slice _ _ _ _ _ ‹_› ‹_› | exact .grown _ _ _ _ _ _ _ ‹_› ‹_› ‹_› ‹_› | exact .hole _ _ _ _ _ _ ‹_› ‹_› | exact .void _ _ _ | exact .map _ _ ‹_› | exact .func _ _ _ ‹_› | exact .iface _ _ _ ‹_› | exact .tuple _ _ ‹_›) .nil

/-- A map's entries. -/
inductive ERels (μ : Mu) : List (Value × Value) → List MapEntry → Prop where
  | nil : ERels μ [] []
  | cons (k v : Value) (e : MapEntry) (es : List (Value × Value)) (es' : List MapEntry) (hk : e.key = k) (hf : flat1 k = true) (hv : VRel μ v e.val) (hs : ERels μ es es') : ERels μ ((k, v) :: es) (e :: es')

theorem ERels.mono {μ ν : Mu} (hs : Sub μ ν) : ∀ {a b}, ERels μ a b → ERels ν a b
  | _, _, .nil => .nil
  | _, _, .cons k v e es es' hk hf hv h => .cons k v e es es' hk hf (hv.mono hs) (h.mono hs)

/-- May a block be written? -/
def HObj.wr : HObj → Bool
  | .cells _ rw => rw
  | .map _ => true

/-- The high level's heap, and a world: what is read alone lies below B; all else at or behind it, each in a real block of its own. -/
structure Rel (B : Nat) (μ : Mu) (H : HHeap) (w : World) : Prop where
  hB : B ≤ w.heap.size
  bound : ∀ b p, μ b = some p → b < H.next
  real : ∀ b p, μ b = some p → p.g < w.heap.size
  cells : ∀ b cs rw, H.get b = some (.cells cs rw) → ∃ p, μ b = some p ∧ cs.length ≤ p.ext ∧
    (∀ (i : Nat) (v : Value), cs[i]? = some v → v.oneCell' = true ∧ ∃ v', w.cell? ⟨p.g, p.d + i, none⟩ = some v' ∧ VRel μ v v') ∧
    (rw = true → B ≤ p.g ∧ ∀ i, i < p.ext → (∃ v', w.cell? ⟨p.g, p.d + i, none⟩ = some v') ∧ w.frozen? ⟨p.g, p.d + i, none⟩ = false) ∧
    (rw = false → p.g < B)
  maps : ∀ b es, H.get b = some (.map es) → ∃ p clock es', μ b = some p ∧ B ≤ p.g ∧ w.heap[p.g]? = some (.map es' clock) ∧ ERels μ es es'.toList
  apart : ∀ b b' o o' p p', b ≠ b' → H.get b = some o → H.get b' = some o' → o.wr = true → o'.wr = true → μ b = some p → μ b' = some p' → p.g ≠ p'.g

/-- A real block that a heap may write. -/
def Owned (μ : Mu) (H : HHeap) (g : Nat) : Prop := ∃ b o p, H.get b = some o ∧ o.wr = true ∧ μ b = some p ∧ p.g = g

/-- A step of both: what is not the heap's own stays as it is. -/
structure Step (B : Nat) (μ : Mu) (H : HHeap) (w : World) (μ' : Mu) (H' : HHeap) (w' : World) : Prop where
  sub : Sub μ μ'
  rel : Rel B μ' H' w'
  os : w'.os = w.os
  tape : w'.tape = w.tape
  output : w'.output = w.output
  size : w.heap.size ≤ w'.heap.size
  frame : ∀ g, g < w.heap.size → ¬ Owned μ H g → w'.heap[g]? = w.heap[g]?
  own : ∀ g, Owned μ' H' g → Owned μ H g ∨ w.heap.size ≤ g
  next : H.next ≤ H'.next
  dead : ∀ b, b < H.next → H.get b = none → H'.get b = none
  old : ∀ b, b < H.next → μ' b = μ b

theorem Rel.owned_ge {B : Nat} {μ : Mu} {H : HHeap} {w : World} (h : Rel B μ H w) {g : Nat} (ho : Owned μ H g) : B ≤ g := by
  obtain ⟨b, o, p, hb, hw, hp, rfl⟩ := ho
  cases o with
  | cells cs rw =>
    obtain ⟨q, hq, _, _, hc, _⟩ := h.cells b cs rw hb
    rw [hp] at hq; cases hq
    exact (hc hw).1
  | map es =>
    obtain ⟨q, _, _, hq, hc, _⟩ := h.maps b es hb
    rw [hp] at hq; cases hq
    exact hc

theorem Step.below {B : Nat} {μ μ' : Mu} {H H' : HHeap} {w w' : World} (h : Rel B μ H w) (s : Step B μ H w μ' H' w') : Below B w w' :=
  ⟨s.os, s.tape, s.output, s.size, fun k hk => s.frame k (by have := h.hB; omega) (fun ho => by have := h.owned_ge ho; omega)⟩

theorem Step.refl {B : Nat} {μ : Mu} {H : HHeap} {w : World} (h : Rel B μ H w) : Step B μ H w μ H w :=
  ⟨Sub.refl μ, h, rfl, rfl, rfl, Nat.le_refl _, fun _ _ _ => rfl, fun _ h => .inl h, Nat.le_refl _, fun _ _ h => h, fun _ _ => rfl⟩

theorem Step.trans {B : Nat} {μ μ1 μ2 : Mu} {H H1 H2 : HHeap} {w w1 w2 : World} (a : Step B μ H w μ1 H1 w1) (b : Step B μ1 H1 w1 μ2 H2 w2) : Step B μ H w μ2 H2 w2 :=
  ⟨a.sub.trans b.sub, b.rel, b.os.trans a.os, b.tape.trans a.tape, b.output.trans a.output, Nat.le_trans a.size b.size,
    fun g hg ho => (b.frame g (Nat.lt_of_lt_of_le hg a.size) (fun ho1 => (a.own g ho1).elim ho (fun hh => by omega))).trans (a.frame g hg ho),
    fun g ho => (b.own g ho).elim (fun h1 => a.own g h1) (fun h1 => .inr (Nat.le_trans a.size h1)),
    Nat.le_trans a.next b.next, fun x hx hn => b.dead x (Nat.lt_of_lt_of_le hx a.next) (a.dead x hx hn),
    fun x hx => (b.old x (Nat.lt_of_lt_of_le hx a.next)).trans (a.old x hx)⟩

theorem Rel.drew {B : Nat} {μ : Mu} {H : HHeap} {w : World} (h : Rel B μ H w) : Rel B μ H w.drew :=
  ⟨h.hB, h.bound, h.real, h.cells, h.maps, h.apart⟩

theorem Step.drew {B : Nat} {μ : Mu} {H : HHeap} {w : World} (h : Rel B μ H w) : Step B μ H w μ H w.drew :=
  ⟨Sub.refl μ, h.drew, rfl, rfl, rfl, Nat.le_refl _, fun _ _ _ => rfl, fun _ h => .inl h, Nat.le_refl _, fun _ _ h => h, fun _ _ => rfl⟩

/-- Less is known of a heap. -/
theorem Rel.less {B : Nat} {μ : Mu} {H H' : HHeap} {w : World} (h : Rel B μ H w) (hn : H.next ≤ H'.next) (key : ∀ c o, H'.get c = some o → H.get c = some o) : Rel B μ H' w :=
  ⟨h.hB, fun b p hp => Nat.lt_of_lt_of_le (h.bound b p hp) hn, h.real, fun c cs rw e => h.cells c cs rw (key _ _ e), fun c es e => h.maps c es (key _ _ e),
    fun c c' o o' p p' hne e e' => h.apart c c' o o' p p' hne (key _ _ e) (key _ _ e')⟩

theorem Rel.kill {B : Nat} {μ : Mu} {H : HHeap} {w : World} (h : Rel B μ H w) (b : Nat) : Rel B μ (H.kill b) w :=
  h.less (Nat.le_refl _) fun c o e => by rw [HHeap.get_kill] at e; split at e <;> simp_all

theorem Step.kill {B : Nat} {μ : Mu} {H : HHeap} {w : World} (h : Rel B μ H w) (b : Nat) : Step B μ H w μ (H.kill b) w := by
  refine ⟨Sub.refl μ, h.kill b, rfl, rfl, rfl, Nat.le_refl _, fun _ _ _ => rfl, fun g ho => .inl ?_, Nat.le_refl _, fun c _ hc => ?_, fun _ _ => rfl⟩
  · obtain ⟨c, o, p, hc, hw, hp, hg⟩ := ho
    rw [HHeap.get_kill] at hc
    split at hc
    · cases hc
    · exact ⟨c, o, p, hc, hw, hp, hg⟩
  · rw [HHeap.get_kill]; split
    · rfl
    · exact hc

/-- A new name for a place. -/
def Mu.add (μ : Mu) (b : Nat) (p : Place) : Mu := fun x => if x = b then some p else μ x

theorem Mu.sub_add {μ : Mu} {b : Nat} {p : Place} (h : μ b = none) : Sub μ (μ.add b p) := fun c q hc => by
  unfold Mu.add; split
  · subst_vars; rw [h] at hc; cases hc
  · exact hc

theorem Rel.fresh {B : Nat} {μ : Mu} {H : HHeap} {w : World} (h : Rel B μ H w) : μ H.next = none := by
  cases e : μ H.next with
  | none => rfl
  | some p => exact absurd (h.bound _ _ e) (Nat.lt_irrefl _)

theorem Rel.live {B : Nat} {μ : Mu} {H : HHeap} {w : World} (h : Rel B μ H w) {b : Nat} {o : HObj} (e : H.get b = some o) : ∃ p, μ b = some p := by
  cases o with
  | cells cs rw => obtain ⟨p, hp, _⟩ := h.cells b cs rw e; exact ⟨p, hp⟩
  | map es => obtain ⟨p, _, _, hp, _⟩ := h.maps b es e; exact ⟨p, hp⟩

/-- A new block: the world's side is given, what else there is stays. -/
theorem Rel.allocAny {B : Nat} {μ : Mu} {H : HHeap} {w : World} (h : Rel B μ H w) (o : HObj) (ob : Obj) (ext : Nat) (hwr : o.wr = true)
    (hcells : ∀ cs rw, o = .cells cs rw → cs.length ≤ ext ∧
      (∀ (i : Nat) (v : Value), cs[i]? = some v → v.oneCell' = true ∧ ∃ v', (w.alloc ob).cell? ⟨w.heap.size, 0 + i, none⟩ = some v' ∧ VRel (μ.add H.next ⟨w.heap.size, 0, ext⟩) v v') ∧
      (∀ i, i < ext → (∃ v', (w.alloc ob).cell? ⟨w.heap.size, 0 + i, none⟩ = some v') ∧ (w.alloc ob).frozen? ⟨w.heap.size, 0 + i, none⟩ = false))
    (hmap : ∀ es, o = .map es → ∃ clock es', ob = .map es' clock ∧ ERels (μ.add H.next ⟨w.heap.size, 0, ext⟩) es es'.toList) :
    Step B μ H w (μ.add H.next ⟨w.heap.size, 0, ext⟩) (H.push o) (w.alloc ob) := by
  have hsub : Sub μ (μ.add H.next ⟨w.heap.size, 0, ext⟩) := Mu.sub_add h.fresh
  have mu_old : ∀ b p, b ≠ H.next → (μ.add H.next ⟨w.heap.size, 0, ext⟩) b = some p → μ b = some p := fun b p hn hp => by
    simpa [Mu.add, hn] using hp
  have get_old : ∀ b x, b ≠ H.next → (H.push o).get b = some x → H.get b = some x := fun b x hn e => by
    simpa [HHeap.get_push, hn] using e
  refine ⟨hsub, ⟨by simp; have := h.hB; omega, ?_, ?_, ?_, ?_, ?_⟩, rfl, rfl, rfl, by simp, fun g hg _ => Below.heap_alloc w ob g hg, ?_, by simp, ?_, ?_⟩
  · intro b p hp
    by_cases hn : b = H.next
    · subst hn; simp
    · have := h.bound b p (mu_old b p hn hp); simp; omega
  · intro b p hp
    by_cases hn : b = H.next
    · subst hn; simp [Mu.add] at hp; subst hp; simp
    · have := h.real b p (mu_old b p hn hp); simp; omega
  · intro b cs' rw' hg
    by_cases hn : b = H.next
    · subst hn
      simp [HHeap.get_push] at hg
      obtain ⟨c1, c2, c3⟩ := hcells cs' rw' hg
      refine ⟨⟨w.heap.size, 0, ext⟩, by simp [Mu.add], c1, c2, fun _ => ⟨h.hB, c3⟩, fun hr => ?_⟩
      rw [hg] at hwr; simp [HObj.wr, hr] at hwr
    · obtain ⟨p, hp, hl, hc, hw, hr'⟩ := h.cells b cs' rw' (get_old _ _ hn hg)
      have hlt := h.real b p hp
      refine ⟨p, hsub _ _ hp, hl, ?_, ?_, hr'⟩
      · intro i v hv
        obtain ⟨ho, v', hv', hrel⟩ := hc i v hv
        exact ⟨ho, v', by rw [World.cell?_alloc_lt _ _ _ hlt]; exact hv', hrel.mono hsub⟩
      · intro hrw
        refine ⟨(hw hrw).1, fun i hi => ?_⟩
        rw [World.cell?_alloc_lt _ _ _ hlt, World.frozen?_alloc_old _ _ _ (Nat.ne_of_lt hlt)]
        exact (hw hrw).2 i hi
  · intro b es hg
    by_cases hn : b = H.next
    · subst hn
      simp [HHeap.get_push] at hg
      obtain ⟨clock, es', e1, e2⟩ := hmap es hg
      subst e1
      exact ⟨⟨w.heap.size, 0, ext⟩, clock, es', by simp [Mu.add], h.hB, heap_alloc_new w _, e2⟩
    · obtain ⟨p, clock, es', hp, hB, hh, he⟩ := h.maps b es (get_old _ _ hn hg)
      exact ⟨p, clock, es', hsub _ _ hp, hB, by rw [Below.heap_alloc _ _ _ (h.real b p hp)]; exact hh, he.mono hsub⟩
  · intro b b' x x' p p' hne hg hg' hx hx' hp hp'
    by_cases hn : b = H.next
    · have hn' : b' ≠ H.next := fun e => hne (hn.trans e.symm)
      have := h.real b' p' (mu_old _ _ hn' hp')
      subst hn; simp [Mu.add] at hp; subst hp; simp; omega
    · by_cases hn' : b' = H.next
      · have := h.real b p (mu_old _ _ hn hp)
        subst hn'; simp [Mu.add] at hp'; subst hp'; simp; omega
      · exact h.apart b b' x x' p p' hne (get_old _ _ hn hg) (get_old _ _ hn' hg') hx hx' (mu_old _ _ hn hp) (mu_old _ _ hn' hp')
  · rintro g ⟨b, x, p, hb, hx, hp, rfl⟩
    by_cases hn : b = H.next
    · subst hn; simp [Mu.add] at hp; subst hp; exact .inr (Nat.le_refl _)
    · exact .inl ⟨b, x, p, get_old _ _ hn hb, hx, mu_old _ _ hn hp, rfl⟩
  · intro b hb hn
    have : b ≠ H.next := by omega
    simpa [HHeap.get_push, this] using hn
  · intro b hb
    have : b ≠ H.next := by omega
    simp [Mu.add, this]

/-- A new block of cells, some of which may be spare. -/
theorem Rel.allocCells {B : Nat} {μ : Mu} {H : HHeap} {w : World} (h : Rel B μ H w) (cs : List Value) (arr : Array Value) (e : TypeId)
    (hr : VRels μ cs (arr.toList.take cs.length)) (h1 : ∀ v ∈ cs, v.oneCell' = true) :
    Step B μ H w (μ.add H.next ⟨w.heap.size, 0, arr.size⟩) (H.push (.cells cs true)) (w.alloc (.cells arr e)) := by
  have hsub : Sub μ (μ.add H.next ⟨w.heap.size, 0, arr.size⟩) := Mu.sub_add h.fresh
  have hlen : cs.length ≤ arr.size := by have := hr.length; simp at this; omega
  refine h.allocAny _ _ _ rfl (fun cs' rw' hc => ?_) (fun es he => by cases he)
  cases hc
  refine ⟨hlen, fun i v hv => ⟨h1 v (List.mem_of_getElem? hv), ?_⟩, fun i hi => ⟨⟨arr[i]'hi, by simp [hi]⟩, by simp⟩⟩
  obtain ⟨v', hv', hrel⟩ := hr.get i v hv
  refine ⟨v', ?_, hrel.mono hsub⟩
  rw [List.getElem?_take] at hv'
  split at hv'
  · simp only [Nat.zero_add, World.cell?_alloc_new]; simpa using hv'
  · cases hv'

/-- A new map. -/
theorem Rel.allocMap {B : Nat} {μ : Mu} {H : HHeap} {w : World} (h : Rel B μ H w) :
    Step B μ H w (μ.add H.next ⟨w.heap.size, 0, 0⟩) (H.push (.map [])) (w.alloc (.map #[] 0)) :=
  h.allocAny _ _ _ rfl (fun cs' rw' hc => by cases hc) (fun es he => by cases he; exact ⟨0, #[], rfl, .nil⟩)

end Go.HL
