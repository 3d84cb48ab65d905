/-
  Joined: H0, H1, H2, H3, H4, H5, H6, H7.
-/
import Derived.WalkKit
import Derived.Lib.ItoaNum
set_option linter.unusedVariables false
set_option linter.unusedSimpArgs false
/-
  A high level over the model, part 0: what lies in the library's own variables (tables, numbers), where a run reads them.
-/
namespace Go.HL
/-- Which variables are known to hold which rows: a block's number, and its cells. -/
def htabs : List (Nat × Array Value) := [(1, (Lib.pow10Tab.map fun z => Value.int .u64 z).toArray)]
/-- Which variables are known to hold some number. -/
def hints : List Nat := [0]
/-- They hold them, and lie below B. -/
structure TabsOk (B : Nat) (w : World) : Prop where
  row : ∀ t, t ∈ htabs → t.1 < B ∧ ∃ e fz, w.heap[t.1]? = some (.cells t.2 e fz)
  num : ∀ g, g ∈ hints → g < B ∧ ∃ m, w.cell? ⟨g, 0, none⟩ = some (.int .i64 m)
theorem TabsOk.keep {B B' : Nat} {w w' : World} (h : TabsOk B w) (hB : B ≤ B') (hk : ∀ g, g < B → w'.heap[g]? = w.heap[g]?) : TabsOk B' w' :=
  ⟨fun t ht => let ⟨h1, e, fz, h2⟩ := h.row t ht; ⟨Nat.lt_of_lt_of_le h1 hB, e, fz, (hk _ h1).trans h2⟩,
   fun g hg => let ⟨h1, m, h2⟩ := h.num g hg; ⟨Nat.lt_of_lt_of_le h1 hB, m, by unfold World.cell? at h2 ⊢; rw [hk _ h1]; exact h2⟩⟩
end Go.HL
/-
  A high level over the model, part 1: a heap of blocks with names of its own, the relation of its values and its blocks to a world's, and how each step of a heap is met by one of a world. Nothing here speaks of any program.
-/
namespace Go.HL
open Go.RowKit

/-- A block: cells, that may be written or not; or a map's entries, in the order in which they came. -/
inductive HObj where
  | cells (cs : List Value) (rw : Bool)
  | map (es : List (Value × Value))
  | iter (s : ByteArray) (pos : Nat)
  | tag (e : TypeId) (n : Nat) (b : Nat)

structure HHeap where
  next : Nat
  get : Nat → Option HObj

def HHeap.set (H : HHeap) (b : Nat) (o : HObj) : HHeap := { H with get := fun x => if x = b then some o else H.get x }
def HHeap.kill (H : HHeap) (b : Nat) : HHeap := { H with get := fun x => if x = b then none else H.get x }
def HHeap.push (H : HHeap) (o : HObj) : HHeap := { next := H.next + 1, get := fun x => if x = H.next then some o else H.get x }

@[simp] theorem HHeap.set_next (H : HHeap) (b : Nat) (o : HObj) : (H.set b o).next = H.next := rfl
@[simp] theorem HHeap.kill_next (H : HHeap) (b : Nat) : (H.kill b).next = H.next := rfl
@[simp] theorem HHeap.push_next (H : HHeap) (o : HObj) : (H.push o).next = H.next + 1 := rfl
theorem HHeap.get_set (H : HHeap) (b c : Nat) (o : HObj) : (H.set b o).get c = if c = b then some o else H.get c := rfl
theorem HHeap.get_kill (H : HHeap) (b c : Nat) : (H.kill b).get c = if c = b then none else H.get c := rfl
theorem HHeap.get_push (H : HHeap) (c : Nat) (o : HObj) : (H.push o).get c = if c = H.next then some o else H.get c := rfl

/-- Where a block lies: the real block, from where on, how many cells there are (some may be spare). -/
structure Place where
  g : Nat
  d : Nat
  ext : Nat

abbrev Mu := Nat → Option Place

def Sub (μ ν : Mu) : Prop := ∀ b p, μ b = some p → ν b = some p
theorem Sub.refl (μ : Mu) : Sub μ μ := fun _ _ h => h
theorem Sub.trans {a b c : Mu} (h : Sub a b) (k : Sub b c) : Sub a c := fun _ _ x => k _ _ (h _ _ x)

mutual
/-- A value of the high level, and a real one. -/
inductive VRel (μ : Mu) : Value → Value → Prop where
  | bool (b : Bool) : VRel μ (.bool b) (.bool b)
  | int (k : IntKind) (n : Int) : VRel μ (.int k n) (.int k n)
  | string (s : ByteArray) : VRel μ (.string s) (.string s)
  | nilPtr : VRel μ (.pointer none) (.pointer none)
  | ptr (b o : Nat) (p : Place) (h : μ b = some p) : VRel μ (.pointer (some ⟨b, o, none⟩)) (.pointer (some ⟨p.g, p.d + o, none⟩))
  | nilSlice : VRel μ (.slice none 0 0) (.slice none 0 0)
  | slice (b o len cap : Nat) (p : Place) (h : μ b = some p) (hl : len ≤ cap) : VRel μ (.slice (some ⟨b, o, none⟩) len cap) (.slice (some ⟨p.g, p.d + o, none⟩) len cap)
  | grown (b o len cap cap' e : Nat) (p : Place) (h : μ b = some p) (hl : len ≤ cap) (hc : cap ≤ cap') (hx : o + cap' * e ≤ p.ext) :
      VRel μ (.slice (some ⟨b, o, some (2 * e)⟩) len cap) (.slice (some ⟨p.g, p.d + o, none⟩) len cap')
  | hole (b o o2 cap' e : Nat) (p : Place) (h : μ b = some p) (hx : o2 + cap' * e ≤ p.ext) : VRel μ (.slice (some ⟨b, o, some (2 * e + 1)⟩) 0 0) (.slice (some ⟨p.g, p.d + o2, none⟩) 0 cap')
  | void (b o : Nat) (a : Addr) : VRel μ (.slice (some ⟨b, o, none⟩) 0 0) (.slice (some a) 0 0)
  | nilMap : VRel μ (.map none) (.map none)
  | map (b : Nat) (p : Place) (h : μ b = some p) : VRel μ (.map (some b)) (.map (some p.g))
  | func (f : Fn) (fs fs' cs cs' : List Value) (h0 : VRels μ fs fs') (h : VRels μ cs cs') : VRel μ (.func f fs.toArray cs.toArray) (.func f fs'.toArray cs'.toArray)
  | nilFunc : VRel μ .nilFunc .nilFunc
  | iface (t : TypeId) (v v' : Value) (h : VRel μ v v') : VRel μ (.iface t v) (.iface t v')
  | nilIface : VRel μ .nilIface .nilIface
  | agg (cs cs' : List Value) (h : VRels μ cs cs') : VRel μ (.agg cs.toArray) (.agg cs'.toArray)
  | tuple (cs cs' : List Value) (h : VRels μ cs cs') : VRel μ (.tuple cs.toArray) (.tuple cs'.toArray)
inductive VRels (μ : Mu) : List Value → List Value → Prop where
  | nil : VRels μ [] []
  | cons (v v' : Value) (vs vs' : List Value) (h : VRel μ v v') (hs : VRels μ vs vs') : VRels μ (v :: vs) (v' :: vs')
end

mutual
theorem VRel.mono {μ ν : Mu} (hs : Sub μ ν) : ∀ {v v' : Value}, VRel μ v v' → VRel ν v v'
  | _, _, .bool b => .bool b
  | _, _, .int k n => .int k n
  | _, _, .string s => .string s
  | _, _, .nilPtr => .nilPtr
  | _, _, .ptr b o p h => .ptr b o p (hs _ _ h)
  | _, _, .nilSlice => .nilSlice
  | _, _, .slice b o len cap p h hl => .slice b o len cap p (hs _ _ h) hl
  | _, _, .grown b o len cap cap' e p h hl hc hx => .grown b o len cap cap' e p (hs _ _ h) hl hc hx
  | _, _, .hole b o o2 cap' e p h hx => .hole b o o2 cap' e p (hs _ _ h) hx
  | _, _, .void b o a => .void b o a
  | _, _, .nilMap => .nilMap
  | _, _, .map b p h => .map b p (hs _ _ h)
  | _, _, .func f fs fs' cs cs' h0 h => .func f fs fs' cs cs' (VRels.mono hs h0) (VRels.mono hs h)
  | _, _, .nilFunc => .nilFunc
  | _, _, .iface t v v' h => .iface t v v' (VRel.mono hs h)
  | _, _, .nilIface => .nilIface
  | _, _, .agg cs cs' h => .agg cs cs' (VRels.mono hs h)
  | _, _, .tuple cs cs' h => .tuple cs cs' (VRels.mono hs h)
theorem VRels.mono {μ ν : Mu} (hs : Sub μ ν) : ∀ {v v' : List Value}, VRels μ v v' → VRels ν v v'
  | _, _, .nil => .nil
  | _, _, .cons v v' vs vs' h k => .cons v v' vs vs' (VRel.mono hs h) (VRels.mono hs k)
end

mutual
theorem VRel.oneCell {μ : Mu} : ∀ {v v' : Value}, VRel μ v v' → v'.oneCell' = v.oneCell'
  | _, _, .bool _ | _, _, .int _ _ | _, _, .string _ | _, _, .nilPtr | _, _, .ptr _ _ _ _ | _, _, .nilSlice | _, _, .slice _ _ _ _ _ _ _ | _, _, .grown _ _ _ _ _ _ _ _ _ _ _ | _, _, .hole _ _ _ _ _ _ _ _ | _, _, .void _ _ _ | _, _, .nilMap
  | _, _, .map _ _ _ | _, _, .func _ _ _ _ _ _ _ | _, _, .nilFunc | _, _, .iface _ _ _ _ | _, _, .nilIface | _, _, .agg _ _ _ | _, _, .tuple _ _ _ => rfl
end

theorem VRels.length {μ : Mu} : ∀ {vs vs' : List Value}, VRels μ vs vs' → vs'.length = vs.length
  | _, _, .nil => rfl
  | _, _, .cons _ _ _ _ _ h => by simp [VRels.length h]

theorem VRels.get {μ : Mu} : ∀ {vs vs' : List Value}, VRels μ vs vs' → ∀ (i : Nat) (v : Value), vs[i]? = some v → ∃ v', vs'[i]? = some v' ∧ VRel μ v v'
  | _, _, .nil, i, v, h => by simp at h
  | _, _, .cons u u' us us' h hs, 0, v, e => by simp at e; subst e; exact ⟨u', by simp, h⟩
  | _, _, .cons u u' us us' h hs, i + 1, v, e => by simp at e; simpa using VRels.get hs i v e

theorem VRels.get' {μ : Mu} : ∀ {vs vs' : List Value}, VRels μ vs vs' → ∀ (i : Nat) (v' : Value), vs'[i]? = some v' → ∃ v, vs[i]? = some v ∧ VRel μ v v'
  | _, _, .nil, i, v, h => by simp at h
  | _, _, .cons u u' us us' h hs, 0, v, e => by simp at e; subst e; exact ⟨u, by simp, h⟩
  | _, _, .cons u u' us us' h hs, i + 1, v, e => by simp at e; simpa using VRels.get' hs i v e

theorem VRels.of_get {μ : Mu} : ∀ {vs vs' : List Value}, vs'.length = vs.length → (∀ (i : Nat) (v v' : Value), vs[i]? = some v → vs'[i]? = some v' → VRel μ v v') → VRels μ vs vs'
  | [], [], _, _ => .nil
  | [], _ :: _, h, _ => by simp at h
  | _ :: _, [], h, _ => by simp at h
  | v :: vs, v' :: vs', h, k => .cons v v' vs vs' (k 0 v v' rfl rfl) (VRels.of_get (by simpa using h) (fun i u u' e e' => k (i + 1) u u' (by simpa using e) (by simpa using e')))

theorem VRels.append {μ : Mu} : ∀ {a a' b b' : List Value}, VRels μ a a' → VRels μ b b' → VRels μ (a ++ b) (a' ++ b')
  | _, _, _, _, .nil, h => h
  | _, _, _, _, .cons _ _ _ _ h hs, k => .cons _ _ _ _ h (VRels.append hs k)

theorem VRels.take {μ : Mu} {a a' : List Value} (h : VRels μ a a') (n : Nat) : VRels μ (a.take n) (a'.take n) := by
  refine .of_get (by simp [h.length]) fun i v v' e e' => ?_
  rw [List.getElem?_take] at e e'
  split at e
  · rename_i hi; rw [if_pos hi] at e'
    obtain ⟨u, hu, hr⟩ := h.get i v e
    rw [hu] at e'; cases e'; exact hr
  · cases e

theorem VRels.drop {μ : Mu} {a a' : List Value} (h : VRels μ a a') (n : Nat) : VRels μ (a.drop n) (a'.drop n) := by
  refine .of_get (by simp [h.length]) fun i v v' e e' => ?_
  rw [List.getElem?_drop] at e e'
  obtain ⟨u, hu, hr⟩ := h.get _ v e
  rw [hu] at e'; cases e'; exact hr

/-- A value without an address. -/
def flat1 : Value → Bool
  | .bool _ | .int _ _ | .string _ | .pointer none | .slice none 0 0 | .map none | .nilFunc | .nilIface => true
  | _ => false
def flat : Value → Bool
  | .agg cs => cs.toList.all flat1
  | .tuple cs => cs.toList.all flat1
  | v => flat1 v

theorem VRel.of_flat1 {μ : Mu} {v : Value} (h : flat1 v = true) : VRel μ v v := by
  cases v with
  | bool b => exact .bool b
  | int k n => exact .int k n
  | string s => exact .string s
  | pointer a => cases a with
    | none => exact .nilPtr
    | some a => simp [flat1] at h
  | slice a l c =>
    cases a with
    | none => cases l <;> cases c <;> simp [flat1] at h; exact .nilSlice
    | some a => simp [flat1] at h
  | map r => cases r with
    | none => exact .nilMap
    | some r => simp [flat1] at h
  | nilFunc => exact .nilFunc
  | nilIface => exact .nilIface
  | _ => simp [flat1] at h

theorem VRels.of_flat1 {μ : Mu} : ∀ {vs : List Value}, vs.all flat1 = true → VRels μ vs vs
  | [], _ => .nil
  | v :: vs, h => by simp at h; exact .cons _ _ _ _ (.of_flat1 h.1) (.of_flat1 (by simpa using h.2))

theorem VRel.of_flat {μ : Mu} {v : Value} (h : flat v = true) : VRel μ v v := by
  cases v with
  | agg cs => exact .agg cs.toList cs.toList (.of_flat1 h)
  | tuple cs => exact .tuple cs.toList cs.toList (.of_flat1 h)
  | _ => exact .of_flat1 h

theorem VRel.flat1_eq {μ : Mu} {v v' : Value} (h : VRel μ v v') (hf : flat1 v = true) : v' = v := by
  cases h <;> simp_all [flat1]

theorem VRels.flat1_eq {μ : Mu} : ∀ {v v' : List Value}, VRels μ v v' → v.all flat1 = true → v' = v
  | _, _, .nil, _ => rfl
  | _, _, .cons _ _ _ _ h hs, hf => by
    simp at hf
    rw [h.flat1_eq hf.1, hs.flat1_eq (by simpa using hf.2)]

theorem VRel.flat_eq {μ : Mu} {v v' : Value} (h : VRel μ v v') (hf : flat v = true) : v' = v := by
  cases h with
  | agg cs cs' h => simp [flat] at hf; rw [h.flat1_eq (by simpa using hf)]
  | tuple cs cs' h => simp [flat] at hf; rw [h.flat1_eq (by simpa using hf)]
  | _ => simp_all [flat, flat1]

theorem VRel.cells {μ : Mu} {v v' : Value} (h : VRel μ v v') : VRels μ v.cells.toList v'.cells.toList := by
  cases h with
  | agg cs cs' h => simpa [Value.cells] using h
  | _ => first
    | exact .cons _ _ _ _ (by first | exact .bool _ | exact .int _ _ | exact .string _ | exact .nilPtr | exact .nilSlice | exact .nilMap | exact .nilFunc | exact .nilIface) .nil
    | exact .cons _ _ _ _ (by first | exact .ptr _ _ _ ‹_› | exact .slice _ _ _ _ _ ‹_› ‹_› | exact .grown _ _ _ _ _ _ _ ‹_› ‹_› ‹_› ‹_› | exact .hole _ _ _ _ _ _ ‹_› ‹_› | exact .void _ _ _ | exact .map _ _ ‹_› | exact .func _ _ _ _ _ ‹_› ‹_› | exact .iface _ _ _ ‹_› | exact .tuple _ _ ‹_›) .nil

/-- A map's entries. -/
inductive ERels (μ : Mu) : List (Value × Value) → List MapEntry → Prop where
  | nil : ERels μ [] []
  | cons (k v : Value) (e : MapEntry) (es : List (Value × Value)) (es' : List MapEntry) (hk : e.key = k) (hf : flat1 k = true) (hv : VRel μ v e.val) (hs : ERels μ es es') : ERels μ ((k, v) :: es) (e :: es')

theorem ERels.mono {μ ν : Mu} (hs : Sub μ ν) : ∀ {a b}, ERels μ a b → ERels ν a b
  | _, _, .nil => .nil
  | _, _, .cons k v e es es' hk hf hv h => .cons k v e es es' hk hf (hv.mono hs) (h.mono hs)

/-- May a block be written? -/
def HObj.wr : HObj → Bool
  | .cells _ rw => rw
  | .map _ => true
  | .iter _ _ => true
  | .tag _ _ _ => false

/-- The high level's heap, and a world: what is read alone lies below B; all else at or behind it, each in a real block of its own. -/
structure Rel (B : Nat) (μ : Mu) (H : HHeap) (w : World) : Prop where
  hB : B ≤ w.heap.size
  bound : ∀ b p, μ b = some p → b < H.next
  real : ∀ b p, μ b = some p → p.g < w.heap.size
  cells : ∀ b cs rw, H.get b = some (.cells cs rw) → ∃ p, μ b = some p ∧ cs.length ≤ p.ext ∧
    (∀ (i : Nat) (v : Value), cs[i]? = some v → v.oneCell' = true ∧ ∃ v', w.cell? ⟨p.g, p.d + i, none⟩ = some v' ∧ VRel μ v v') ∧
    (rw = true → B ≤ p.g ∧ ∀ i, i < p.ext → (∃ v', w.cell? ⟨p.g, p.d + i, none⟩ = some v') ∧ w.frozen? ⟨p.g, p.d + i, none⟩ = false) ∧
    (rw = false → p.g < B)
  maps : ∀ b es, H.get b = some (.map es) → ∃ p clock es', μ b = some p ∧ B ≤ p.g ∧ w.heap[p.g]? = some (.map es' clock) ∧ ERels μ es es'.toList
  apart : ∀ b b' o o' p p', b ≠ b' → H.get b = some o → H.get b' = some o' → o.wr = true → o'.wr = true → μ b = some p → μ b' = some p' → p.g ≠ p'.g
  tabs : TabsOk B w
  iters : ∀ b s pos, H.get b = some (.iter s pos) → ∃ p, μ b = some p ∧ p.d = 0 ∧ B ≤ p.g ∧ w.heap[p.g]? = some (.stringIter s pos)
  tags : ∀ x e n b, H.get x = some (.tag e n b) → ∃ p arr fz, μ x = some p ∧ μ b = some p ∧ p.d = 0 ∧ w.heap[p.g]? = some (.cells arr e fz) ∧ (n ≠ 0 → arr.size = n)

/-- A real block that a heap may write. -/
def Owned (μ : Mu) (H : HHeap) (g : Nat) : Prop := ∃ b o p, H.get b = some o ∧ o.wr = true ∧ μ b = some p ∧ p.g = g

/-- A step of both: what is not the heap's own stays as it is. -/
structure Step (B : Nat) (μ : Mu) (H : HHeap) (w : World) (μ' : Mu) (H' : HHeap) (w' : World) : Prop where
  sub : Sub μ μ'
  rel : Rel B μ' H' w'
  os : w'.os = w.os
  tape : w'.tape = w.tape
  output : w'.output = w.output
  size : w.heap.size ≤ w'.heap.size
  frame : ∀ g, g < w.heap.size → ¬ Owned μ H g → w'.heap[g]? = w.heap[g]?
  own : ∀ g, Owned μ' H' g → Owned μ H g ∨ w.heap.size ≤ g
  next : H.next ≤ H'.next
  dead : ∀ b, b < H.next → H.get b = none → H'.get b = none
  old : ∀ b, b < H.next → μ' b = μ b

theorem Rel.owned_ge {B : Nat} {μ : Mu} {H : HHeap} {w : World} (h : Rel B μ H w) {g : Nat} (ho : Owned μ H g) : B ≤ g := by
  obtain ⟨b, o, p, hb, hw, hp, rfl⟩ := ho
  cases o with
  | cells cs rw =>
    obtain ⟨q, hq, _, _, hc, _⟩ := h.cells b cs rw hb
    rw [hp] at hq; cases hq
    exact (hc hw).1
  | map es =>
    obtain ⟨q, _, _, hq, hc, _⟩ := h.maps b es hb
    rw [hp] at hq; cases hq
    exact hc
  | iter s pos =>
    obtain ⟨q, hq, _, hc, _⟩ := h.iters b s pos hb
    rw [hp] at hq; cases hq
    exact hc
  | tag e n b' => cases hw

theorem Step.below {B : Nat} {μ μ' : Mu} {H H' : HHeap} {w w' : World} (h : Rel B μ H w) (s : Step B μ H w μ' H' w') : Below B w w' :=
  ⟨s.os, s.tape, s.output, s.size, fun k hk => s.frame k (by have := h.hB; omega) (fun ho => by have := h.owned_ge ho; omega)⟩

theorem Step.refl {B : Nat} {μ : Mu} {H : HHeap} {w : World} (h : Rel B μ H w) : Step B μ H w μ H w :=
  ⟨Sub.refl μ, h, rfl, rfl, rfl, Nat.le_refl _, fun _ _ _ => rfl, fun _ h => .inl h, Nat.le_refl _, fun _ _ h => h, fun _ _ => rfl⟩

theorem Step.trans {B : Nat} {μ μ1 μ2 : Mu} {H H1 H2 : HHeap} {w w1 w2 : World} (a : Step B μ H w μ1 H1 w1) (b : Step B μ1 H1 w1 μ2 H2 w2) : Step B μ H w μ2 H2 w2 :=
  ⟨a.sub.trans b.sub, b.rel, b.os.trans a.os, b.tape.trans a.tape, b.output.trans a.output, Nat.le_trans a.size b.size,
    fun g hg ho => (b.frame g (Nat.lt_of_lt_of_le hg a.size) (fun ho1 => (a.own g ho1).elim ho (fun hh => by omega))).trans (a.frame g hg ho),
    fun g ho => (b.own g ho).elim (fun h1 => a.own g h1) (fun h1 => .inr (Nat.le_trans a.size h1)),
    Nat.le_trans a.next b.next, fun x hx hn => b.dead x (Nat.lt_of_lt_of_le hx a.next) (a.dead x hx hn),
    fun x hx => (b.old x (Nat.lt_of_lt_of_le hx a.next)).trans (a.old x hx)⟩

theorem Rel.drew {B : Nat} {μ : Mu} {H : HHeap} {w : World} (h : Rel B μ H w) : Rel B μ H w.drew :=
  ⟨h.hB, h.bound, h.real, h.cells, h.maps, h.apart, h.tabs.keep (Nat.le_refl _) fun _ _ => rfl, h.iters, h.tags⟩

theorem Step.drew {B : Nat} {μ : Mu} {H : HHeap} {w : World} (h : Rel B μ H w) : Step B μ H w μ H w.drew :=
  ⟨Sub.refl μ, h.drew, rfl, rfl, rfl, Nat.le_refl _, fun _ _ _ => rfl, fun _ h => .inl h, Nat.le_refl _, fun _ _ h => h, fun _ _ => rfl⟩

/-- Less is known of a heap. -/
theorem Rel.less {B : Nat} {μ : Mu} {H H' : HHeap} {w : World} (h : Rel B μ H w) (hn : H.next ≤ H'.next) (key : ∀ c o, H'.get c = some o → H.get c = some o) : Rel B μ H' w :=
  ⟨h.hB, fun b p hp => Nat.lt_of_lt_of_le (h.bound b p hp) hn, h.real, fun c cs rw e => h.cells c cs rw (key _ _ e), fun c es e => h.maps c es (key _ _ e),
    fun c c' o o' p p' hne e e' => h.apart c c' o o' p p' hne (key _ _ e) (key _ _ e'), h.tabs, fun c s pos e => h.iters c s pos (key _ _ e), fun c t n b e => h.tags c t n b (key _ _ e)⟩

theorem Rel.kill {B : Nat} {μ : Mu} {H : HHeap} {w : World} (h : Rel B μ H w) (b : Nat) : Rel B μ (H.kill b) w :=
  h.less (Nat.le_refl _) fun c o e => by rw [HHeap.get_kill] at e; split at e <;> simp_all

theorem Step.kill {B : Nat} {μ : Mu} {H : HHeap} {w : World} (h : Rel B μ H w) (b : Nat) : Step B μ H w μ (H.kill b) w := by
  refine ⟨Sub.refl μ, h.kill b, rfl, rfl, rfl, Nat.le_refl _, fun _ _ _ => rfl, fun g ho => .inl ?_, Nat.le_refl _, fun c _ hc => ?_, fun _ _ => rfl⟩
  · obtain ⟨c, o, p, hc, hw, hp, hg⟩ := ho
    rw [HHeap.get_kill] at hc
    split at hc
    · cases hc
    · exact ⟨c, o, p, hc, hw, hp, hg⟩
  · rw [HHeap.get_kill]; split
    · rfl
    · exact hc

/-- A new name for a place. -/
def Mu.add (μ : Mu) (b : Nat) (p : Place) : Mu := fun x => if x = b then some p else μ x

theorem Mu.sub_add {μ : Mu} {b : Nat} {p : Place} (h : μ b = none) : Sub μ (μ.add b p) := fun c q hc => by
  unfold Mu.add; split
  · subst_vars; rw [h] at hc; cases hc
  · exact hc

theorem Rel.fresh {B : Nat} {μ : Mu} {H : HHeap} {w : World} (h : Rel B μ H w) : μ H.next = none := by
  cases e : μ H.next with
  | none => rfl
  | some p => exact absurd (h.bound _ _ e) (Nat.lt_irrefl _)

/-- A new block: the world's side is given, what else there is stays. -/
theorem Rel.allocAny {B : Nat} {μ : Mu} {H : HHeap} {w : World} (h : Rel B μ H w) (o : HObj) (ob : Obj) (ext : Nat) (hwr : o.wr = true)
    (hcells : ∀ cs rw, o = .cells cs rw → cs.length ≤ ext ∧
      (∀ (i : Nat) (v : Value), cs[i]? = some v → v.oneCell' = true ∧ ∃ v', (w.alloc ob).cell? ⟨w.heap.size, 0 + i, none⟩ = some v' ∧ VRel (μ.add H.next ⟨w.heap.size, 0, ext⟩) v v') ∧
      (∀ i, i < ext → (∃ v', (w.alloc ob).cell? ⟨w.heap.size, 0 + i, none⟩ = some v') ∧ (w.alloc ob).frozen? ⟨w.heap.size, 0 + i, none⟩ = false))
    (hmap : ∀ es, o = .map es → ∃ clock es', ob = .map es' clock ∧ ERels (μ.add H.next ⟨w.heap.size, 0, ext⟩) es es'.toList)
    (hiter : ∀ s pos, o = .iter s pos → ob = .stringIter s pos) :
    Step B μ H w (μ.add H.next ⟨w.heap.size, 0, ext⟩) (H.push o) (w.alloc ob) := by
  have hsub : Sub μ (μ.add H.next ⟨w.heap.size, 0, ext⟩) := Mu.sub_add h.fresh
  have mu_old : ∀ b p, b ≠ H.next → (μ.add H.next ⟨w.heap.size, 0, ext⟩) b = some p → μ b = some p := fun b p hn hp => by
    simpa [Mu.add, hn] using hp
  have get_old : ∀ b x, b ≠ H.next → (H.push o).get b = some x → H.get b = some x := fun b x hn e => by
    simpa [HHeap.get_push, hn] using e
  refine ⟨hsub, ⟨by simp; have := h.hB; omega, ?_, ?_, ?_, ?_, ?_, h.tabs.keep (Nat.le_refl _) fun g hg => Below.heap_alloc w ob g (Nat.lt_of_lt_of_le hg h.hB), ?_, ?_⟩, rfl, rfl, rfl, by simp, fun g hg _ => Below.heap_alloc w ob g hg, ?_, by simp, ?_, ?_⟩
  · intro b p hp
    by_cases hn : b = H.next
    · subst hn; simp
    · have := h.bound b p (mu_old b p hn hp); simp; omega
  · intro b p hp
    by_cases hn : b = H.next
    · subst hn; simp [Mu.add] at hp; subst hp; simp
    · have := h.real b p (mu_old b p hn hp); simp; omega
  · intro b cs' rw' hg
    by_cases hn : b = H.next
    · subst hn
      simp [HHeap.get_push] at hg
      obtain ⟨c1, c2, c3⟩ := hcells cs' rw' hg
      refine ⟨⟨w.heap.size, 0, ext⟩, by simp [Mu.add], c1, c2, fun _ => ⟨h.hB, c3⟩, fun hr => ?_⟩
      rw [hg] at hwr; simp [HObj.wr, hr] at hwr
    · obtain ⟨p, hp, hl, hc, hw, hr'⟩ := h.cells b cs' rw' (get_old _ _ hn hg)
      have hlt := h.real b p hp
      refine ⟨p, hsub _ _ hp, hl, ?_, ?_, hr'⟩
      · intro i v hv
        obtain ⟨ho, v', hv', hrel⟩ := hc i v hv
        exact ⟨ho, v', by rw [World.cell?_alloc_lt _ _ _ hlt]; exact hv', hrel.mono hsub⟩
      · intro hrw
        refine ⟨(hw hrw).1, fun i hi => ?_⟩
        rw [World.cell?_alloc_lt _ _ _ hlt, World.frozen?_alloc_old _ _ _ (Nat.ne_of_lt hlt)]
        exact (hw hrw).2 i hi
  · intro b es hg
    by_cases hn : b = H.next
    · subst hn
      simp [HHeap.get_push] at hg
      obtain ⟨clock, es', e1, e2⟩ := hmap es hg
      subst e1
      exact ⟨⟨w.heap.size, 0, ext⟩, clock, es', by simp [Mu.add], h.hB, heap_alloc_new w _, e2⟩
    · obtain ⟨p, clock, es', hp, hB, hh, he⟩ := h.maps b es (get_old _ _ hn hg)
      exact ⟨p, clock, es', hsub _ _ hp, hB, by rw [Below.heap_alloc _ _ _ (h.real b p hp)]; exact hh, he.mono hsub⟩
  · intro b b' x x' p p' hne hg hg' hx hx' hp hp'
    by_cases hn : b = H.next
    · have hn' : b' ≠ H.next := fun e => hne (hn.trans e.symm)
      have := h.real b' p' (mu_old _ _ hn' hp')
      subst hn; simp [Mu.add] at hp; subst hp; simp; omega
    · by_cases hn' : b' = H.next
      · have := h.real b p (mu_old _ _ hn hp)
        subst hn'; simp [Mu.add] at hp'; subst hp'; simp; omega
      · exact h.apart b b' x x' p p' hne (get_old _ _ hn hg) (get_old _ _ hn' hg') hx hx' (mu_old _ _ hn hp) (mu_old _ _ hn' hp')
  · intro b s pos hg
    by_cases hn : b = H.next
    · subst hn
      simp [HHeap.get_push] at hg
      have e1 := hiter s pos hg
      subst e1
      exact ⟨⟨w.heap.size, 0, ext⟩, by simp [Mu.add], rfl, h.hB, heap_alloc_new w _⟩
    · obtain ⟨p, hp, hd, hB, hh⟩ := h.iters b s pos (get_old _ _ hn hg)
      exact ⟨p, hsub _ _ hp, hd, hB, by rw [Below.heap_alloc _ _ _ (h.real b p hp)]; exact hh⟩
  · intro x e n b hg
    by_cases hn : x = H.next
    · subst hn
      simp [HHeap.get_push] at hg
      rw [hg] at hwr; cases hwr
    · obtain ⟨p, arr, fz, hp, hb, hd, hh, hs⟩ := h.tags x e n b (get_old _ _ hn hg)
      exact ⟨p, arr, fz, hsub _ _ hp, hsub _ _ hb, hd, by rw [Below.heap_alloc _ _ _ (h.real x p hp)]; exact hh, hs⟩
  · rintro g ⟨b, x, p, hb, hx, hp, rfl⟩
    by_cases hn : b = H.next
    · subst hn; simp [Mu.add] at hp; subst hp; exact .inr (Nat.le_refl _)
    · exact .inl ⟨b, x, p, get_old _ _ hn hb, hx, mu_old _ _ hn hp, rfl⟩
  · intro b hb hn
    have : b ≠ H.next := by omega
    simpa [HHeap.get_push, this] using hn
  · intro b hb
    have : b ≠ H.next := by omega
    simp [Mu.add, this]

/-- A new block of cells, some of which may be spare. -/
theorem Rel.allocCells {B : Nat} {μ : Mu} {H : HHeap} {w : World} (h : Rel B μ H w) (cs : List Value) (arr : Array Value) (e : TypeId)
    (hr : VRels μ cs (arr.toList.take cs.length)) (h1 : ∀ v ∈ cs, v.oneCell' = true) :
    Step B μ H w (μ.add H.next ⟨w.heap.size, 0, arr.size⟩) (H.push (.cells cs true)) (w.alloc (.cells arr e)) := by
  have hsub : Sub μ (μ.add H.next ⟨w.heap.size, 0, arr.size⟩) := Mu.sub_add h.fresh
  have hlen : cs.length ≤ arr.size := by have := hr.length; simp at this; omega
  refine h.allocAny _ _ _ rfl (fun cs' rw' hc => ?_) (fun es he => by cases he) (fun s pos he => by cases he)
  cases hc
  refine ⟨hlen, fun i v hv => ⟨h1 v (List.mem_of_getElem? hv), ?_⟩, fun i hi => ⟨⟨arr[i]'hi, by simp [hi]⟩, by simp⟩⟩
  obtain ⟨v', hv', hrel⟩ := hr.get i v hv
  refine ⟨v', ?_, hrel.mono hsub⟩
  rw [List.getElem?_take] at hv'
  split at hv'
  · simp only [Nat.zero_add, World.cell?_alloc_new]; simpa using hv'
  · cases hv'

/-- A new map. -/
theorem Rel.allocMap {B : Nat} {μ : Mu} {H : HHeap} {w : World} (h : Rel B μ H w) :
    Step B μ H w (μ.add H.next ⟨w.heap.size, 0, 0⟩) (H.push (.map [])) (w.alloc (.map #[] 0)) :=
  h.allocAny _ _ _ rfl (fun cs' rw' hc => by cases hc) (fun es he => by cases he; exact ⟨0, #[], rfl, .nil⟩) (fun s pos he => by cases he)

/-- A new iterator. -/
theorem Rel.allocIter {B : Nat} {μ : Mu} {H : HHeap} {w : World} (h : Rel B μ H w) (s : ByteArray) (pos : Nat) :
    Step B μ H w (μ.add H.next ⟨w.heap.size, 0, 0⟩) (H.push (.iter s pos)) (w.alloc (.stringIter s pos)) :=
  h.allocAny _ _ _ rfl (fun cs' rw' hc => by cases hc) (fun es he => by cases he) (fun s' pos' he => by cases he; rfl)

/-- What type a block's cells are of is known. -/
theorem Rel.pushTag {B : Nat} {μ : Mu} {H : HHeap} {w : World} (h : Rel B μ H w) {b : Nat} {p : Place} (hp : μ b = some p) (hd : p.d = 0) {arr : Array Value} {e : TypeId} {fz : Nat × Nat} (hh : w.heap[p.g]? = some (.cells arr e fz)) (n : Nat) (hn : n ≠ 0 → arr.size = n) :
    Step B μ H w (μ.add H.next p) (H.push (.tag e n b)) w := by
  have hsub : Sub μ (μ.add H.next p) := Mu.sub_add h.fresh
  have mu_old : ∀ c q, c ≠ H.next → (μ.add H.next p) c = some q → μ c = some q := fun c q hc hq => by simpa [Mu.add, hc] using hq
  have get_old : ∀ c x, c ≠ H.next → (H.push (.tag e n b)).get c = some x → H.get c = some x := fun c x hc hx => by simpa [HHeap.get_push, hc] using hx
  have new : ∀ x, (H.push (.tag e n b)).get H.next = some x → x = .tag e n b := fun x hx => by simpa [HHeap.get_push] using hx.symm
  refine ⟨hsub, ⟨h.hB, ?_, ?_, ?_, ?_, ?_, h.tabs, ?_, ?_⟩, rfl, rfl, rfl, Nat.le_refl _, fun _ _ _ => rfl, ?_, by simp, ?_, ?_⟩
  · intro c q hq
    by_cases hc : c = H.next
    · subst hc; simp
    · have := h.bound c q (mu_old c q hc hq); simp; omega
  · intro c q hq
    by_cases hc : c = H.next
    · subst hc; simp [Mu.add] at hq; subst hq; exact h.real b _ hp
    · exact h.real c q (mu_old c q hc hq)
  · intro c cs rw hg
    by_cases hc : c = H.next
    · subst hc; cases new _ hg
    · obtain ⟨q, hq, h1, h2, h3, h4⟩ := h.cells c cs rw (get_old _ _ hc hg)
      exact ⟨q, hsub _ _ hq, h1, fun i v hv => by obtain ⟨k1, v', k2, k3⟩ := h2 i v hv; exact ⟨k1, v', k2, k3.mono hsub⟩, h3, h4⟩
  · intro c es hg
    by_cases hc : c = H.next
    · subst hc; cases new _ hg
    · obtain ⟨q, clock, es', hq, hB, hh', he⟩ := h.maps c es (get_old _ _ hc hg)
      exact ⟨q, clock, es', hsub _ _ hq, hB, hh', he.mono hsub⟩
  · intro c c' x x' q q' hne hg hg' hx hx' hq hq'
    by_cases hc : c = H.next
    · subst hc; rw [new _ hg] at hx; cases hx
    · by_cases hc' : c' = H.next
      · subst hc'; rw [new _ hg'] at hx'; cases hx'
      · exact h.apart c c' x x' q q' hne (get_old _ _ hc hg) (get_old _ _ hc' hg') hx hx' (mu_old _ _ hc hq) (mu_old _ _ hc' hq')
  · intro c s pos hg
    by_cases hc : c = H.next
    · subst hc; cases new _ hg
    · obtain ⟨q, hq, h1, h2, h3⟩ := h.iters c s pos (get_old _ _ hc hg)
      exact ⟨q, hsub _ _ hq, h1, h2, h3⟩
  · intro x e' n' b' hg
    by_cases hc : x = H.next
    · subst hc
      have := new _ hg
      cases this
      exact ⟨p, arr, fz, by simp [Mu.add], hsub _ _ hp, hd, hh, hn⟩
    · obtain ⟨q, arr', fz', h1, h2, h3⟩ := h.tags x e' n' b' (get_old _ _ hc hg)
      exact ⟨q, arr', fz', hsub _ _ h1, hsub _ _ h2, h3⟩
  · rintro g ⟨c, x, q, hc, hx, hq, rfl⟩
    by_cases hn' : c = H.next
    · subst hn'; rw [new _ hc] at hx; cases hx
    · exact .inl ⟨c, x, q, get_old _ _ hn' hc, hx, mu_old _ _ hn' hq, rfl⟩
  · intro c hc hn'
    have : c ≠ H.next := by omega
    simpa [HHeap.get_push, this] using hn'
  · intro c hc
    have : c ≠ H.next := by omega
    simp [Mu.add, this]

end Go.HL
/-
  A high level over the model, part 2: stores, appends and maps: what a world does, and what the high level's heap then is.
-/
namespace Go.HL
set_option linter.unusedSimpArgs false
set_option linter.unusedVariables false
open Go.RowKit

theorem add_cell (g o n : Nat) : (⟨g, o, none⟩ : Addr).add n = ⟨g, o + n, none⟩ := by
  unfold Addr.add; split <;> simp_all

/-- A row of cells written, one by one. -/
def putCells (w : World) (g o : Nat) : List Value → World
  | [] => w
  | v :: vs => putCells (w.setCell ⟨g, o, none⟩ v) g (o + 1) vs

theorem putCells_size (g : Nat) : ∀ (vs : List Value) (w : World) (o : Nat), (putCells w g o vs).heap.size = w.heap.size
  | [], _, _ => rfl
  | v :: vs, w, o => by simp [putCells, putCells_size g vs]

theorem putCells_frozen (g : Nat) (a : Addr) : ∀ (vs : List Value) (w : World) (o : Nat), (putCells w g o vs).frozen? a = w.frozen? a
  | [], _, _ => rfl
  | v :: vs, w, o => by simp [putCells, putCells_frozen g a vs]

theorem putCells_below {B g : Nat} (hg : B ≤ g) : ∀ (vs : List Value) (w : World) (o : Nat), Below B w (putCells w g o vs)
  | [], w, _ => Below.refl B w
  | v :: vs, w, o => ((Below.refl B w).setCell (p := ⟨g, o, none⟩) hg v).trans (putCells_below hg vs _ _)

theorem putCells_block {g k : Nat} (hk : k ≠ g) : ∀ (vs : List Value) (w : World) (o : Nat), (putCells w g o vs).heap[k]? = w.heap[k]?
  | [], _, _ => rfl
  | v :: vs, w, o => by
    rw [putCells, putCells_block hk vs, Below.heap_setCell _ _ _ _ hk]

theorem setCell_typ (w : World) (a : Addr) (u : Value) (k : Nat) {arr : Array Value} {e : TypeId} {fz : Nat × Nat} (h : w.heap[k]? = some (.cells arr e fz)) : ∃ arr', (w.setCell a u).heap[k]? = some (.cells arr' e fz) ∧ arr'.size = arr.size := by
  by_cases hk : k = a.block
  · subst hk
    refine ⟨if a.spot.isSome then arr else arr.setIfInBounds a.off u, ?_, ?_⟩
    · simp only [World.setCell, Array.getElem?_modify, if_true, h, Option.map_some]
    · split
      · rfl
      · simp
  · exact ⟨arr, by rw [Below.heap_setCell _ _ _ _ hk]; exact h, rfl⟩
theorem putCells_typ (g k : Nat) : ∀ (vs : List Value) (w : World) (o : Nat) {arr : Array Value} {e : TypeId} {fz : Nat × Nat}, w.heap[k]? = some (.cells arr e fz) → ∃ arr', (putCells w g o vs).heap[k]? = some (.cells arr' e fz) ∧ arr'.size = arr.size
  | [], _, _, arr, _, _, h => ⟨arr, h, rfl⟩
  | v :: vs, w, o, arr, e, fz, h => by
    obtain ⟨a1, h1, h2⟩ := setCell_typ w ⟨g, o, none⟩ v k h
    obtain ⟨a2, h3, h4⟩ := putCells_typ g k vs _ (o + 1) h1
    exact ⟨a2, h3, h4.trans h2⟩

theorem putCells_other {g : Nat} {a : Addr} : ∀ (vs : List Value) (w : World) (o : Nat), (∀ j, j < vs.length → a ≠ ⟨g, o + j, none⟩) → (putCells w g o vs).cell? a = w.cell? a
  | [], _, _, _ => rfl
  | v :: vs, w, o, h => by
    rw [putCells, putCells_other vs _ _ (fun j hj => by have := h (j + 1) (by simpa using hj); rwa [show o + (j + 1) = o + 1 + j by omega] at this),
      World.cell?_setCell_other _ _ _ _ (fun e => h 0 (by simp) (by simpa using e.symm))]

theorem putCells_same {g : Nat} : ∀ (vs : List Value) (w : World) (o : Nat), (∀ j, j < vs.length → ∃ u, w.cell? ⟨g, o + j, none⟩ = some u) →
    ∀ j v, vs[j]? = some v → (putCells w g o vs).cell? ⟨g, o + j, none⟩ = some v
  | [], _, _, _, j, v, e => by simp at e
  | u :: vs, w, o, h, 0, v, e => by
    simp at e; subst e
    rw [putCells, putCells_other vs _ _ (fun j _ => by simp <;> omega)]
    obtain ⟨x, hx⟩ := h 0 (by simp)
    simpa using World.cell?_setCell_same w ⟨g, o, none⟩ u (by simpa using hx)
  | u :: vs, w, o, h, j + 1, v, e => by
    rw [putCells, show o + (j + 1) = o + 1 + j by omega]
    refine putCells_same vs _ _ (fun i hi => ?_) j v (by simpa using e)
    obtain ⟨x, hx⟩ := h (i + 1) (by simpa using hi)
    refine ⟨x, ?_⟩
    rw [World.cell?_setCell_other _ _ _ _ (by simp <;> omega), show o + 1 + i = o + (i + 1) by omega]
    exact hx

theorem putCells_there {g : Nat} {a : Addr} (vs : List Value) (w : World) (o : Nat) (h : ∀ j, j < vs.length → ∃ u, w.cell? ⟨g, o + j, none⟩ = some u) (ha : ∃ u, w.cell? a = some u) :
    ∃ u, (putCells w g o vs).cell? a = some u := by
  by_cases hc : ∃ j, j < vs.length ∧ a = ⟨g, o + j, none⟩
  · obtain ⟨j, hj, rfl⟩ := hc
    exact ⟨_, putCells_same vs w o h j _ (List.getElem?_eq_getElem hj)⟩
  · rw [putCells_other vs w o (fun j hj e => hc ⟨j, hj, e⟩)]
    exact ha

theorem run_storeCells_put (P : Program) {g : Nat} : ∀ (vs : List Value) (w : World) (o i : Nat), (∀ j, j < vs.length → (∃ u, w.cell? ⟨g, o + i + j, none⟩ = some u) ∧ w.frozen? ⟨g, o + i + j, none⟩ = false) → (∀ v ∈ vs, v.oneCell' = true) →
    (storeCells ⟨g, o, none⟩ vs i).run P w = .ok () (putCells w g (o + i) vs)
  | [], w, o, i, _, _ => by simp [storeCells, putCells]
  | v :: vs, w, o, i, h, h1 => by
    obtain ⟨⟨u, hu⟩, hf⟩ := h 0 (by simp)
    simp only [Nat.add_zero] at hu hf
    have ih := run_storeCells_put P vs (w.setCell ⟨g, o + i, none⟩ v) o (i + 1) (fun j hj => by
      obtain ⟨⟨x, hx⟩, hf⟩ := h (j + 1) (by simpa using hj)
      rw [show o + i + (j + 1) = o + (i + 1) + j by omega] at hx hf
      refine ⟨⟨x, ?_⟩, by simpa using hf⟩
      rw [World.cell?_setCell_other _ _ _ _ (by simp <;> omega)]
      exact hx) (fun x hx => h1 x (by simp [hx]))
    simp only [storeCells, Sem.run_bind, add_cell, run_store P w _ v _ (h1 v (by simp)), hu, hf, Bool.false_eq_true, if_false, Result.andThen_ok, ih, putCells]
    rfl

/-- A row of cells written at the high level. -/
def splice (cs : List Value) : Nat → List Value → List Value
  | _, [] => cs
  | o, v :: vs => splice (cs.set o v) (o + 1) vs

theorem splice_length : ∀ (vs cs : List Value) (o : Nat), (splice cs o vs).length = cs.length
  | [], _, _ => rfl
  | v :: vs, cs, o => by simp [splice, splice_length vs]

theorem splice_other {i : Nat} : ∀ (vs cs : List Value) (o : Nat), (i < o ∨ o + vs.length ≤ i) → (splice cs o vs)[i]? = cs[i]?
  | [], _, _, _ => rfl
  | v :: vs, cs, o, h => by
    rw [splice, splice_other vs _ _ (by simp at h; omega), List.getElem?_set_ne (by simp at h; omega)]

theorem splice_same : ∀ (vs cs : List Value) (o : Nat), o + vs.length ≤ cs.length → ∀ (j : Nat) (v : Value), vs[j]? = some v → (splice cs o vs)[o + j]? = some v
  | [], _, _, _, j, v, e => by simp at e
  | u :: vs, cs, o, h, 0, v, e => by
    simp at e; subst e
    simp at h
    rw [splice, splice_other vs _ _ (by omega), Nat.add_zero, List.getElem?_set_self (by omega)]
  | u :: vs, cs, o, h, j + 1, v, e => by
    simp at h
    rw [splice, show o + (j + 1) = o + 1 + j by omega]
    exact splice_same vs _ _ (by simp <;> omega) j v (by simpa using e)

/-- The world's side of a store into a block that may be written. -/
theorem Rel.put {B : Nat} {μ : Mu} {H : HHeap} {w : World} (h : Rel B μ H w) {b : Nat} {cs : List Value} (hb : H.get b = some (.cells cs true)) {p : Place} (hp : μ b = some p)
    (o : Nat) (vs vs' : List Value) (hv : VRels μ vs vs') (h1 : ∀ v ∈ vs, v.oneCell' = true) (cs2 : List Value) (ho : o + vs.length ≤ p.ext) (hlen : cs2.length ≤ p.ext)
    (hold : ∀ (i : Nat) (v : Value), cs2[i]? = some v → (i < o ∨ o + vs.length ≤ i) → cs[i]? = some v)
    (hnew : ∀ (j : Nat) (v : Value), j < vs.length → cs2[o + j]? = some v → vs[j]? = some v) :
    Step B μ H w μ (H.set b (.cells cs2 true)) (putCells w p.g (p.d + o) vs') := by
  obtain ⟨q, hq, hl, hc, hw, hr⟩ := h.cells b cs true hb
  rw [hp] at hq; cases hq
  have hw' := hw rfl
  have hlen' := hv.length
  have there : ∀ j, j < vs'.length → ∃ u, w.cell? ⟨p.g, p.d + o + j, none⟩ = some u := fun j hj => by
    have := (hw'.2 (o + j) (by omega)).1; rwa [show p.d + (o + j) = p.d + o + j by omega] at this
  have getw : ∀ x y, (H.set b (.cells cs2 true)).get x = some y → y.wr = true → ∃ z, H.get x = some z ∧ z.wr = true := fun x y hx hy => by
    by_cases hxb : x = b
    · subst hxb; exact ⟨_, hb, rfl⟩
    · exact ⟨y, by simpa [HHeap.get_set, hxb] using hx, hy⟩
  refine ⟨Sub.refl μ, ⟨by rw [putCells_size]; exact h.hB, h.bound, fun b' p' hb' => by rw [putCells_size]; exact h.real b' p' hb', ?_, ?_, ?_, h.tabs.keep (Nat.le_refl _) fun g hg => putCells_block (Nat.ne_of_lt (Nat.lt_of_lt_of_le hg hw'.1)) _ _ _, ?_, ?_⟩, ?_, ?_, ?_, by rw [putCells_size]; exact Nat.le_refl _, ?_, ?_, Nat.le_refl _, ?_, fun _ _ => rfl⟩
  · intro c cs' rw' hg
    by_cases hcb : c = b
    · subst hcb
      simp [HHeap.get_set] at hg
      obtain ⟨rfl, rfl⟩ := hg
      refine ⟨p, hp, hlen, ?_, ?_, by simp⟩
      · intro i v hi
        by_cases hio : i < o ∨ o + vs.length ≤ i
        · have hcv := hold i v hi hio
          obtain ⟨h1', v', hv', hrel⟩ := hc i v hcv
          refine ⟨h1', v', ?_, hrel⟩
          rw [putCells_other _ _ _ (fun j hj => by simp <;> omega)]
          exact hv'
        · obtain ⟨j, rfl⟩ : ∃ j, i = o + j := ⟨i - o, by omega⟩
          have hj : j < vs.length := by omega
          have hvj := hnew j v hj hi
          obtain ⟨v', hv', hrel⟩ := hv.get j v hvj
          refine ⟨h1 v (List.mem_of_getElem? hvj), v', ?_, hrel⟩
          rw [show p.d + (o + j) = p.d + o + j by omega]
          exact putCells_same vs' w _ there j v' hv'
      · intro _
        refine ⟨hw'.1, fun i hi => ⟨?_, ?_⟩⟩
        · exact putCells_there vs' w _ there (hw'.2 i hi).1
        · rw [putCells_frozen]; exact (hw'.2 i hi).2
    · have hg' : H.get c = some (.cells cs' rw') := by simpa [HHeap.get_set, hcb] using hg
      obtain ⟨q, hq, hl', hc', hwq, hrq⟩ := h.cells c cs' rw' hg'
      have hdis : q.g ≠ p.g := by
        cases rw' with
        | true => exact h.apart c b _ _ q p hcb hg' hb rfl rfl hq hp
        | false => have := hrq rfl; have := hw'.1; omega
      refine ⟨q, hq, hl', ?_, ?_, hrq⟩
      · intro i v hi
        obtain ⟨h1', v', hv', hrel⟩ := hc' i v hi
        exact ⟨h1', v', by rw [putCells_other _ _ _ (fun j _ => by simp [hdis])]; exact hv', hrel⟩
      · intro hrw
        refine ⟨(hwq hrw).1, fun i hi => ?_⟩
        rw [putCells_other _ _ _ (fun j _ => by simp [hdis]), putCells_frozen]
        exact (hwq hrw).2 i hi
  · intro c es hg
    have hcb : c ≠ b := by rintro rfl; simp [HHeap.get_set] at hg
    have hg' : H.get c = some (.map es) := by simpa [HHeap.get_set, hcb] using hg
    obtain ⟨q, clock, es', hq, hB, hh, he⟩ := h.maps c es hg'
    exact ⟨q, clock, es', hq, hB, by rw [putCells_block (h.apart c b _ _ q p hcb hg' hb rfl rfl hq hp)]; exact hh, he⟩
  · intro c c' x x' q q' hne hg hg' hx hx' hq hq'
    obtain ⟨z, k1, k2⟩ := getw _ _ hg hx
    obtain ⟨z', k1', k2'⟩ := getw _ _ hg' hx'
    exact h.apart c c' z z' q q' hne k1 k1' k2 k2' hq hq'
  · intro c s pos hg
    have hcb : c ≠ b := by rintro rfl; simp [HHeap.get_set] at hg
    have hg' : H.get c = some (.iter s pos) := by simpa [HHeap.get_set, hcb] using hg
    obtain ⟨q, hq, hd, hB, hh⟩ := h.iters c s pos hg'
    exact ⟨q, hq, hd, hB, by rw [putCells_block (h.apart c b _ _ q p hcb hg' hb rfl rfl hq hp)]; exact hh⟩
  · intro x e n c hg
    have hxb : x ≠ b := by rintro rfl; simp [HHeap.get_set] at hg
    have hg' : H.get x = some (.tag e n c) := by simpa [HHeap.get_set, hxb] using hg
    obtain ⟨q, arr, fz, hq, hc, hd, hh, hs⟩ := h.tags x e n c hg'
    obtain ⟨arr', h1, h2⟩ := putCells_typ p.g q.g vs' w (p.d + o) hh
    exact ⟨q, arr', fz, hq, hc, hd, h1, fun hn => h2.trans (hs hn)⟩
  · exact (putCells_below (Nat.zero_le _) vs' w _).os
  · exact (putCells_below (Nat.zero_le _) vs' w _).tape
  · exact (putCells_below (Nat.zero_le _) vs' w _).output
  · intro g _ ho
    exact putCells_block (fun e => ho ⟨b, _, p, hb, rfl, hp, e.symm⟩) _ _ _
  · rintro g ⟨x, y, q, hx, hy, hq, rfl⟩
    obtain ⟨z, k1, k2⟩ := getw _ _ hx hy
    exact .inl ⟨x, z, q, k1, k2, hq, rfl⟩
  · intro x hx hn
    have : x ≠ b := by rintro rfl; rw [hb] at hn; cases hn
    simpa [HHeap.get_set, this] using hn

/-- A store. -/
theorem Rel.store {B : Nat} {μ : Mu} {H : HHeap} {w : World} (h : Rel B μ H w) {b : Nat} {cs : List Value} (hb : H.get b = some (.cells cs true)) {p : Place} (hp : μ b = some p)
    (o : Nat) (vs vs' : List Value) (hv : VRels μ vs vs') (h1 : ∀ v ∈ vs, v.oneCell' = true) (ho : o + vs.length ≤ cs.length) :
    Step B μ H w μ (H.set b (.cells (splice cs o vs) true)) (putCells w p.g (p.d + o) vs') := by
  obtain ⟨q, hq, hl, hc, hw, hr⟩ := h.cells b cs true hb
  rw [hp] at hq; cases hq
  refine h.put hb hp o vs vs' hv h1 _ (by omega) (by rw [splice_length]; exact hl) (fun i v hi hio => ?_) (fun j v hj hi => ?_)
  · rwa [splice_other _ _ _ hio] at hi
  · rw [splice_same vs cs o ho j _ (List.getElem?_eq_getElem hj)] at hi
    rw [List.getElem?_eq_getElem hj]; exact hi

/-- The run of a store into the real block. -/
theorem Rel.run_store {B : Nat} {μ : Mu} {H : HHeap} {w : World} (h : Rel B μ H w) (P : Program) {b : Nat} {cs : List Value} (hb : H.get b = some (.cells cs true)) {p : Place} (hp : μ b = some p)
    (o : Nat) (vs vs' : List Value) (hv : VRels μ vs vs') (h1 : ∀ v ∈ vs, v.oneCell' = true) (ho : o + vs.length ≤ p.ext) :
    (storeCells ⟨p.g, p.d + o, none⟩ vs').run P w = .ok () (putCells w p.g (p.d + o) vs') := by
  obtain ⟨q, hq, hl, hc, hw, hr⟩ := h.cells b cs true hb
  rw [hp] at hq; cases hq
  have hw' := (hw rfl).2
  have := run_storeCells_put P (g := p.g) vs' w (p.d + o) 0 (fun j hj => by
    have := hw' (o + j) (by have := hv.length; omega)
    rwa [show p.d + (o + j) = p.d + o + 0 + j by omega] at this) (fun v' hv' => by
      obtain ⟨i, hi⟩ := List.getElem?_of_mem hv'
      obtain ⟨v, hvi, hrel⟩ := hv.get' i v' hi
      rw [hrel.oneCell]; exact h1 v (List.mem_of_getElem? hvi))
  simpa using this

/-- A block is called otherwise: from some cell on, with other cells that are known. -/
theorem Rel.rename {B : Nat} {μ : Mu} {H : HHeap} {w : World} (h : Rel B μ H w) {b : Nat} {cs : List Value} (hb : H.get b = some (.cells cs true)) {p : Place} (hp : μ b = some p)
    (o : Nat) (cs2 : List Value) (hlen : cs2.length ≤ p.ext - o) (hc2 : ∀ (i : Nat) (v : Value), cs2[i]? = some v → v.oneCell' = true ∧ ∃ v', w.cell? ⟨p.g, p.d + o + i, none⟩ = some v' ∧ VRel μ v v') :
    Step B μ H w (μ.add H.next ⟨p.g, p.d + o, p.ext - o⟩) ((H.kill b).push (.cells cs2 true)) w := by
  have hsub : Sub μ (μ.add H.next ⟨p.g, p.d + o, p.ext - o⟩) := Mu.sub_add h.fresh
  obtain ⟨q, hq, hl, hc, hw, hr⟩ := h.cells b cs true hb
  rw [hp] at hq; cases hq
  have hblt := h.bound b p hp
  have mu_old : ∀ x q, x ≠ H.next → (μ.add H.next ⟨p.g, p.d + o, p.ext - o⟩) x = some q → μ x = some q := fun x q hn hp => by simpa [Mu.add, hn] using hp
  have get_old : ∀ x y, x ≠ H.next → ((H.kill b).push (.cells cs2 true)).get x = some y → x ≠ b ∧ H.get x = some y := fun x y hn e => by
    simpa [HHeap.get_push, hn, HHeap.get_kill] using e
  refine ⟨hsub, ⟨h.hB, ?_, ?_, ?_, ?_, ?_, h.tabs, ?_, ?_⟩, rfl, rfl, rfl, Nat.le_refl _, fun _ _ _ => rfl, ?_, by simp, ?_, ?_⟩
  · intro x q hx
    by_cases hxn : x = H.next
    · subst hxn; simp
    · have := h.bound x q (mu_old x q hxn hx); simp; omega
  · intro x q hx
    by_cases hxn : x = H.next
    · subst hxn; simp [Mu.add] at hx; subst hx; exact h.real b p hp
    · exact h.real x q (mu_old x q hxn hx)
  · intro x cs' rw' hg
    by_cases hxn : x = H.next
    · subst hxn
      simp [HHeap.get_push] at hg
      obtain ⟨rfl, rfl⟩ := hg
      refine ⟨⟨p.g, p.d + o, p.ext - o⟩, by simp [Mu.add], hlen, fun i v hi => ?_, fun _ => ⟨(hw rfl).1, fun i hi => ?_⟩, by simp⟩
      · obtain ⟨a1, v', a2, a3⟩ := hc2 i v hi
        exact ⟨a1, v', a2, a3.mono hsub⟩
      · have := (hw rfl).2 (o + i) (by simp at hi; omega)
        simpa [Nat.add_assoc] using this
    · obtain ⟨_, hg'⟩ := get_old _ _ hxn hg
      obtain ⟨q, hq, hl', hc', hw', hr'⟩ := h.cells x cs' rw' hg'
      exact ⟨q, hsub _ _ hq, hl', fun i v hi => let ⟨a1, v', a2, a3⟩ := hc' i v hi; ⟨a1, v', a2, a3.mono hsub⟩, hw', hr'⟩
  · intro x es hg
    have hxn : x ≠ H.next := by rintro rfl; simp [HHeap.get_push] at hg
    obtain ⟨_, hg'⟩ := get_old _ _ hxn hg
    obtain ⟨q, clock, es', hq, hB, hh, he⟩ := h.maps x es hg'
    exact ⟨q, clock, es', hsub _ _ hq, hB, hh, he.mono hsub⟩
  · intro x x' y y' q q' hne hg hg' hy hy' hq hq'
    by_cases hxn : x = H.next
    · have hxn' : x' ≠ H.next := fun e => hne (hxn.trans e.symm)
      obtain ⟨hxb', hg2⟩ := get_old _ _ hxn' hg'
      subst hxn; simp [Mu.add] at hq; subst hq
      exact h.apart b x' _ _ p q' (fun e => hxb' e.symm) hb hg2 rfl hy' hp (mu_old _ _ hxn' hq')
    · obtain ⟨hxb, hg1⟩ := get_old _ _ hxn hg
      by_cases hxn' : x' = H.next
      · subst hxn'; simp [Mu.add] at hq'; subst hq'
        exact h.apart x b _ _ q p hxb hg1 hb hy rfl (mu_old _ _ hxn hq) hp
      · obtain ⟨_, hg2⟩ := get_old _ _ hxn' hg'
        exact h.apart x x' _ _ q q' hne hg1 hg2 hy hy' (mu_old _ _ hxn hq) (mu_old _ _ hxn' hq')
  · intro x t i hg
    have hxn : x ≠ H.next := by rintro rfl; simp [HHeap.get_push] at hg
    obtain ⟨q, hq, h1, h2, h3⟩ := h.iters x t i (get_old _ _ hxn hg).2
    exact ⟨q, hsub _ _ hq, h1, h2, h3⟩
  · intro x e n c hg
    have hxn : x ≠ H.next := by rintro rfl; simp [HHeap.get_push] at hg
    obtain ⟨q, arr, fz, h1, h2, h3⟩ := h.tags x e n c (get_old _ _ hxn hg).2
    exact ⟨q, arr, fz, hsub _ _ h1, hsub _ _ h2, h3⟩
  · rintro g ⟨x, y, q, hx, hy, hq, rfl⟩
    by_cases hxn : x = H.next
    · subst hxn; simp [Mu.add] at hq; subst hq
      exact .inl ⟨b, _, p, hb, rfl, hp, rfl⟩
    · exact .inl ⟨x, y, q, (get_old _ _ hxn hx).2, hy, mu_old _ _ hxn hq, rfl⟩
  · intro x hx hn
    have : x ≠ H.next := by omega
    simp [HHeap.get_push, this, HHeap.get_kill, hn]
  · intro x hx
    have : x ≠ H.next := by omega
    simp [Mu.add, this]

/-- A slice that may be larger than is known is grown: its old block is gone, a new name stands for what there is now; first where the array bears it. -/
theorem Rel.growIn {B : Nat} {μ : Mu} {H : HHeap} {w : World} (h : Rel B μ H w) {b : Nat} {cs : List Value} (hb : H.get b = some (.cells cs true)) {p : Place} (hp : μ b = some p)
    (o n : Nat) (vs vs' : List Value) (hv : VRels μ vs vs') (h1 : ∀ v ∈ vs, v.oneCell' = true) (hn : n = 0 ∨ o + n ≤ cs.length) (ho : o + n + vs.length ≤ p.ext) :
    Step B μ H w (μ.add H.next ⟨p.g, p.d + o, p.ext - o⟩) ((H.kill b).push (.cells ((cs.drop o).take n ++ vs) true)) (putCells w p.g (p.d + (o + n)) vs') := by
  obtain ⟨q, hq, hl, hc, hw, hr⟩ := h.cells b cs true hb
  rw [hp] at hq; cases hq
  have hlen' := hv.length
  have holdlen : ((cs.drop o).take n).length = n := by
    rcases hn with rfl | hn
    · simp
    · simp; omega
  have there : ∀ j, j < vs'.length → ∃ u, w.cell? ⟨p.g, p.d + (o + n) + j, none⟩ = some u := fun j hj => by
    have := ((hw rfl).2 (o + n + j) (by omega)).1; rwa [show p.d + (o + n + j) = p.d + (o + n) + j by omega] at this
  have hold : ∀ (i : Nat) (v : Value), ((cs.drop o).take n ++ vs)[i]? = some v → v.oneCell' = true ∧ ∃ v', (putCells w p.g (p.d + (o + n)) vs').cell? ⟨p.g, p.d + o + i, none⟩ = some v' ∧ VRel μ v v' := fun i v hi => by
    by_cases hin : i < n
    · rw [List.getElem?_append_left (by omega), List.getElem?_take, if_pos hin, List.getElem?_drop] at hi
      obtain ⟨a1, v', a2, a3⟩ := hc _ v hi
      refine ⟨a1, v', ?_, a3⟩
      rw [putCells_other _ _ _ (fun j hj => by simp <;> omega), show p.d + o + i = p.d + (o + i) by omega]
      exact a2
    · rw [List.getElem?_append_right (by omega), holdlen] at hi
      obtain ⟨v', hv', hrel⟩ := hv.get _ v hi
      refine ⟨h1 v (List.mem_of_getElem? hi), v', ?_, hrel⟩
      have := putCells_same vs' w _ there _ v' hv'
      rwa [show p.d + (o + n) + (i - n) = p.d + o + i by omega] at this
  have s1 := h.put hb hp (o + n) vs vs' hv h1 [] (by omega) (by simp) (fun i v hi => by simp at hi) (fun j v hj hi => by simp at hi)
  have s2 := s1.rel.rename (b := b) (cs := []) (by simp [HHeap.get_set]) hp o ((cs.drop o).take n ++ vs) (by rw [List.length_append, holdlen]; omega) hold
  have he : ((H.set b (.cells [] true)).kill b).push (.cells ((cs.drop o).take n ++ vs) true) = (H.kill b).push (.cells ((cs.drop o).take n ++ vs) true) := by
    unfold HHeap.push HHeap.kill HHeap.set
    congr 1
    funext x
    by_cases hx : x = b <;> simp [hx]
  have s3 := s1.trans s2
  rw [he] at s3
  exact s3

/-- A map is written. -/
theorem Rel.setMap {B : Nat} {μ : Mu} {H : HHeap} {w : World} (h : Rel B μ H w) {b : Nat} {es : List (Value × Value)} (hb : H.get b = some (.map es)) {p : Place} (hp : μ b = some p)
    (es2 : List (Value × Value)) (es2' : Array MapEntry) (clock : Nat) (he : ERels μ es2 es2'.toList) :
    Step B μ H w μ (H.set b (.map es2)) { w with heap := w.heap.setIfInBounds p.g (.map es2' clock) } := by
  obtain ⟨q, clock0, es', hq, hB, hh, he0⟩ := h.maps b es hb
  rw [hp] at hq; cases hq
  have hlt := h.real b p hp
  have hcell : ∀ a : Addr, a.block ≠ p.g → ({ w with heap := w.heap.setIfInBounds p.g (.map es2' clock) } : World).cell? a = w.cell? a ∧ ({ w with heap := w.heap.setIfInBounds p.g (.map es2' clock) } : World).frozen? a = w.frozen? a := by
    intro a hne
    unfold World.cell? World.frozen?
    simp only [Array.getElem?_setIfInBounds_ne (Ne.symm hne), and_self]
  have getw : ∀ x y, (H.set b (.map es2)).get x = some y → y.wr = true → ∃ z, H.get x = some z ∧ z.wr = true := fun x y hx hy => by
    by_cases hxb : x = b
    · subst hxb; exact ⟨_, hb, rfl⟩
    · exact ⟨y, by simpa [HHeap.get_set, hxb] using hx, hy⟩
  refine ⟨Sub.refl μ, ⟨by simpa using h.hB, h.bound, fun x q hx => by simpa using h.real x q hx, ?_, ?_, ?_, h.tabs.keep (Nat.le_refl _) fun g hg => by simp only [Array.getElem?_setIfInBounds_ne (show p.g ≠ g by omega)], ?_, ?_⟩, rfl, rfl, rfl, by simp, ?_, ?_, Nat.le_refl _, ?_, fun _ _ => rfl⟩
  · intro x cs rw' hg
    have hxb : x ≠ b := by rintro rfl; simp [HHeap.get_set] at hg
    have hg' : H.get x = some (.cells cs rw') := by simpa [HHeap.get_set, hxb] using hg
    obtain ⟨q, hq, hl, hc, hw, hr⟩ := h.cells x cs rw' hg'
    have hne : q.g ≠ p.g := by
      cases rw' with
      | true => exact h.apart x b _ _ q p hxb hg' hb rfl rfl hq hp
      | false => have := hr rfl; omega
    refine ⟨q, hq, hl, fun i v hi => ?_, fun hrw => ⟨(hw hrw).1, fun i hi => ?_⟩, hr⟩
    · obtain ⟨a1, v', a2, a3⟩ := hc i v hi
      exact ⟨a1, v', by rw [(hcell ⟨q.g, q.d + i, none⟩ hne).1]; exact a2, a3⟩
    · have := (hw hrw).2 i hi
      rw [(hcell ⟨q.g, q.d + i, none⟩ hne).1, (hcell ⟨q.g, q.d + i, none⟩ hne).2]; exact this
  · intro x es1 hg
    by_cases hxb : x = b
    · subst hxb
      simp [HHeap.get_set] at hg; subst hg
      exact ⟨p, clock, es2', hp, hB, by simp [hlt], he⟩
    · have hg' : H.get x = some (.map es1) := by simpa [HHeap.get_set, hxb] using hg
      obtain ⟨q, clock1, es1', hq, hB1, hh1, he1⟩ := h.maps x es1 hg'
      have hne := h.apart b x _ _ p q (Ne.symm hxb) hb hg' rfl rfl hp hq
      exact ⟨q, clock1, es1', hq, hB1, by simp only [Array.getElem?_setIfInBounds_ne hne]; exact hh1, he1⟩
  · intro c c' x x' q q' hne hg hg' hx hx' hq hq'
    obtain ⟨z, k1, k2⟩ := getw _ _ hg hx
    obtain ⟨z', k1', k2'⟩ := getw _ _ hg' hx'
    exact h.apart c c' z z' q q' hne k1 k1' k2 k2' hq hq'
  · intro c s pos hg
    have hcb : c ≠ b := by rintro rfl; simp [HHeap.get_set] at hg
    have hg' : H.get c = some (.iter s pos) := by simpa [HHeap.get_set, hcb] using hg
    obtain ⟨q, hq, hd, hB1, hh1⟩ := h.iters c s pos hg'
    have hne := h.apart b c _ _ p q (Ne.symm hcb) hb hg' rfl rfl hp hq
    exact ⟨q, hq, hd, hB1, by simp only [Array.getElem?_setIfInBounds_ne hne]; exact hh1⟩
  · intro x e n c hg
    have hxb : x ≠ b := by rintro rfl; simp [HHeap.get_set] at hg
    have hg' : H.get x = some (.tag e n c) := by simpa [HHeap.get_set, hxb] using hg
    obtain ⟨q, arr, fz, hq, hc, hd, hh1, hs⟩ := h.tags x e n c hg'
    have hne : p.g ≠ q.g := fun ee => by rw [← ee, hh] at hh1; cases hh1
    exact ⟨q, arr, fz, hq, hc, hd, by simp only [Array.getElem?_setIfInBounds_ne hne]; exact hh1, hs⟩
  · intro g _ ho
    have : p.g ≠ g := fun e => ho ⟨b, _, p, hb, rfl, hp, e⟩
    simp only [Array.getElem?_setIfInBounds_ne this]
  · rintro g ⟨x, y, q, hx, hy, hq, rfl⟩
    obtain ⟨z, k1, k2⟩ := getw _ _ hx hy
    exact .inl ⟨x, z, q, k1, k2, hq, rfl⟩
  · intro x hx hn
    have : x ≠ b := by rintro rfl; rw [hb] at hn; cases hn
    simpa [HHeap.get_set, this] using hn

end Go.HL
/-
  A high level over the model, part 3: what an operation comes to at the high level, and that the model's own operation meets it.
-/
namespace Go.HL
open Go.RowKit

/-- A frame: how many slots there are, and what is known of some. -/
@[ext] structure HFrame where
  size : Nat
  get : Nat → Option Value

def hev (fr : HFrame) : Operand → Option Value
  | .tmp t => fr.get t
  | .const v => if flat v then some v else none
  | .func f => some (.func (.func f) #[] #[])
  | .global _ => none

def hput (fr : HFrame) (dst : Option Tmp) (v : Value) : HFrame :=
  match dst with
  | some (d : Nat) => if d < fr.size then ⟨fr.size, fun t => if t = d then some v else fr.get t⟩ else fr
  | none => fr

structure FRel (D : List Deferred) (μ : Mu) (fr : HFrame) (a : Act) : Prop where
  size : a.tmps.size = fr.size
  vals : ∀ t v, fr.get t = some v → ∃ v', a.tmps[t]? = some v' ∧ VRel μ v v'
  defers : a.defers = D
variable {D : List Deferred}

theorem FRel.mono {μ ν : Mu} {fr : HFrame} {a : Act} (h : FRel D μ fr a) (s : Sub μ ν) : FRel D ν fr a :=
  ⟨h.size, fun t v e => let ⟨v', h1, h2⟩ := h.vals t v e; ⟨v', h1, h2.mono s⟩, h.defers⟩

theorem VRels.set {μ : Mu} {a a' : List Value} (h : VRels μ a a') (n : Nat) {v v' : Value} (hv : VRel μ v v') : VRels μ (a.set n v) (a'.set n v') := by
  refine .of_get (by simp [h.length]) fun i u u' e e' => ?_
  by_cases hi : n = i
  · subst hi
    have h1 : n < a.length := by
      rcases Nat.lt_or_ge n a.length with hh | hh
      · exact hh
      · rw [List.getElem?_eq_none (by simpa using hh)] at e; cases e
    rw [List.getElem?_set_self h1] at e
    rw [List.getElem?_set_self (by rw [h.length]; exact h1)] at e'
    cases e; cases e'; exact hv
  · rw [List.getElem?_set_ne hi] at e e'
    obtain ⟨x, hx, hr⟩ := h.get i u e
    rw [hx] at e'; cases e'; exact hr

theorem FRel.put {μ : Mu} {fr : HFrame} {a : Act} (h : FRel D μ fr a) (dst : Option Tmp) {v v' : Value} (hv : VRel μ v v') : FRel D μ (hput fr dst v) (a.put dst v') := by
  cases dst with
  | none => exact h
  | some d =>
    simp only [hput, Act.put]
    by_cases hd : d < fr.size
    · rw [if_pos hd]
      refine ⟨by simpa using h.size, fun t u e => ?_, h.defers⟩
      simp only at e
      split at e
      · subst_vars; cases e
        exact ⟨v', by simp [h.size, hd], hv⟩
      · rename_i ht
        obtain ⟨u', h1, h2⟩ := h.vals t u e
        exact ⟨u', by rw [Array.getElem?_setIfInBounds_ne (Ne.symm ht)]; exact h1, h2⟩
    · rw [if_neg hd]
      refine ⟨by simpa using h.size, fun t u e => ?_, h.defers⟩
      obtain ⟨u', h1, h2⟩ := h.vals t u e
      have : d ≠ t := by
        rintro rfl
        have hsz : a.tmps.size ≤ d := by rw [h.size]; exact Nat.le_of_not_lt hd
        rw [Array.getElem?_eq_none hsz] at h1; cases h1
      exact ⟨u', by rw [Array.getElem?_setIfInBounds_ne this]; exact h1, h2⟩

theorem hev_rel {μ : Mu} {fr : HFrame} {a : Act} (h : FRel D μ fr a) {x : Operand} {v : Value} (e : hev fr x = some v) : VRel μ v (a.eval x) := by
  cases x with
  | tmp t =>
    simp only [hev] at e
    obtain ⟨v', hv', hr⟩ := h.vals t v e
    have : a.tmps.getD t undef = v' := by simp [hv']
    simp only [Act.eval, this]; exact hr
  | const u =>
    simp only [hev] at e
    split at e
    · cases e; exact .of_flat ‹_›
    · cases e
  | func f =>
    simp only [hev] at e; cases e
    exact .func _ [] [] [] [] .nil .nil
  | global g => simp [hev] at e

/-- Whole numbers. -/
def hint (op : BinOp) (k : IntKind) (x y : Int) : Option Value :=
  match op with
  | .add => some (.int k (k.wrap (x + y)))
  | .sub => some (.int k (k.wrap (x - y)))
  | .mul => some (.int k (k.wrap (x * y)))
  | .quo => if y = 0 then none else some (.int k (k.wrap (x.tdiv y)))
  | .rem => if y = 0 then none else some (.int k (x.tmod y))
  | .and => some (.int k (k.wrap (BitVec.ofInt k.bits x &&& BitVec.ofInt k.bits y).toNat))
  | .or => some (.int k (k.wrap (BitVec.ofInt k.bits x ||| BitVec.ofInt k.bits y).toNat))
  | .xor => some (.int k (k.wrap (BitVec.ofInt k.bits x ^^^ BitVec.ofInt k.bits y).toNat))
  | .andNot => some (.int k (k.wrap (BitVec.ofInt k.bits x &&& ~~~BitVec.ofInt k.bits y).toNat))
  | .eql => some (.bool (x == y))
  | .neq => some (.bool (x != y))
  | .lss => some (.bool (x < y))
  | .leq => some (.bool (x ≤ y))
  | .gtr => some (.bool (x > y))
  | .geq => some (.bool (x ≥ y))
  | _ => none

def hshift (op : BinOp) (k : IntKind) (x y : Int) : Option Value :=
  if y < 0 then none else
  match op with
  | .shl => some (.int k (k.wrap (x * 2 ^ (min y.toNat k.bits))))
  | .shr => some (.int k (x.fdiv (2 ^ (min y.toNat k.bits))))
  | _ => none

def hstr (op : BinOp) (x y : ByteArray) : Option Value :=
  match op with
  | .add => if x.size + y.size ≤ 1099511627776 then some (.string (x ++ y)) else none
  | .eql => some (.bool (x.toList == y.toList))
  | .neq => some (.bool !(x.toList == y.toList))
  | .lss => some (.bool (Op.bytesLess x.toList y.toList))
  | .leq => some (.bool (Op.bytesLess x.toList y.toList || x.toList == y.toList))
  | .gtr => some (.bool !(Op.bytesLess x.toList y.toList || x.toList == y.toList))
  | .geq => some (.bool !(Op.bytesLess x.toList y.toList))
  | _ => none

def kindOf (P : Program) (t : TypeId) : Nat :=
  match P.underlying t with
  | some .bool => 1
  | some (.pointer _) => 2
  | some (.slice _) => 3
  | some (.func ..) => 4
  | some (.interface _) => 5
  | some (.map ..) => 6
  | _ => 0

theorem kind_bool {P : Program} {t : TypeId} (h : kindOf P t = 1) : P.underlying t = some .bool := by
  unfold kindOf at h; split at h <;> first | assumption | omega
theorem kind_pointer {P : Program} {t : TypeId} (h : kindOf P t = 2) : ∃ e, P.underlying t = some (.pointer e) := by
  unfold kindOf at h; split at h <;> first | exact ⟨_, ‹_›⟩ | omega
theorem kind_slice {P : Program} {t : TypeId} (h : kindOf P t = 3) : ∃ e, P.underlying t = some (.slice e) := by
  unfold kindOf at h; split at h <;> first | exact ⟨_, ‹_›⟩ | omega
theorem kind_func {P : Program} {t : TypeId} (h : kindOf P t = 4) : ∃ a b c, P.underlying t = some (.func a b c) := by
  unfold kindOf at h; split at h <;> first | exact ⟨_, _, _, ‹_›⟩ | omega
theorem kind_interface {P : Program} {t : TypeId} (h : kindOf P t = 5) : ∃ e, P.underlying t = some (.interface e) := by
  unfold kindOf at h; split at h <;> first | exact ⟨_, ‹_›⟩ | omega

def hbin (P : Program) (op : BinOp) (t : TypeId) (x y : Value) : Option Value :=
  match x, y with
  | .int k a, .int k' b =>
    match op with
    | .shl | .shr => hshift op k a b
    | _ => if k = k' then hint op k a b else none
  | .string a, .string b => hstr op a b
  | .bool a, .bool b => if kindOf P t = 1 then (match op with | .eql => some (.bool (a == b)) | .neq => some (.bool (!(a == b))) | _ => none) else none
  | .pointer a, .pointer b =>
    if kindOf P t = 2 then
      (if a.isNone || b.isNone then (match op with | .eql => some (.bool (a.isNone && b.isNone)) | .neq => some (.bool (!(a.isNone && b.isNone))) | _ => none) else none)
    else none
  | .slice a _ _, .slice b _ _ =>
    if kindOf P t = 3 then
      (if a.isNone || b.isNone then (match op with | .eql => some (.bool (a.isNone && b.isNone)) | .neq => some (.bool (!(a.isNone && b.isNone))) | _ => none) else none)
    else none
  | .nilFunc, .func .. | .func .., .nilFunc =>
    if kindOf P t = 4 then (match op with | .eql => some (.bool false) | .neq => some (.bool true) | _ => none) else none
  | .nilFunc, .nilFunc =>
    if kindOf P t = 4 then (match op with | .eql => some (.bool true) | .neq => some (.bool false) | _ => none) else none
  | .nilIface, .iface .. | .iface .., .nilIface =>
    if kindOf P t = 5 then (match op with | .eql => some (.bool false) | .neq => some (.bool true) | _ => none) else none
  | _, _ => none

def hunary (op : UnOp) (x : Value) : Option Value :=
  match op, x with
  | .neg, .int k n => some (.int k (k.wrap (0 - n)))
  | .not, .bool b => some (.bool !b)
  | _, _ => none

def hsize (P : Program) (t : TypeId) : Option Nat := (P.info? t).map (·.size)
def hagg (P : Program) (t : TypeId) : Option Bool :=
  match P.underlying t with
  | some (.struct _) | some (.array _ _) => some true
  | some _ => some false
  | none => none

/-- A variable of a type is read. -/
def hload (P : Program) (H : HHeap) (t : TypeId) (v : Value) : Option Value :=
  match v with
  | .pointer (some ⟨b, o, none⟩) =>
    match H.get b with
    | some (.cells cs _) =>
      match hagg P t with
      | some true => (hsize P t).bind fun n => if o + n ≤ cs.length then some (.agg ((cs.drop o).take n).toArray) else none
      | some false => cs[o]?
      | none => none
    | _ => none
  | _ => none

def allOne (vs : List Value) : Bool := vs.all Value.oneCell'

def hstore (P : Program) (H : HHeap) (t : TypeId) (p x : Value) : Option HHeap :=
  match p with
  | .pointer (some ⟨b, o, none⟩) =>
    match H.get b with
    | some (.cells cs true) => (hsize P t).bind fun n =>
      if x.cells.size = n ∧ o + n ≤ cs.length ∧ allOne x.cells.toList then some (H.set b (.cells (splice cs o x.cells.toList) true)) else none
    | _ => none
  | _ => none

def hfieldAt (P : Program) (s : TypeId) (p : Value) (f : Nat) : Option Value :=
  match p with
  | .pointer (some ⟨b, o, none⟩) =>
    match P.underlying s with
    | some (.struct fs) => (fs[f]?).bind fun fd => (hsize P fd.type).bind fun n => if n = 0 then none else some (.pointer (some ⟨b, o + fd.offset, none⟩))
    | _ => none
  | _ => none

def hindexAt (P : Program) (t : TypeId) (x ix : Value) : Option Value :=
  match ix with
  | .int _ i =>
    match P.underlying t, x with
    | some (.slice e), .slice (some ⟨b, o, _⟩) len _ => (hsize P e).bind fun n => if 0 ≤ i ∧ i < len then some (.pointer (some ⟨b, o + i.toNat * n, none⟩)) else none
    | some (.array l e), .pointer (some ⟨b, o, none⟩) => (hsize P e).bind fun n => if 0 ≤ i ∧ i < l then some (.pointer (some ⟨b, o + i.toNat * n, none⟩)) else none
    | _, _ => none
  | _ => none

def hpart (P : Program) (t : TypeId) (cs : List Value) (off : Nat) : Option Value :=
  match hagg P t with
  | some true => (hsize P t).bind fun n => if off + n ≤ cs.length then some (.agg ((cs.drop off).take n).toArray) else none
  | some false => cs[off]?
  | none => none

def hfield (P : Program) (t : TypeId) (x : Value) (f : Nat) : Option Value :=
  match P.underlying t, x with
  | some (.struct fs), .agg cs => (fs[f]?).bind fun fd => hpart P fd.type cs.toList fd.offset
  | _, _ => none

def hindex (P : Program) (t : TypeId) (x ix : Value) : Option Value :=
  match ix with
  | .int _ i =>
    match P.underlying t, x with
    | some .string, .string s => if 0 ≤ i then (s.data[i.toNat]?).map fun b => .int .u8 b.toNat else none
    | some (.array l e), .agg cs => (hsize P e).bind fun n => if 0 ≤ i ∧ i < l then hpart P e cs.toList (i.toNat * n) else none
    | _, _ => none
  | _ => none

/-- The bounds of a slicing: none where it panics. -/
def hbound (len : Nat) (d : Nat) (x : Option Value) : Option Nat :=
  match x with
  | none => some d
  | some (.int _ i) => if 0 ≤ i ∧ i ≤ len then some i.toNat else none
  | some _ => none

def hslice (P : Program) (t : TypeId) (x : Value) (lo hi mx : Option Value) : Option Value :=
  match P.underlying t, x with
  | some .string, .string s =>
    if mx.isSome then none else
    (hbound s.size s.size hi).bind fun h => (hbound h 0 lo).bind fun l => some (.string (s.extract l h))
  | some (.slice e), .slice a len cap =>
    if mx.isSome && hi.isNone then none else
    (hbound cap cap mx).bind fun m => (hbound m len hi).bind fun h => (hbound h 0 lo).bind fun l => (hsize P e).bind fun n =>
    match a with
    | none => some (.slice none 0 0)
    | some ⟨b, o, none⟩ => some (.slice (some ⟨b, if m = l then o else o + l * n, none⟩) (h - l) (m - l))
    | some ⟨b, o, some k⟩ =>
      if k / 2 ≠ n then none
      else if mx.isSome then (if k % 2 = 0 then some (.slice (some ⟨b, if m = l then o else o + l * n, none⟩) (h - l) (m - l)) else none)
      else if m = l then some (.slice (some ⟨b, o, some (2 * n + 1)⟩) 0 0)
      else some (.slice (some ⟨b, o + l * n, some k⟩) (h - l) (m - l))
  | _, _ => none

end Go.HL
/-
  A high level over the model, part 4: the model's operations meet those of the high level: loads, stores, addresses, slices.
-/
namespace Go.HL
open Go.RowKit

variable {P : Program} {B : Nat} {μ : Mu} {H : HHeap} {w : World}

theorem run_isAgg {t : TypeId} {b : Bool} (h : hagg P t = some b) (w : World) : (isAgg t).run P w = .ok b w := by
  unfold hagg at h
  split at h <;> cases h
  · simp [isAgg, run_underlying ‹P.underlying t = _›]
  · simp [isAgg, run_underlying ‹P.underlying t = _›]
  · rename_i d hne1 hne2 hd
    simp only [isAgg, Sem.run_bind, run_underlying hd, Result.andThen_ok]
    cases d <;> first | rfl | (exact absurd rfl (hne1 _)) | (exact absurd rfl (hne2 _ _))

theorem run_sizeOf {t : TypeId} {n : Nat} (h : hsize P t = some n) (w : World) : (sizeOf t).run P w = .ok n w := by
  unfold hsize at h
  cases hi : P.info? t with
  | none => simp [hi] at h
  | some i => simp [hi] at h; subst h; simp [sizeOf, typeInfo, hi]

theorem Rel.cellsAt (h : Rel B μ H w) {b : Nat} {cs : List Value} {rw : Bool} (hb : H.get b = some (.cells cs rw)) {p : Place} (hp : μ b = some p) (o n : Nat) (hn : o + n ≤ cs.length) :
    ∃ vs', VRels μ ((cs.drop o).take n) vs' ∧ vs'.length = n ∧ ∀ (j : Nat) (v : Value), vs'[j]? = some v → w.cell? ((⟨p.g, p.d + o, none⟩ : Addr).add j) = some v := by
  obtain ⟨q, hq, hl, hc, _⟩ := h.cells b cs rw hb
  rw [hp] at hq; cases hq
  induction n with
  | zero => exact ⟨[], by simpa using VRels.nil, rfl, fun j v e => by simp at e⟩
  | succ n ih =>
    obtain ⟨vs', h1, h2, h3⟩ := ih (by omega)
    have hlt : o + n < cs.length := by omega
    obtain ⟨_, v', hv', hrel⟩ := hc (o + n) _ (List.getElem?_eq_getElem hlt)
    refine ⟨vs' ++ [v'], ?_, by simp [h2], fun j v e => ?_⟩
    · rw [List.take_add_one, List.getElem?_drop, List.getElem?_eq_getElem hlt]
      exact h1.append (.cons _ _ _ _ hrel .nil)
    · by_cases hj : j < n
      · rw [List.getElem?_append_left (by omega)] at e; exact h3 j v e
      · rw [List.getElem?_append_right (by omega)] at e
        have hj0 : j - vs'.length = 0 := by
          rcases Nat.eq_zero_or_pos (j - vs'.length) with hh | hh
          · exact hh
          · rw [List.getElem?_eq_none (by simp; omega)] at e; cases e
        rw [hj0] at e; simp at e; subst e
        have : j = n := by omega
        subst this
        rw [add_cell, show p.d + o + j = p.d + (o + j) by omega]; exact hv'

theorem sim_load (h : Rel B μ H w) {t : TypeId} {v u v' : Value} (hl : hload P H t v = some u) (hv : VRel μ v v') :
    ∃ u', (Instr.loadAt t v').run P w = .ok u' w ∧ VRel μ u u' := by
  unfold hload at hl
  split at hl
  · rename_i b o
    cases hv with
    | ptr _ _ p hp =>
    split at hl
    · rename_i cs rw' hb
      cases ha : hagg P t with
      | none => simp [ha] at hl
      | some ag =>
        cases ag with
        | true =>
          simp only [ha, Option.bind_eq_some_iff] at hl
          obtain ⟨n, hn, hl⟩ := hl
          split at hl <;> cases hl
          rename_i hon
          obtain ⟨vs', h1, h2, h3⟩ := h.cellsAt hb hp o n hon
          refine ⟨.agg vs'.toArray, ?_, .agg _ _ h1⟩
          have := run_loadCells_list (P := P) w ⟨p.g, p.d + o, none⟩ vs' h3
          rw [h2] at this
          simp [Instr.loadAt, Instr.sureAddr, loadVar, run_isAgg ha, run_sizeOf hn, this]
        | false =>
          simp only [ha] at hl
          obtain ⟨q, hq, _, hc, _⟩ := h.cells b cs rw' hb
          rw [hp] at hq; cases hq
          obtain ⟨_, v', hv', hrel⟩ := hc o u hl
          exact ⟨v', by simp [Instr.loadAt, Instr.sureAddr, loadVar, run_isAgg ha, hv'], hrel⟩
    · cases hl
  · cases hl

theorem sim_store (h : Rel B μ H w) {t : TypeId} {a x a' x' : Value} {H' : HHeap} (hs : hstore P H t a x = some H') (ha : VRel μ a a') (hx : VRel μ x x') :
    ∃ w', (Instr.storeAt t a' x').run P w = .ok () w' ∧ Step B μ H w μ H' w' := by
  unfold hstore at hs
  split at hs
  · rename_i b o
    cases ha with
    | ptr _ _ p hp =>
    split at hs
    · rename_i cs hb
      simp only [Option.bind_eq_some_iff] at hs
      obtain ⟨n, hn, hs⟩ := hs
      split at hs <;> cases hs
      rename_i hc
      obtain ⟨hc1, hc2, hc3⟩ := hc
      have hcells := hx.cells
      have hlen := hcells.length
      have h1 : ∀ v ∈ x.cells.toList, v.oneCell' = true := List.all_eq_true.1 hc3
      have hlx : x.cells.toList.length = n := by simpa using hc1
      have hlx' : x'.cells.size = n := by simp at hlen; omega
      obtain ⟨q, hq, hl, _⟩ := h.cells b cs true hb
      rw [hp] at hq; cases hq
      have hrun := h.run_store P hb hp o _ _ hcells h1 (by omega)
      refine ⟨_, ?_, h.store hb hp o _ _ hcells h1 (by omega)⟩
      simp [Instr.storeAt, Instr.sureAddr, storeVar, run_sizeOf hn, hlx', hrun]
    · cases hs
  · cases hs

theorem sim_fieldAt {s : TypeId} {v u v' : Value} {f : Nat} (hl : hfieldAt P s v f = some u) (hv : VRel μ v v') :
    ∃ u', (Instr.fieldAt s v' f).run P w = .ok u' w ∧ VRel μ u u' := by
  unfold hfieldAt at hl
  split at hl
  · rename_i b o
    cases hv with
    | ptr _ _ p hp =>
    split at hl
    · rename_i fs hfs
      simp only [Option.bind_eq_some_iff] at hl
      obtain ⟨fd, hfd, n, hn, hl⟩ := hl
      split at hl <;> cases hl
      rename_i hne
      refine ⟨_, ?_, .ptr _ _ p hp⟩
      simp [Instr.fieldAt, run_underlying hfs, hfd, Instr.sureAddr, fieldPlace, run_sizeOf hn, hne, add_cell, Nat.add_assoc]
    · cases hl
  · cases hl

theorem sim_indexAt {t : TypeId} {x x' ix u : Value} (hl : hindexAt P t x ix = some u) (hx : VRel μ x x') :
    ∃ u', (Instr.indexAt t x' ix).run P w = .ok u' w ∧ VRel μ u u' := by
  unfold hindexAt at hl
  split at hl
  · rename_i k i
    split at hl
    · rename_i e b o s len cap ht
      simp only [Option.bind_eq_some_iff] at hl
      obtain ⟨n, hn, hl⟩ := hl
      split at hl <;> cases hl
      rename_i hi
      have key : ∀ (p : Place) (len' cap' o' : Nat), len' = len → (Instr.indexAt t (.slice (some ⟨p.g, p.d + o', none⟩) len' cap') (.int k i)).run P w = .ok (.pointer (some ⟨p.g, p.d + o' + i.toNat * n, none⟩)) w := by
        intro p len' cap' o' e'
        subst e'
        simp [Instr.indexAt, asIntOf, run_underlying ht, hi, run_sizeOf hn, add_cell]
      cases hx with
      | slice _ _ _ _ p hp _ => exact ⟨_, key p _ _ _ rfl, by rw [Nat.add_assoc]; exact .ptr _ _ p hp⟩
      | grown _ _ _ _ _ _ p hp _ _ _ => exact ⟨_, key p _ _ _ rfl, by rw [Nat.add_assoc]; exact .ptr _ _ p hp⟩
      | hole _ _ _ _ _ p hp _ => exfalso; omega
      | void _ _ _ => exfalso; omega
    · rename_i l e b o ht
      cases hx with
      | ptr _ _ p hp =>
      simp only [Option.bind_eq_some_iff] at hl
      obtain ⟨n, hn, hl⟩ := hl
      split at hl <;> cases hl
      rename_i hi
      refine ⟨.pointer (some ⟨p.g, p.d + o + i.toNat * n, none⟩), ?_, by rw [Nat.add_assoc]; exact .ptr _ _ p hp⟩
      simp [Instr.indexAt, asIntOf, run_underlying ht, hi, run_sizeOf hn, add_cell, Instr.sureAddr]
    · cases hl
  · cases hl

theorem sim_part {t : TypeId} {cs cs' : List Value} {off : Nat} {u : Value} (hl : hpart P t cs off = some u) (hx : VRels μ cs cs') :
    ∃ u', (part t cs'.toArray off).run P w = .ok u' w ∧ VRel μ u u' := by
  unfold hpart at hl
  split at hl
  · rename_i ha
    simp only [Option.bind_eq_some_iff] at hl
    obtain ⟨n, hn, hl⟩ := hl
    split at hl <;> cases hl
    refine ⟨.agg ((cs'.drop off).take n).toArray, ?_, .agg _ _ ((hx.drop off).take n)⟩
    simp [part, run_isAgg ha, run_sizeOf hn]
  · rename_i ha
    obtain ⟨u', hu', hr⟩ := hx.get off u hl
    exact ⟨u', by simp [part, run_isAgg ha, hu'], hr⟩
  · cases hl

theorem sim_field {t : TypeId} {x x' u : Value} {f : Nat} (hl : hfield P t x f = some u) (hx : VRel μ x x') :
    ∃ u', (Instr.field t x' f).run P w = .ok u' w ∧ VRel μ u u' := by
  unfold hfield at hl
  split at hl
  · rename_i fs cs ht
    simp only [Option.bind_eq_some_iff] at hl
    obtain ⟨fd, hfd, hl⟩ := hl
    cases hx with
    | agg cs cs' hr =>
    obtain ⟨u', h1, h2⟩ := sim_part (w := w) hl hr
    exact ⟨u', by simp [Instr.field, run_underlying ht, hfd, asAgg, h1], h2⟩
  · cases hl

theorem sim_index {t : TypeId} {x x' ix u : Value} (hl : hindex P t x ix = some u) (hx : VRel μ x x') :
    ∃ u', (Instr.index t x' ix).run P w = .ok u' w ∧ VRel μ u u' := by
  unfold hindex at hl
  split at hl
  · rename_i k i
    split at hl
    · rename_i s ht
      cases hx
      split at hl
      · rename_i hi
        cases hb : s.data[i.toNat]? with
        | none => simp [hb] at hl
        | some b =>
          simp [hb] at hl; subst hl
          have hb' : s[i.toNat]? = some b := by
            rw [← hb]; rfl
          exact ⟨_, by simp [Instr.index, asIntOf, run_underlying ht, hi, hb'], .int _ _⟩
      · cases hl
    · rename_i l e cs ht
      simp only [Option.bind_eq_some_iff] at hl
      obtain ⟨n, hn, hl⟩ := hl
      split at hl
      · rename_i hi
        cases hx with
        | agg cs cs' hr =>
        obtain ⟨u', h1, h2⟩ := sim_part (w := w) hl hr
        exact ⟨u', by simp [Instr.index, asIntOf, run_underlying ht, hi, run_sizeOf hn, h1], h2⟩
      · cases hl
    · cases hl
  · cases hl

theorem run_sliceBound {y : Nat} {x : Value} {n d : Nat} (h : hbound y d (some x) = some n) (code : BoundsCode) : (Instr.sliceBound x y code).run P w = .ok n w ∧ n ≤ y := by
  unfold hbound at h
  split at h
  · cases ‹_ = none›
  · rename_i k i e
    cases e
    split at h <;> cases h
    rename_i hi
    exact ⟨by simp [Instr.sliceBound, asIntOf, hi], by omega⟩
  · cases h

theorem run_sliceBound_le {y y' : Nat} {x : Value} {n d : Nat} (h : hbound y d (some x) = some n) (hy : y ≤ y') (code : BoundsCode) : (Instr.sliceBound x y' code).run P w = .ok n w := by
  unfold hbound at h
  split at h
  · cases ‹_ = none›
  · rename_i k i e
    cases e
    split at h <;> cases h
    rename_i hi
    simp [Instr.sliceBound, asIntOf, show 0 ≤ i ∧ i ≤ y' by omega]
  · cases h

theorem sim_slice {t : TypeId} {x x' u : Value} {lo hi mx : Option Value} (hl : hslice P t x lo hi mx = some u) (hx : VRel μ x x') :
    ∃ u', (Instr.sliceAt t x' lo hi mx).run P w = .ok u' w ∧ VRel μ u u' := by
  unfold hslice at hl
  split at hl
  · rename_i s ht
    cases hx
    split at hl
    · cases hl
    · rename_i hmx
      cases mx with
      | some m => simp at hmx
      | none =>
      simp only [Option.bind_eq_some_iff] at hl
      obtain ⟨h, hh, l, hll, hl⟩ := hl
      cases hl
      refine ⟨_, ?_, .string _⟩
      cases hi with
      | none =>
        simp [hbound] at hh; subst hh
        cases lo with
        | none => simp [hbound] at hll; subst hll; simp [Instr.sliceAt, Instr.slice, run_underlying ht, Instr.sliceBounds]
        | some lo => simp [Instr.sliceAt, Instr.slice, run_underlying ht, Instr.sliceBounds, (run_sliceBound (P := P) (w := w) hll .sliceB).1]
      | some hi =>
        have h1 := (run_sliceBound (P := P) (w := w) hh .sliceAlen).1
        cases lo with
        | none => simp [hbound] at hll; subst hll; simp [Instr.sliceAt, Instr.slice, run_underlying ht, Instr.sliceBounds, h1]
        | some lo => simp [Instr.sliceAt, Instr.slice, run_underlying ht, Instr.sliceBounds, h1, (run_sliceBound (P := P) (w := w) hll .sliceB).1]
  · rename_i e a len cap ht
    split at hl
    · cases hl
    rename_i hmh
    simp only [Option.bind_eq_some_iff] at hl
    obtain ⟨m, hm, h, hh, l, hll, n, hn, hl⟩ := hl
    -- the bounds, at a real capacity that is no less, and the same where a most is said
    have hlen_of : hi = none → h = len := fun e => by subst e; simpa [hbound] using hh.symm
    have bounds : ∀ cap' : Nat, cap ≤ cap' → (Instr.sliceBounds true len cap' lo hi mx).run P w = .ok (l, h, if mx.isSome then m else cap') w := by
      intro cap' hc
      cases mx with
      | some mx =>
        have h0 := run_sliceBound_le (P := P) (w := w) hm hc .slice3Acap
        cases hi with
        | none => simp at hmh
        | some hi =>
          have h1 := (run_sliceBound (P := P) (w := w) hh .slice3B).1
          cases lo with
          | none => simp [hbound] at hll; subst hll; simp [Instr.sliceBounds, h0, h1]
          | some lo => simp [Instr.sliceBounds, h0, h1, (run_sliceBound (P := P) (w := w) hll .slice3C).1]
      | none =>
        simp [hbound] at hm; subst hm
        cases hi with
        | none =>
          have := hlen_of rfl; subst this
          cases lo with
          | none => simp [hbound] at hll; subst hll; simp [Instr.sliceBounds]
          | some lo => simp [Instr.sliceBounds, (run_sliceBound (P := P) (w := w) hll .sliceB).1]
        | some hi =>
          have h1 := run_sliceBound_le (P := P) (w := w) hh hc .sliceAcap
          cases lo with
          | none => simp [hbound] at hll; subst hll; simp [Instr.sliceBounds, h1]
          | some lo => simp [Instr.sliceBounds, h1, (run_sliceBound (P := P) (w := w) hll .sliceB).1]
    have hlh : l ≤ h := by
      cases lo with
      | none => simp [hbound] at hll; omega
      | some lo => exact (run_sliceBound (P := P) (w := w) hll .sliceB).2
    have hhm : hi.isSome → h ≤ m := fun hs => by
      cases hi with
      | none => simp at hs
      | some hi => exact (run_sliceBound (P := P) (w := w) hh .sliceB).2
    have hmc : m ≤ cap := by
      cases mx with
      | none => simp [hbound] at hm; omega
      | some mx => exact (run_sliceBound (P := P) (w := w) hm .sliceB).2
    have hmx' : mx = none → m = cap := fun e => by subst e; simpa [hbound] using hm.symm
    have hhi' : mx.isSome → hi.isSome := fun e => by
      cases hi <;> simp_all
    have run : ∀ (ad : Option Addr) (cap' : Nat), cap ≤ cap' → (Instr.sliceAt t (.slice ad len cap') lo hi mx).run P w =
        .ok (.slice (if (if mx.isSome then m else cap') = l then ad else ad.map (·.add (l * n))) (h - l) ((if mx.isSome then m else cap') - l)) w := by
      intro ad cap' hc
      simp [Instr.sliceAt, Instr.slice, run_underlying ht, bounds cap' hc, run_sizeOf hn]
    have hhm' : len ≤ cap → h ≤ m := fun hlc => by
      cases hi with
      | some hi => exact hhm rfl
      | none =>
        have h1 := hlen_of rfl
        cases mx with
        | none => have := hmx' rfl; omega
        | some mx => simp at hmh
    cases hx with
    | nilSlice =>
      cases hl
      have := run none 0 (Nat.le_refl _)
      refine ⟨_, this, ?_⟩
      have hm0 : m = 0 := by omega
      have hh0 : h = 0 := by have := hhm' (Nat.le_refl _); omega
      subst hm0; subst hh0
      simp; exact .nilSlice
    | slice b o _ _ p hp hlc =>
      simp only at hl
      cases hl
      have hmeq : (if mx.isSome then m else cap) = m := by
        cases mx with
        | none => simpa using (hmx' rfl).symm
        | some _ => rfl
      have hr := run (some ⟨p.g, p.d + o, none⟩) cap (Nat.le_refl _)
      rw [hmeq] at hr
      refine ⟨_, hr, ?_⟩
      have hhm2 := hhm' hlc
      by_cases hml : m = l
      · rw [if_pos hml, if_pos hml]; exact .slice _ _ _ _ p hp (by omega)
      · rw [if_neg hml, if_neg hml]; simp only [Option.map_some, add_cell, Nat.add_assoc]; exact .slice _ _ _ _ p hp (by omega)
    | grown b o _ _ cap' e' p hp hlc hcc hx =>
      simp only at hl
      have hhm2 := hhm' hlc
      split at hl
      · cases hl
      rename_i hk
      have hen : e' = n := by omega
      subst hen
      have hr := run (some ⟨p.g, p.d + o, none⟩) cap' hcc
      split at hl
      · rename_i hs
        split at hl <;> cases hl
        rw [if_pos hs] at hr
        refine ⟨_, hr, ?_⟩
        by_cases hml : m = l
        · rw [if_pos hml, if_pos hml]; exact .slice _ _ _ _ p hp (by omega)
        · rw [if_neg hml, if_neg hml]; simp only [Option.map_some, add_cell, Nat.add_assoc]; exact .slice _ _ _ _ p hp (by omega)
      · rename_i hs
        have hmc' : m = cap := hmx' (by cases mx <;> simp_all)
        rw [if_neg hs] at hr
        split at hl <;> cases hl
        · rename_i hml
          refine ⟨_, hr, ?_⟩
          have hh0 : h - l = 0 := by omega
          rw [hh0]
          by_cases hcl : cap' = l
          · rw [if_pos hcl]
            refine .hole _ _ _ _ _ p hp ?_
            have : cap' - l = 0 := by omega
            rw [this]; have := Nat.zero_le (cap' * e'); omega
          · rw [if_neg hcl]; simp only [Option.map_some, add_cell, Nat.add_assoc]
            refine .hole _ _ _ _ _ p hp ?_
            have : l * e' + (cap' - l) * e' = cap' * e' := by rw [← Nat.add_mul]; congr 1; omega
            omega
        · rename_i hml
          have hcl : cap' ≠ l := by omega
          rw [if_neg hcl] at hr
          refine ⟨_, hr, ?_⟩
          simp only [Option.map_some, add_cell, Nat.add_assoc]
          refine .grown _ _ _ _ _ _ p hp (by omega) (by omega) ?_
          have : l * e' + (cap' - l) * e' = cap' * e' := by rw [← Nat.add_mul]; congr 1; omega
          omega
    | void b o ad =>
      simp only at hl
      cases hl
      have hhm2 := hhm' (Nat.le_refl _)
      have hm0 : m = 0 := by omega
      have hl0 : l = 0 := by omega
      have hh0 : h = 0 := by omega
      have hmeq : (if mx.isSome then m else 0) = m := by
        cases mx with
        | none => simpa using (hmx' rfl).symm
        | some _ => rfl
      have hr := run (some ad) 0 (Nat.le_refl _)
      rw [hmeq] at hr
      refine ⟨_, hr, ?_⟩
      subst hm0; subst hl0; subst hh0
      simp only [if_true, Nat.sub_self]
      exact .void _ _ _
    | hole b o o2 cap' e' p hp hx =>
      simp only at hl
      have hhm2 := hhm' (Nat.le_refl _)
      split at hl
      · cases hl
      rename_i hk
      have hen : e' = n := by omega
      subst hen
      have hr := run (some ⟨p.g, p.d + o2, none⟩) cap' (Nat.zero_le _)
      split at hl
      · rename_i hs
        split at hl
        · omega
        · cases hl
      · rename_i hs
        have hm0 : m = 0 := by omega
        have hl0 : l = 0 := by omega
        have hh0 : h = 0 := by omega
        rw [if_neg hs] at hr
        subst hm0; subst hl0; subst hh0
        simp at hl
        subst hl
        refine ⟨_, hr, ?_⟩
        have : (if cap' = 0 then some ({ block := p.g, off := p.d + o2 } : Addr) else Option.map (fun x : Addr => x.add (0 * e')) (some { block := p.g, off := p.d + o2 })) = some ⟨p.g, p.d + o2, none⟩ := by
          split <;> simp [add_cell]
        rw [this]
        exact .hole _ _ _ _ _ p hp hx
  · cases hl

end Go.HL
/-
  A high level over the model, part 5: the model's operations meet those of the high level: arithmetic, comparisons, what is made, appends, copies, maps.
-/
namespace Go.HL
open Go.RowKit

variable {P : Program} {B : Nat} {μ : Mu} {H : HHeap} {w : World}

theorem run_hint {op : BinOp} {k : IntKind} {x y : Int} {v : Value} (h : hint op k x y = some v) (hs : op ≠ .shl ∧ op ≠ .shr) (t : TypeId) (w : World) : (binOp op t (.int k x) (.int k y)).run P w = .ok v w := by
  cases op <;> simp_all [hint, binOp, Op.intArith, Op.intDiv, Op.intBits, Op.intCmp]

theorem run_hshift {op : BinOp} {k k' : IntKind} {x y : Int} {v : Value} (h : hshift op k x y = some v) (hs : op = .shl ∨ op = .shr) (t : TypeId) (w : World) : (binOp op t (.int k x) (.int k' y)).run P w = .ok v w := by
  unfold hshift at h
  split at h
  · cases h
  · rename_i hy
    rcases hs with rfl | rfl <;> simp at h <;> subst h <;> simp [binOp, Op.shift, hy]

theorem run_hstr {op : BinOp} {x y : ByteArray} {v : Value} (h : hstr op x y = some v) (t : TypeId) (w : World) : (binOp op t (.string x) (.string y)).run P w = .ok v w := by
  cases op <;> simp_all [hstr, binOp, Op.stringOp]
  omega

theorem eqGuard_ok (op : BinOp) (t : TypeId) (x y : Operand) (a b : Value) (h : (∀ c, a ≠ .agg c) ∧ a ≠ .nilIface ∨ (∀ c, b ≠ .agg c) ∧ b ≠ .nilIface) (w : World) : (eqGuard op t x y a b).run P w = .ok () w := by
  rcases h with ⟨h1, h2⟩ | ⟨h1, h2⟩
  · cases a <;> first | exact absurd rfl (h1 _) | exact absurd rfl h2 | (simp only [eqGuard]; split <;> simp)
  · cases b <;> first | exact absurd rfl (h1 _) | exact absurd rfl h2 | (simp only [eqGuard]; split <;> simp)

theorem equal_of {t : TypeId} {x y : Value} {b : Bool} (h : ∀ d, (Op.equalIn (d + 1) t x y).run P w = .ok b w) : (Op.equal t x y).run P w = .ok b w := by
  unfold Op.equal Op.maxDepth
  exact h 9999

theorem equal_bool {t : TypeId} (ht : P.underlying t = some .bool) (a b : Bool) : (Op.equal t (.bool a) (.bool b)).run P w = .ok (a == b) w :=
  equal_of fun d => by simp [Op.equalIn, run_underlying ht]
theorem equal_ptr {t e : TypeId} (ht : P.underlying t = some (.pointer e)) (a b : Option Addr) (h : (a.isNone || b.isNone) = true) : (Op.equal t (.pointer a) (.pointer b)).run P w = .ok (a.isNone && b.isNone) w :=
  equal_of fun d => by cases a <;> cases b <;> simp at h <;> simp [Op.equalIn, run_underlying ht]
theorem equal_slice {t e : TypeId} (ht : P.underlying t = some (.slice e)) (a b : Option Addr) (l c l' c' : Nat) (h : (a.isNone || b.isNone) = true) : (Op.equal t (.slice a l c) (.slice b l' c')).run P w = .ok (a.isNone && b.isNone) w :=
  equal_of fun d => by cases a <;> cases b <;> simp at h <;> simp [Op.equalIn, run_underlying ht]
theorem equal_func {t : TypeId} {p r : Array TypeId} {v : Bool} (ht : P.underlying t = some (.func p r v)) (f : Fn) (a b : Array Value) :
    (Op.equal t .nilFunc (.func f a b)).run P w = .ok false w ∧ (Op.equal t (.func f a b) .nilFunc).run P w = .ok false w ∧ (Op.equal t .nilFunc .nilFunc).run P w = .ok true w :=
  ⟨equal_of fun d => by simp [Op.equalIn, run_underlying ht], equal_of fun d => by simp [Op.equalIn, run_underlying ht], equal_of fun d => by simp [Op.equalIn, run_underlying ht]⟩
theorem equal_iface {t : TypeId} {ms : Array (String × TypeId)} (ht : P.underlying t = some (.interface ms)) (u : TypeId) (v : Value) :
    (Op.equal t .nilIface (.iface u v)).run P w = .ok false w ∧ (Op.equal t (.iface u v) .nilIface).run P w = .ok false w :=
  ⟨equal_of fun d => by simp [Op.equalIn, run_underlying ht], equal_of fun d => by simp [Op.equalIn, run_underlying ht]⟩

theorem sim_bin {op : BinOp} {t : TypeId} {x y u x' y' : Value} (ox oy : Operand) (hl : hbin P op t x y = some u) (hx : VRel μ x x') (hy : VRel μ y y') :
    (do eqGuard op t ox oy x' y'; binOp op t x' y' : Sem Value).run P w = .ok u w ∧ VRel μ u u := by
  have fl : ∀ v : Value, (∃ b, v = .bool b) ∨ (∃ k n, v = .int k n) ∨ (∃ s, v = .string s) → VRel μ v v := by
    rintro v (⟨b, rfl⟩ | ⟨k, n, rfl⟩ | ⟨s, rfl⟩)
    · exact .bool _
    · exact .int _ _
    · exact .string _
  have hfi : ∀ {op : BinOp} {k : IntKind} {x y : Int} {v : Value}, hint op k x y = some v → VRel μ v v := by
    intro op k x y v h
    apply fl
    cases op <;> simp [hint] at h <;> first | exact .inr (.inl ⟨_, _, h.symm⟩) | exact .inl ⟨_, h.symm⟩ | exact .inr (.inl ⟨_, _, h.2.symm⟩)
  have hfs : ∀ {op : BinOp} {k : IntKind} {x y : Int} {v : Value}, hshift op k x y = some v → VRel μ v v := by
    intro op k x y v h
    apply fl
    unfold hshift at h
    split at h
    · cases h
    · cases op <;> simp at h <;> exact .inr (.inl ⟨_, _, h.symm⟩)
  have hft : ∀ {op : BinOp} {x y : ByteArray} {v : Value}, hstr op x y = some v → VRel μ v v := by
    intro op x y v h
    apply fl
    cases op <;> simp [hstr] at h <;> first | exact .inr (.inr ⟨_, h.symm⟩) | exact .inl ⟨_, h.symm⟩ | exact .inr (.inr ⟨_, h.2.symm⟩)
  unfold hbin at hl
  split at hl
  · rename_i k a k' b
    cases hx; cases hy
    have hg := eqGuard_ok (P := P) op t ox oy (.int k a) (.int k' b) (.inl (by simp)) w
    split at hl
    · exact ⟨by simp [hg, run_hshift hl (.inl rfl)], hfs hl⟩
    · exact ⟨by simp [hg, run_hshift hl (.inr rfl)], hfs hl⟩
    · rename_i h1 h2
      split at hl
      · subst_vars; exact ⟨by simp [hg, run_hint hl ⟨h1, h2⟩], hfi hl⟩
      · cases hl
  · rename_i a b
    cases hx; cases hy
    have hg := eqGuard_ok (P := P) op t ox oy (.string a) (.string b) (.inl (by simp)) w
    exact ⟨by simp [hg, run_hstr hl], hft hl⟩
  · rename_i a b
    cases hx; cases hy
    have hg := eqGuard_ok (P := P) op t ox oy (.bool a) (.bool b) (.inl (by simp)) w
    split at hl
    · rename_i ht
      have ht' := kind_bool ht
      have hq := equal_bool (w := w) ht' a b
      split at hl <;> cases hl
      · exact ⟨by simp [hg, binOp, hq], .bool _⟩
      · exact ⟨by simp [hg, binOp, hq], .bool _⟩
    · cases hl
  · rename_i a b
    split at hl
    · rename_i ht
      obtain ⟨e, ht'⟩ := kind_pointer ht
      have hxs : ∃ a', x' = .pointer a' ∧ a'.isNone = a.isNone := by cases hx <;> exact ⟨_, rfl, rfl⟩
      have hys : ∃ a', y' = .pointer a' ∧ a'.isNone = b.isNone := by cases hy <;> exact ⟨_, rfl, rfl⟩
      obtain ⟨a', rfl, ha⟩ := hxs
      obtain ⟨b', rfl, hb⟩ := hys
      have hg := eqGuard_ok (P := P) op t ox oy (.pointer a') (.pointer b') (.inl (by simp)) w
      split at hl
      · rename_i hnil
        rw [← ha, ← hb] at hnil
        have hq := equal_ptr (w := w) ht' a' b' hnil
        rw [ha, hb] at hq
        split at hl <;> cases hl
        · exact ⟨by simp [hg, binOp, hq], .bool _⟩
        · exact ⟨by simp [hg, binOp, hq], .bool _⟩
      · cases hl
    · cases hl
  · rename_i a la ca b lb cb
    split at hl
    · rename_i ht
      obtain ⟨e, ht'⟩ := kind_slice ht
      have hxs : ∃ a' l c, x' = .slice a' l c ∧ a'.isNone = a.isNone := by cases hx <;> exact ⟨_, _, _, rfl, rfl⟩
      have hys : ∃ a' l c, y' = .slice a' l c ∧ a'.isNone = b.isNone := by cases hy <;> exact ⟨_, _, _, rfl, rfl⟩
      obtain ⟨a', l, c, rfl, ha⟩ := hxs
      obtain ⟨b', l', c', rfl, hb⟩ := hys
      have hg := eqGuard_ok (P := P) op t ox oy (.slice a' l c) (.slice b' l' c') (.inl (by simp)) w
      split at hl
      · rename_i hnil
        rw [← ha, ← hb] at hnil
        have hq := equal_slice (w := w) ht' a' b' l c l' c' hnil
        rw [ha, hb] at hq
        split at hl <;> cases hl
        · exact ⟨by simp [hg, binOp, hq], .bool _⟩
        · exact ⟨by simp [hg, binOp, hq], .bool _⟩
      · cases hl
    · cases hl
  · split at hl
    · rename_i ht
      obtain ⟨e, e1, e2, ht'⟩ := kind_func ht
      cases hx; cases hy
      have hq := fun f a b => equal_func (w := w) ht' f a b
      have hg := fun f a => eqGuard_ok (P := P) op t ox oy .nilFunc f (.inl (by simp)) a
      split at hl <;> cases hl
      · exact ⟨by simp [hg, binOp, hq], .bool _⟩
      · exact ⟨by simp [hg, binOp, hq], .bool _⟩
    · cases hl
  · split at hl
    · rename_i ht
      obtain ⟨e, e1, e2, ht'⟩ := kind_func ht
      cases hx; cases hy
      have hq := fun f a b => equal_func (w := w) ht' f a b
      have hg := fun f a => eqGuard_ok (P := P) op t ox oy f .nilFunc (.inr (by simp)) a
      split at hl <;> cases hl
      · exact ⟨by simp [hg, binOp, hq], .bool _⟩
      · exact ⟨by simp [hg, binOp, hq], .bool _⟩
    · cases hl
  · split at hl
    · rename_i ht
      obtain ⟨e, e1, e2, ht'⟩ := kind_func ht
      cases hx; cases hy
      have hq := fun f a b => equal_func (w := w) ht' f a b
      have hg := fun f a => eqGuard_ok (P := P) op t ox oy f .nilFunc (.inr (by simp)) a
      split at hl <;> cases hl
      · exact ⟨by simp [hg, binOp, (hq (.func 0) #[] #[]).2.2], .bool _⟩
      · exact ⟨by simp [hg, binOp, (hq (.func 0) #[] #[]).2.2], .bool _⟩
    · cases hl
  · split at hl
    · rename_i ht
      obtain ⟨e, ht'⟩ := kind_interface ht
      cases hx; cases hy
      have hq := fun u v => equal_iface (w := w) ht' u v
      have hg := fun f v a => eqGuard_ok (P := P) op t ox oy .nilIface (.iface f v) (.inr (by simp)) a
      split at hl <;> cases hl
      · exact ⟨by simp [hg, binOp, hq], .bool _⟩
      · exact ⟨by simp [hg, binOp, hq], .bool _⟩
    · cases hl
  · split at hl
    · rename_i ht
      obtain ⟨e, ht'⟩ := kind_interface ht
      cases hx; cases hy
      have hq := fun u v => equal_iface (w := w) ht' u v
      have hg := fun f v a => eqGuard_ok (P := P) op t ox oy (.iface f v) .nilIface (.inl (by simp)) a
      split at hl <;> cases hl
      · exact ⟨by simp [hg, binOp, hq], .bool _⟩
      · exact ⟨by simp [hg, binOp, hq], .bool _⟩
    · cases hl
  · cases hl

theorem sim_unary {op : UnOp} {x u x' : Value} (hl : hunary op x = some u) (hx : VRel μ x x') : (Op.unary op x').run P w = .ok u w ∧ VRel μ u u := by
  unfold hunary at hl
  split at hl
  · cases hx; cases hl; exact ⟨by simp [Op.unary, Op.intArith], .int _ _⟩
  · cases hx; cases hl; exact ⟨by simp [Op.unary], .bool _⟩
  · cases hl

end Go.HL
/-
  A high level over the model, part 6: what is made, appends, copies.
-/
namespace Go.HL
open Go.RowKit

variable {P : Program} {B : Nat} {μ : Mu} {H : HHeap} {w : World}

/-- What is known of a type: its zero's cells, how many cells and bytes a value has. -/
structure Elem where
  zero : List Value
  size : Nat
  bytes : Nat

def helem (P : Program) (t : TypeId) : Option Elem :=
  match P.info? t with
  | some i => match i.zero with
    | some z => if z.cells.toList.all flat1 ∧ z.cells.size = i.size then some ⟨z.cells.toList, i.size, i.bytes⟩ else none
    | none => none
  | none => none

theorem helem_spec {t : TypeId} {e : Elem} (h : helem P t = some e) : ∃ i z, P.info? t = some i ∧ i.zero = some z ∧ z.cells.toList = e.zero ∧ i.size = e.size ∧ i.bytes = e.bytes ∧ e.zero.all flat1 = true ∧ e.zero.length = e.size := by
  unfold helem at h
  split at h
  · rename_i i hi
    split at h
    · rename_i z hz
      split at h <;> cases h
      rename_i hc
      exact ⟨i, z, hi, hz, rfl, rfl, rfl, hc.1, by simpa using hc.2⟩
    · cases h
  · cases h

theorem flat1_one {v : Value} (h : flat1 v = true) : v.oneCell' = true := by
  cases v <;> simp [flat1] at h <;> rfl

theorem allFlat_one {vs : List Value} (h : vs.all flat1 = true) : ∀ v ∈ vs, v.oneCell' = true := fun v hv => flat1_one (List.all_eq_true.1 h v hv)

def halloc (P : Program) (H : HHeap) (t : TypeId) : Option (Value × HHeap) :=
  (helem P t).map fun e => (.pointer (some ⟨H.next, 0, none⟩), H.push (.cells e.zero true))

theorem sim_newVar (h : Rel B μ H w) (t : TypeId) {x x' : Value} (hx : VRels μ x.cells.toList x'.cells.toList) (h1 : ∀ v ∈ x.cells.toList, v.oneCell' = true) :
    ∃ μ' w' a, (newVar t x').run P w = .ok a w' ∧ Step B μ H w μ' (H.push (.cells x.cells.toList true)) w' ∧ VRel μ' (.pointer (some ⟨H.next, 0, none⟩)) (.pointer (some a)) := by
  have h2 := h.allocCells x.cells.toList x'.cells t (by rw [← hx.length, List.take_length]; exact hx) h1
  refine ⟨_, _, ⟨w.heap.size, 0, none⟩, ?_, h2, ?_⟩
  · simp [newVar, newRow]
  · exact .ptr _ _ ⟨w.heap.size, 0, x'.cells.size⟩ (by simp [Mu.add])

theorem sim_alloc (h : Rel B μ H w) {t : TypeId} {v : Value} {H' : HHeap} (hl : halloc P H t = some (v, H')) :
    ∃ μ' w' v', (Instr.alloc t true (.tuple #[])).run P w = .ok v' w' ∧ Step B μ H w μ' H' w' ∧ VRel μ' v v' := by
  simp only [halloc, Option.map_eq_some_iff] at hl
  obtain ⟨e, he, hl⟩ := hl
  cases hl
  obtain ⟨i, z, hi, hz, hze, _, _, hf, _⟩ := helem_spec he
  obtain ⟨μ', w', a, r1, r2, r5⟩ := sim_newVar (P := P) h t (x := z) (x' := z) (.of_flat1 (by rw [hze]; exact hf)) (by rw [hze]; exact allFlat_one hf)
  rw [hze] at r2
  exact ⟨μ', w', _, by simp [Instr.alloc, zeroValue, typeInfo, hi, hz, r1], r2, r5⟩

def hbox (H : HHeap) (x : Value) : Option (Value × HHeap) :=
  if allOne x.cells.toList then some (.pointer (some ⟨H.next, 0, none⟩), H.push (.cells x.cells.toList true)) else none

theorem sim_box (h : Rel B μ H w) (t : TypeId) {x x' v : Value} {H' : HHeap} (hl : hbox H x = some (v, H')) (hx : VRel μ x x') :
    ∃ μ' w' v', (Instr.box t x').run P w = .ok v' w' ∧ Step B μ H w μ' H' w' ∧ VRel μ' v v' := by
  unfold hbox at hl
  split at hl <;> cases hl
  rename_i h1
  obtain ⟨μ', w', a, r1, r2, r5⟩ := sim_newVar (P := P) h t hx.cells (List.all_eq_true.1 h1)
  exact ⟨μ', w', _, by simp [Instr.box, r1], r2, r5⟩

/-- Parts laid into cells. -/
def hfill (place : Nat → Option (Nat × Nat)) (cells : List Value) : List (Nat × Value) → Option (List Value)
  | [] => some cells
  | (i, v) :: rest =>
    match place i with
    | none => none
    | some (off, size) => if v.cells.size = size ∧ off + size ≤ cells.length then hfill place (splice cells off v.cells.toList) rest else none

theorem foldl_splice : ∀ (vs : List Value) (k off : Nat) (cs : Array Value), ((vs.zipIdx k).foldl (fun cs (c, j) => cs.setIfInBounds (off + j) c) cs).toList = splice cs.toList (off + k) vs
  | [], _, _, _ => rfl
  | v :: vs, k, off, cs => by
    simp only [List.zipIdx_cons, List.foldl_cons, splice]
    rw [foldl_splice vs (k + 1) off]
    simp [Nat.add_assoc]

theorem splice_rels {vs vs' : List Value} (hv : VRels μ vs vs') : ∀ {cs cs' : List Value} (o : Nat), VRels μ cs cs' → VRels μ (splice cs o vs) (splice cs' o vs') := by
  induction vs generalizing vs' with
  | nil => intro cs cs' o h; cases hv; exact h
  | cons v vs ih =>
    intro cs cs' o h
    cases hv with
    | cons _ v' _ vs' h1 h2 => exact ih h2 _ (h.set o h1)

inductive PRels (μ : Mu) : List (Nat × Value) → List (Nat × Value) → Prop where
  | nil : PRels μ [] []
  | cons (i : Nat) (v v' : Value) (ps ps' : List (Nat × Value)) (h : VRel μ v v') (hs : PRels μ ps ps') : PRels μ ((i, v) :: ps) ((i, v') :: ps')

theorem fill_rel {place : Nat → Option (Nat × Nat)} : ∀ {ps ps' : List (Nat × Value)} {cs out : List Value} {cs' : Array Value}, PRels μ ps ps' → VRels μ cs cs'.toList → hfill place cs ps = some out →
    ∃ out', Instr.fill place cs' ps' = some out' ∧ VRels μ out out'.toList
  | _, _, cs, out, cs', .nil, h, e => by simp [hfill] at e; subst e; exact ⟨cs', by simp [Instr.fill], h⟩
  | _, _, cs, out, cs', .cons i v v' ps ps' hv hs, h, e => by
    simp only [hfill] at e
    split at e
    · cases e
    · rename_i off size hp
      split at e
      · rename_i hc
        have hcl := hv.cells.length
        have hl := h.length
        simp at hcl hl
        have key : ((v'.cells.zipIdx.foldl (fun cs (c, j) => cs.setIfInBounds (off + j) c) cs')).toList = splice cs'.toList off v'.cells.toList := by
          rw [← Array.foldl_toList, Array.toList_zipIdx, foldl_splice]; simp
        obtain ⟨out', h1, h2⟩ := fill_rel (cs' := (v'.cells.zipIdx.foldl (fun cs (c, j) => cs.setIfInBounds (off + j) c) cs')) hs (by rw [key]; exact splice_rels hv.cells off h) e
        refine ⟨out', ?_, h2⟩
        simp only [Instr.fill, hp]
        rw [if_neg (by simp; omega)]
        exact h1
      · cases e

def hplaces (P : Program) (fs : List Field) : Option (List (Nat × Nat)) :=
  match fs with
  | [] => some []
  | f :: fs => (hsize P f.type).bind fun n => (hplaces P fs).map fun r => (f.offset, n) :: r

theorem run_places : ∀ (fs : List Field) {r : List (Nat × Nat)}, hplaces P fs = some r → (fs.mapM (m := Sem) fun f => do pure (f.offset, ← sizeOf f.type)).run P w = .ok r w
  | [], r, h => by simp [hplaces] at h; subst h; rfl
  | f :: fs, r, h => by
    simp only [hplaces, Option.bind_eq_some_iff, Option.map_eq_some_iff] at h
    obtain ⟨n, hn, r', hr', h⟩ := h
    subst h
    have ih := run_places fs hr'
    simp only [List.mapM_cons, Sem.run_bind, run_sizeOf hn, Result.andThen_ok, Sem.run_pure, ih]

def hbuild (P : Program) (t : TypeId) (ps : List (Nat × Value)) : Option Value :=
  (helem P t).bind fun e =>
  match P.underlying t with
  | some (.struct fs) => (hplaces P fs.toList).bind fun r => (hfill (fun i => r[i]?) e.zero ps).map fun cs => .agg cs.toArray
  | some (.array _ u) => (hsize P u).bind fun n => (hfill (fun i => some (i * n, n)) e.zero ps).map fun cs => .agg cs.toArray
  | _ => none

theorem sim_build {t : TypeId} {ps ps' : List (Nat × Value)} {v : Value} (hl : hbuild P t ps = some v) (hp : PRels μ ps ps') :
    ∃ v', (Instr.build t ps'.toArray).run P w = .ok v' w ∧ VRel μ v v' := by
  simp only [hbuild, Option.bind_eq_some_iff] at hl
  obtain ⟨e, he, hl⟩ := hl
  obtain ⟨i, z, hi, hz, hze, _, _, hf, _⟩ := helem_spec he
  have hzr : VRels μ e.zero z.cells.toList := by rw [hze]; exact .of_flat1 hf
  split at hl
  · rename_i fs ht
    simp only [Option.bind_eq_some_iff, Option.map_eq_some_iff] at hl
    obtain ⟨r, hr, cs, hcs, hl⟩ := hl
    subst hl
    obtain ⟨out', h1, h2⟩ := fill_rel hp hzr hcs
    refine ⟨.agg out', ?_, by have := VRel.agg cs out'.toList h2; simpa using this⟩
    have hrun : (fs.mapM (m := Sem) fun f => do pure (f.offset, ← sizeOf f.type)).run P w = .ok r.toArray w := by
      have := run_places (P := P) (w := w) fs.toList hr
      rw [Array.mapM_eq_mapM_toList, Sem.run_map, this]; rfl
    simp only [Instr.build, Sem.run_bind, zeroValue, typeInfo, run_program, hi, hz, Result.andThen_ok, Sem.run_pure, run_underlying ht, hrun]
    have h1' : Instr.fill (fun x => r.toArray[x]?) z.cells ps' = some out' := by simpa using h1
    simp only [h1', Sem.run_pure]
  · rename_i l u ht
    simp only [Option.bind_eq_some_iff, Option.map_eq_some_iff] at hl
    obtain ⟨n, hn, cs, hcs, hl⟩ := hl
    subst hl
    obtain ⟨out', h1, h2⟩ := fill_rel hp hzr hcs
    refine ⟨.agg out', ?_, by have := VRel.agg cs out'.toList h2; simpa using this⟩
    simp [Instr.build, zeroValue, typeInfo, hi, hz, run_underlying ht, run_sizeOf hn, h1]
  · cases hl

/-- So many zeros. -/
def hzeros (zs : List Value) (n : Nat) : List Value :=
  match zs with
  | [z] => List.replicate n z
  | zs => (List.range n).map fun i => zs.getD (i % zs.length) undef

theorem zeros_eq (zs : List Value) (n : Nat) (hpos : 0 < zs.length) : (Array.map (fun x => zs.toArray[x % zs.toArray.size]!) (Array.range n)).toList = hzeros zs n := by
  unfold hzeros
  split
  · rename_i z
    simp only [Array.toList_map, Array.toList_range]
    apply List.ext_getElem
    · simp
    · intro i h1 h2
      simp [Nat.mod_one]
  · simp only [Array.toList_map, Array.toList_range]
    apply List.map_congr_left
    intro i _
    have : i % zs.length < zs.length := Nat.mod_lt _ hpos
    simp [this, List.getD]

theorem hzeros_flat {zs : List Value} (h : zs.all flat1 = true) (n : Nat) (hpos : 0 < zs.length) : (hzeros zs n).all flat1 = true := by
  unfold hzeros
  split
  · rename_i z
    simp at h
    rw [List.all_eq_true]; intro x hx
    rw [List.mem_replicate] at hx
    rw [hx.2]; exact h
  · rw [List.all_eq_true]; intro x hx
    obtain ⟨i, _, rfl⟩ := List.mem_map.1 hx
    have hlt : i % zs.length < zs.length := Nat.mod_lt _ hpos
    simp [List.getD, hlt]
    exact List.all_eq_true.1 h _ (List.getElem_mem hlt)

theorem hzeros_length (zs : List Value) (n : Nat) : (hzeros zs n).length = n := by
  unfold hzeros; split <;> simp

def hmakeSlice (P : Program) (H : HHeap) (t : TypeId) (l c : Value) : Option (Value × HHeap) :=
  match P.underlying t, l, c with
  | some (.slice u), .int _ l, .int _ c => (helem P u).bind fun e =>
    if 0 < e.size ∧ 0 ≤ l ∧ l ≤ c ∧ c * e.bytes ≤ 1099511627776 ∧ c ≤ 1099511627776 then
      some (.slice (some ⟨H.next, 0, none⟩) l.toNat c.toNat, H.push (.cells (hzeros e.zero (c.toNat * e.size)) true))
    else none
  | _, _, _ => none

theorem wrap_small {c : Int} (h0 : 0 ≤ c) (h1 : c ≤ 1099511627776) : IntKind.i64.wrap c = c := by
  rw [IntKind.wrap_i64]; omega

theorem sim_makeSlice (h : Rel B μ H w) {t : TypeId} {l c v : Value} {H' : HHeap} (hl : hmakeSlice P H t l c = some (v, H')) :
    ∃ μ' w' v', (Instr.makeSlice t l c).run P w = .ok v' w' ∧ Step B μ H w μ' H' w' ∧ VRel μ' v v' := by
  unfold hmakeSlice at hl
  split at hl
  · rename_i u k l k' c ht
    simp only [Option.bind_eq_some_iff] at hl
    obtain ⟨e, he, hl⟩ := hl
    split at hl <;> cases hl
    rename_i hc
    obtain ⟨hs, h0, hlc, hb, hc1⟩ := hc
    obtain ⟨i, z, hi, hz, hze, hsz, hby, hf, hzl⟩ := helem_spec he
    have wl := wrap_small h0 (by omega : l ≤ 1099511627776)
    have wc := wrap_small (by omega : 0 ≤ c) hc1
    have hpos : 0 < e.zero.length := by omega
    have hza : z.cells = e.zero.toArray := by rw [← hze]
    have hflat := hzeros_flat hf (c.toNat * e.size) hpos
    have hlenz := hzeros_length e.zero (c.toNat * e.size)
    have r2 := h.allocCells (hzeros e.zero (c.toNat * e.size)) (Array.map (fun x => e.zero.toArray[x % e.zero.toArray.size]!) (Array.range (c.toNat * e.size))) u
      (by rw [zeros_eq _ _ hpos, List.take_length]; exact .of_flat1 hflat) (allFlat_one hflat)
    refine ⟨_, _, .slice (some ⟨w.heap.size, 0, none⟩) l.toNat c.toNat, ?_, r2, ?_⟩
    · have t1 : ¬ (c < 0) := by omega
      have t2 : ¬ (281474976710656 < (e.bytes : Int) * c) := by rw [Int.mul_comm]; omega
      have t3 : ¬ (l < 0) := by omega
      have t4 : ¬ (c < l) := by omega
      have hr0 : Array.range 0 = #[] := rfl
      by_cases hz0 : c.toNat * e.size = 0
      · simp [Instr.makeSlice, run_underlying ht, asInt, asIntOf, typeInfo, hi, hby, hsz, wl, wc, t1, t2, t3, t4, sizeOf, newRow, hz0, hr0]
      · simp [Instr.makeSlice, run_underlying ht, asInt, asIntOf, typeInfo, hi, hby, hsz, wl, wc, t1, t2, t3, t4, sizeOf, newRow, hz0, zeroValue, hz, hza]
    · exact .slice _ _ _ _ ⟨w.heap.size, 0, (Array.map (fun x => e.zero.toArray[x % e.zero.toArray.size]!) (Array.range (c.toNat * e.size))).size⟩ (by simp [Mu.add]) (by omega)
  · cases hl

def hbuildSlice (P : Program) (H : HHeap) (t : TypeId) (len : Nat) (ps : List (Nat × Value)) : Option (Value × HHeap) :=
  match P.underlying t with
  | some (.slice u) => (helem P u).bind fun e =>
    if 0 < e.size ∧ len * e.size ≤ 16777216 then
      (hfill (fun i => some (i * e.size, e.size)) (hzeros e.zero (len * e.size)) ps).bind fun cs =>
        if allOne cs then some (.slice (some ⟨H.next, 0, none⟩) len len, H.push (.cells cs true)) else none
    else none
  | _ => none

theorem sim_buildSlice (h : Rel B μ H w) {t : TypeId} {len : Nat} {ps ps' : List (Nat × Value)} {v : Value} {H' : HHeap} (hl : hbuildSlice P H t len ps = some (v, H')) (hp : PRels μ ps ps') :
    ∃ μ' w' v', (Instr.buildSlice t len ps'.toArray).run P w = .ok v' w' ∧ Step B μ H w μ' H' w' ∧ VRel μ' v v' := by
  unfold hbuildSlice at hl
  split at hl
  · rename_i u ht
    simp only [Option.bind_eq_some_iff] at hl
    obtain ⟨e, he, hl⟩ := hl
    split at hl
    · rename_i hc
      obtain ⟨hs, hb⟩ := hc
      simp only [Option.bind_eq_some_iff] at hl
      obtain ⟨cs, hcs, hl⟩ := hl
      split at hl <;> cases hl
      rename_i h1
      obtain ⟨i, z, hi, hz, hze, hsz, hby, hf, hzl⟩ := helem_spec he
      have hpos : 0 < e.zero.length := by omega
      have hza : z.cells = e.zero.toArray := by rw [← hze]
      have hflat := hzeros_flat hf (len * e.size) hpos
      obtain ⟨out', f1, f2⟩ := fill_rel (cs' := Array.map (fun x => e.zero.toArray[x % e.zero.toArray.size]!) (Array.range (len * e.size))) hp (by rw [zeros_eq _ _ hpos]; exact .of_flat1 hflat) hcs
      have r2 := h.allocCells cs out' u (by rw [← f2.length, List.take_length]; exact f2) (List.all_eq_true.1 h1)
      refine ⟨_, _, .slice (some ⟨w.heap.size, 0, none⟩) len len, ?_, r2, .slice _ _ _ _ ⟨w.heap.size, 0, out'.size⟩ (by simp [Mu.add]) (Nat.le_refl _)⟩
      have hr0 : Array.range 0 = #[] := rfl
      by_cases hz0 : len * e.size = 0
      · have f1' : Instr.fill (fun i => some (i * e.size, e.size)) #[] ps' = some out' := by simpa [hz0, hr0] using f1
        simp [Instr.buildSlice, run_underlying ht, sizeOf, typeInfo, hi, hsz, hz0, newRow, hr0, f1']
      · simp [Instr.buildSlice, run_underlying ht, sizeOf, typeInfo, hi, hsz, hz0, newRow, zeroValue, hz, hza, show ¬ (16777216 < len * e.size) by omega] at f1 ⊢
        simp [f1]
    · cases hl
  · cases hl

end Go.HL
/-
  A high level over the model, part 7: appends, copies, maps, lengths and the rest.
-/
namespace Go.HL
set_option linter.unusedSimpArgs false
set_option linter.unusedVariables false
open Go.RowKit

variable {P : Program} {B : Nat} {μ : Mu} {H : HHeap} {w : World}

/-- The cells that are appended or copied, and how many elements they are. -/
def hsource (H : HHeap) (size : Nat) (x : Value) : Option (List Value × Nat) :=
  match x with
  | .slice none 0 0 => some ([], 0)
  | .slice (some ⟨b, o, s⟩) n _ =>
    if n = 0 then some ([], 0) else
    match H.get b with
    | some (.cells cs _) => if o + n * size ≤ cs.length then some ((cs.drop o).take (n * size), n) else none
    | _ => none
  | .string s => if size = 1 then some (s.data.toList.map (fun b => .int .u8 b.toNat), s.size) else none
  | _ => none

theorem sim_source (h : Rel B μ H w) {size : Nat} {x x' : Value} {vs : List Value} {n : Nat} (hl : hsource H size x = some (vs, n)) (hx : VRel μ x x') :
    (Builtin.lenOf x').run P w = .ok n w ∧ vs.length = n * size ∧ (∀ v ∈ vs, v.oneCell' = true) ∧
    ∃ vs', VRels μ vs vs' ∧ ∀ w' : World, (∀ a u, w.cell? a = some u → w'.cell? a = some u) → ∀ m, m = n → (Builtin.firstCells size m x').run P w' = .ok vs'.toArray w' := by
  unfold hsource at hl
  split at hl
  · cases hl; cases hx
    exact ⟨by simp [Builtin.lenOf], by simp, by simp, [], .nil, fun w' _ m hm => by subst hm; simp [Builtin.firstCells]⟩
  · rename_i b o s n' c
    split at hl
    · rename_i hn; cases hl; subst hn
      have : ∃ a c', x' = .slice (some a) 0 c' := by cases hx <;> exact ⟨_, _, rfl⟩
      obtain ⟨a, c', rfl⟩ := this
      exact ⟨by simp [Builtin.lenOf], by simp, by simp, [], .nil, fun w' _ m hm => by subst hm; simp [Builtin.firstCells, loadCells, loadCellsFrom]⟩
    · rename_i hn
      split at hl
      · rename_i cs rw' hb
        split at hl <;> cases hl
        rename_i hlen
        have key : ∀ (p : Place) (c' : Nat), μ b = some p → x' = .slice (some ⟨p.g, p.d + o, none⟩) n c' →
            (Builtin.lenOf x').run P w = .ok n w ∧ ((cs.drop o).take (n * size)).length = n * size ∧ (∀ v ∈ (cs.drop o).take (n * size), v.oneCell' = true) ∧
              ∃ vs', VRels μ ((cs.drop o).take (n * size)) vs' ∧ ∀ w' : World, (∀ a u, w.cell? a = some u → w'.cell? a = some u) → ∀ m, m = n → (Builtin.firstCells size m x').run P w' = .ok vs'.toArray w' := by
          intro p c' hp e
          subst e
          obtain ⟨vs', h1, h2, h3⟩ := h.cellsAt hb hp o (n * size) hlen
          obtain ⟨q, hq, _, hc, _⟩ := h.cells b cs rw' hb
          refine ⟨by simp [Builtin.lenOf], by simp; omega, fun v hv => ?_, vs', h1, fun w' hw m hm => ?_⟩
          · obtain ⟨i, hi⟩ := List.getElem?_of_mem hv
            rw [List.getElem?_take] at hi
            split at hi
            · rw [List.getElem?_drop] at hi; exact (hc _ v hi).1
            · cases hi
          · subst hm
            exact run_firstCells_some (P := P) w' size _ _ _ _ vs' h2 (fun j v e => hw _ _ (h3 j v e))
        cases hx with
        | slice _ _ _ _ p hp _ => exact key p _ hp rfl
        | grown _ _ _ _ _ _ p hp _ _ _ => exact key p _ hp rfl
        | hole => exact absurd rfl hn
        | void => exact absurd rfl hn
      · cases hl
  · rename_i s
    split at hl <;> cases hl
    rename_i hs
    subst hs
    cases hx
    refine ⟨by simp [Builtin.lenOf], by simp, ?_, _, .of_flat1 (vs := s.data.toList.map (fun b => .int .u8 b.toNat)) ?_, fun w' _ m hm => ?_⟩
    · intro v hv; obtain ⟨b, _, rfl⟩ := List.mem_map.1 hv; rfl
    · rw [List.all_eq_true]; intro v hv; obtain ⟨b, _, rfl⟩ := List.mem_map.1 hv; rfl
    · subst hm
      have hx : (Array.map (fun b : UInt8 => Value.int IntKind.u8 (b.toNat : Int)) s.data).extract 0 s.size = Array.map (fun b : UInt8 => Value.int IntKind.u8 (b.toNat : Int)) s.data := by
        have hs : s.size = (Array.map (fun b : UInt8 => Value.int IntKind.u8 (b.toNat : Int)) s.data).size := by rw [Array.size_map]; rfl
        rw [hs, Array.extract_size]
      simp [Builtin.firstCells]
      try rw [hx]
      apply Array.ext'; simp
  · cases hl

def isStr (P : Program) (t : TypeId) : Bool :=
  match P.underlying t with
  | some .string => true
  | some (.slice _) => true
  | _ => false

theorem isStr_spec {t : TypeId} (h : isStr P t = true) : P.underlying t = some .string ∨ ∃ e, P.underlying t = some (.slice e) := by
  unfold isStr at h
  split at h
  · exact .inl ‹_›
  · exact .inr ⟨_, ‹_›⟩
  · cases h

/-- append. -/
def happend (P : Program) (H : HHeap) (st xt : TypeId) (s x : Value) : Option (Value × HHeap) :=
  match P.underlying st with
  | some (.slice u) =>
    if isStr P xt then
    (helem P u).bind fun e => (hsource H e.size x).bind fun (vs, n) =>
    if 0 < e.size then
    match s with
    | .slice a len cap =>
      if n = 0 then some (s, H) else
      if (len + n) * e.bytes ≤ 1099511627776 ∧ len + n ≤ 1099511627776 then
      match a with
      | none => some (.slice (some ⟨H.next, 0, some (2 * e.size)⟩) n n, H.push (.cells vs true))
      | some ⟨b, o, k⟩ =>
        match H.get b with
        | some (.cells cs rw) =>
          if len + n ≤ cap then
            if rw ∧ o + (len + n) * e.size ≤ cs.length ∧ (k = none ∨ k = some (2 * e.size)) then
              some (.slice (some ⟨b, o, k⟩) (len + n) cap, H.set b (.cells (splice cs (o + len * e.size) vs) true)) else none
          else if o + len * e.size ≤ cs.length ∨ len = 0 then
            match k with
            | none => some (.slice (some ⟨H.next, 0, some (2 * e.size)⟩) (len + n) (len + n), H.push (.cells ((cs.drop o).take (len * e.size) ++ vs) true))
            | some k => if k / 2 = e.size ∧ rw then some (.slice (some ⟨H.next, 0, some (2 * e.size)⟩) (len + n) (len + n), (H.kill b).push (.cells ((cs.drop o).take (len * e.size) ++ vs) true)) else none
          else none
        | _ => none
      else none
    | _ => none
    else none
    else none
  | _ => none

set_option maxHeartbeats 1000000 in
theorem append_pre (h : Rel B μ H w) {st xt ty u : TypeId} {e : Elem} {x x' : Value} {vs : List Value} {n : Nat} (hu : P.underlying st = some (.slice u)) (hxs : isStr P xt = true) (he : helem P u = some e)
    (hsrc : hsource H e.size x = some (vs, n)) (hx : VRel μ x x') :
    ∃ vs', VRels μ vs vs' ∧ ∀ (a : Option Addr) (len cap : Nat),
      (len + n ≤ cap → (Builtin.append_ #[st, xt] ty #[.slice a len cap, x']).run P w =
        (match a with | some a => (storeCells (a.add (len * e.size)) vs').run P w | none => .ok () w).andThen fun _ w' => .ok (.slice a (len + n) cap) w') ∧
      (¬ len + n ≤ cap → (len + n) * e.bytes ≤ 1099511627776 → len + n ≤ 1099511627776 → ∀ olds' : List Value, (Builtin.firstCells e.size len (.slice a len cap)).run P w.drew = .ok olds'.toArray w.drew →
        (Builtin.append_ #[st, xt] ty #[.slice a len cap, x']).run P w =
          .ok (.slice (some ⟨w.heap.size, 0, none⟩) (len + n) (grownCap w (len + n) cap u))
            (w.drew.alloc (.cells (olds'.toArray ++ vs'.toArray ++ Builtin.zeroCells e.zero.toArray (grownCap w (len + n) cap u - (len + n))) u))) := by
  obtain ⟨i, z, hi, hz, hze, hsz, hby, hf, hzl⟩ := helem_spec he
  obtain ⟨hlen, _, _, vs', hv, hfc⟩ := sim_source (P := P) h hsrc hx
  have hza : z.cells = e.zero.toArray := by rw [← hze]
  refine ⟨vs', hv, fun a len cap => ⟨fun hroom => ?_, fun hno hb hm olds' holds => ?_⟩⟩
  · have hf := hfc w (fun _ _ e => e) n rfl
    rcases isStr_spec hxs with hd | ⟨_, hd⟩ <;> cases a <;>
      simp [Builtin.append_, run_underlying hu, run_underlying hd, sizeOf, typeInfo, hi, hlen, hroom, hsz, hf]
  · have hf := hfc w.drew (fun _ _ e => e) n rfl
    have h63 : ¬ (9223372036854775807 < ((len : Int) + (n : Int))) := by omega
    have h48 : ¬ (281474976710656 < Builtin.nextslicecap (len + n) cap * e.bytes) := by
      have := growslice_fits (need := len + n) (old := cap) (bytes := e.bytes) (by omega) (by omega); omega
    rcases isStr_spec hxs with hd | ⟨_, hd⟩ <;>
      simp [Builtin.append_, run_underlying hu, run_underlying hd, sizeOf, typeInfo, hi, hlen, hno, hsz, hf, zeroValue, hz, h63, h48, hby, Question.forced, holds, newRow, grownCap, hza]
    all_goals (congr 2; apply Array.ext'; simp [List.append_assoc])

set_option maxHeartbeats 1000000 in
theorem sim_append (h : Rel B μ H w) {st xt ty : TypeId} {s s' x x' v : Value} {H' : HHeap} (hl : happend P H st xt s x = some (v, H')) (hs : VRel μ s s') (hx : VRel μ x x') :
    ∃ μ' w' v', (Builtin.append_ #[st, xt] ty #[s', x']).run P w = .ok v' w' ∧ Step B μ H w μ' H' w' ∧ VRel μ' v v' := by
  unfold happend at hl
  split at hl
  case h_2 => cases hl
  rename_i u hu
  split at hl
  case isFalse => cases hl
  rename_i hxs
  simp only [Option.bind_eq_some_iff] at hl
  obtain ⟨e, he, ⟨vs, n⟩, hsrc, hl⟩ := hl
  obtain ⟨_, hvl, hv1, _⟩ := sim_source (P := P) h hsrc hx
  obtain ⟨vs', hv, hap⟩ := append_pre (ty := ty) h hu hxs he hsrc hx
  obtain ⟨i, z, hi, hz, hze, hsz, hby, hf, hzl⟩ := helem_spec he
  split at hl
  case isFalse => cases hl
  rename_i hpos
  split at hl
  case h_2 => cases hl
  rename_i a len cap
  -- what a new array comes to
  have fresh : ∀ (H1 : HHeap) (olds olds' : List Value) (cap' len' : Nat), H1.next = H.next → Rel B μ H1 w → VRels μ olds olds' → (∀ v ∈ olds, v.oneCell' = true) → olds.length = len' * e.size →
      ∃ μ', Step B μ H1 w μ' (H1.push (.cells (olds ++ vs) true)) (w.drew.alloc (.cells (olds'.toArray ++ vs'.toArray ++ Builtin.zeroCells e.zero.toArray (grownCap w (len' + n) cap' u - (len' + n))) u)) ∧
        VRel μ' (.slice (some ⟨H.next, 0, some (2 * e.size)⟩) (len' + n) (len' + n)) (.slice (some ⟨w.heap.size, 0, none⟩) (len' + n) (grownCap w (len' + n) cap' u)) := by
    intro H1 olds olds' cap' len' hn hR ho ho1 hol
    have r2 := hR.drew.allocCells (olds ++ vs) (olds'.toArray ++ vs'.toArray ++ Builtin.zeroCells e.zero.toArray (grownCap w (len' + n) cap' u - (len' + n))) u
      (by
        have hle := (ho.append hv).length
        simp only [Array.toList_append]
        rw [← hle, List.take_left]
        exact ho.append hv)
      (fun v hv => (List.mem_append.1 hv).elim (ho1 v) (hv1 v))
    refine ⟨_, (Step.drew hR).trans r2, ?_⟩
    rw [← hn]
    have hge := grownCap_ge w (len' + n) cap' u
    refine .grown _ _ _ _ _ _ ⟨w.drew.heap.size, 0, (olds'.toArray ++ vs'.toArray ++ Builtin.zeroCells e.zero.toArray (grownCap w (len' + n) cap' u - (len' + n))).size⟩ (by simp [Mu.add]) (Nat.le_refl _) hge ?_
    have h1 := ho.length
    have h2 := hv.length
    simp only [Array.size_append, List.size_toArray, size_zeroCells]
    rw [h1, h2, hol, hvl, hzl, ← Nat.add_mul, ← Nat.add_mul]
    rw [show len' + n + (grownCap w (len' + n) cap' u - (len' + n)) = grownCap w (len' + n) cap' u by omega]
    omega
  split at hl
  · -- nothing is appended
    rename_i hn
    cases hl
    subst hn
    have hnil : vs' = [] := by
      have := hv.length; rw [hvl] at this; simp at this; exact List.eq_nil_of_length_eq_zero (by simpa using this)
    subst hnil
    have key : ∀ (a' : Option Addr) (cap' : Nat), len ≤ cap' → s' = .slice a' len cap' → (Builtin.append_ #[st, xt] ty #[s', x']).run P w = .ok s' w := by
      intro a' cap' hle e'
      subst e'
      rw [(hap a' len cap').1 (by omega)]
      cases a' <;> simp [storeCells]
    refine ⟨μ, w, s', ?_, Step.refl h, hs⟩
    cases hs with
    | nilSlice => exact key _ _ (Nat.le_refl _) rfl
    | slice _ _ _ _ p hp hlc => exact key _ _ hlc rfl
    | grown _ _ _ _ _ _ p hp hlc hcc _ => exact key _ _ (by omega) rfl
    | hole _ _ _ _ _ p hp _ => exact key _ _ (by omega) rfl
    | void _ _ _ => exact key _ _ (by omega) rfl
  rename_i hn
  split at hl
  case isFalse => cases hl
  rename_i hbd
  obtain ⟨hb1, hb2⟩ := hbd
  split at hl
  · -- a nil slice
    cases hl
    cases hs with
    | nilSlice =>
    obtain ⟨μ', r2, r5⟩ := fresh H [] [] 0 0 rfl h .nil (by simp) (by simp)
    have hrun := (hap none 0 0).2 (by omega) hb1 hb2 [] (by simp [Builtin.firstCells])
    simp only [Nat.zero_add] at hrun r2 r5
    exact ⟨μ', _, _, hrun, by simpa using r2, r5⟩
  · rename_i b o k
    split at hl
    case h_2 => cases hl
    rename_i cs rw' hb
    obtain ⟨pb, hpb, hextb, hcb, hwb, hrb⟩ := h.cells b cs rw' hb
    split at hl
    · -- in place
      rename_i hroom
      split at hl <;> cases hl
      rename_i hc
      obtain ⟨hrw, hfit, hk⟩ := hc
      subst hrw
      have hfit' : o + len * e.size + vs.length ≤ cs.length := by have h1 := Nat.add_mul len n e.size; rw [h1] at hfit; rw [hvl]; omega
      have hrunS := h.run_store P hb hpb (o + len * e.size) vs vs' hv hv1 (by omega)
      have q1 := h.store hb hpb (o + len * e.size) vs vs' hv hv1 hfit'
      have key : ∀ cap', cap ≤ cap' → s' = .slice (some ⟨pb.g, pb.d + o, none⟩) len cap' → (Builtin.append_ #[st, xt] ty #[s', x']).run P w = .ok (.slice (some ⟨pb.g, pb.d + o, none⟩) (len + n) cap') (putCells w pb.g (pb.d + (o + len * e.size)) vs') := by
        intro cap' hcc e'
        subst e'
        rw [(hap _ len cap').1 (by omega)]
        simp only [add_cell]
        rw [Nat.add_assoc pb.d o, hrunS]; rfl
      cases hs with
      | slice _ _ _ _ p hp hlc =>
        rw [hpb] at hp; cases hp
        exact ⟨μ, _, _, key _ (Nat.le_refl _) rfl, q1, .slice _ _ _ _ _ hpb hroom⟩
      | grown _ _ _ _ cap' e' p hp hlc hcc hx' =>
        rw [hpb] at hp; cases hp
        exact ⟨μ, _, _, key _ hcc rfl, q1, .grown _ _ _ _ _ _ _ hpb hroom hcc hx'⟩
      | hole => omega
      | void => omega
    · rename_i hroom
      split at hl
      case isFalse => cases hl
      rename_i hold
      have oldcells : ∀ (p : Place), μ b = some p → ∃ olds', VRels μ ((cs.drop o).take (len * e.size)) olds' ∧ ((cs.drop o).take (len * e.size)).length = len * e.size ∧
          ∀ o2 cap', (len = 0 ∨ o2 = o) → (Builtin.firstCells e.size len (.slice (some ⟨p.g, p.d + o2, none⟩) len cap')).run P w.drew = .ok olds'.toArray w.drew := by
        intro p hp
        rcases Nat.eq_zero_or_pos len with hl0 | hlp
        · subst hl0
          exact ⟨[], by simpa using VRels.nil, by simp, fun o2 cap' _ => by simp [Builtin.firstCells, loadCells, loadCellsFrom]⟩
        · have hfit : o + len * e.size ≤ cs.length := by rcases hold with hh | hh <;> omega
          obtain ⟨olds', h1, h2, h3⟩ := h.cellsAt hb hp o (len * e.size) hfit
          refine ⟨olds', h1, by simp; omega, fun o2 cap' ho => ?_⟩
          have : o2 = o := by omega
          subst this
          exact run_firstCells_some (P := P) w.drew e.size len _ len cap' olds' h2 (by simpa using h3)
      have olds1 : ∀ v ∈ (cs.drop o).take (len * e.size), v.oneCell' = true := fun v hv => by
        obtain ⟨i, hi⟩ := List.getElem?_of_mem hv
        rw [List.getElem?_take] at hi
        split at hi
        · rw [List.getElem?_drop] at hi; exact (hcb _ v hi).1
        · cases hi
      obtain ⟨olds', ho1, ho2, ho3⟩ := oldcells pb hpb
      split at hl
      · -- of a known capacity
        cases hl
        cases hs with
        | slice _ _ _ _ p hp hlc =>
          rw [hpb] at hp; cases hp
          obtain ⟨μ', r2, r5⟩ := fresh H _ olds' cap len rfl h ho1 olds1 ho2
          have hrun := (hap (some ⟨pb.g, pb.d + o, none⟩) len cap).2 hroom hb1 hb2 olds' (ho3 o cap (.inr rfl))
          exact ⟨μ', _, _, hrun, r2, r5⟩
        | void _ _ ad =>
          obtain ⟨μ', r2, r5⟩ := fresh H _ olds' 0 0 rfl h ho1 olds1 ho2
          have hrun := (hap (some ad) 0 0).2 hroom hb1 hb2 olds' (by
            have hl := ho1.length; simp at hl; subst hl
            simp [Builtin.firstCells, loadCells, loadCellsFrom])
          exact ⟨μ', _, _, hrun, r2, r5⟩
      · rename_i k
        split at hl <;> cases hl
        rename_i hkk
        obtain ⟨hk2, hrw⟩ := hkk
        subst hrw
        have grown_case : ∀ (o2 cap' : Nat), (len = 0 ∨ o2 = o) → o2 + cap' * e.size ≤ pb.ext → s' = .slice (some ⟨pb.g, pb.d + o2, none⟩) len cap' →
            ∃ μ' w' v', (Builtin.append_ #[st, xt] ty #[s', x']).run P w = .ok v' w' ∧ Step B μ H w μ' ((H.kill b).push (.cells ((cs.drop o).take (len * e.size) ++ vs) true)) w' ∧
              VRel μ' (.slice (some ⟨H.next, 0, some (2 * e.size)⟩) (len + n) (len + n)) v' := by
          intro o2 cap' ho hext e'
          subst e'
          by_cases hr : len + n ≤ cap'
          · have hmul : (len + n) * e.size ≤ cap' * e.size := Nat.mul_le_mul_right _ hr
            rw [Nat.add_mul] at hmul
            have hcs : (cs.drop o).take (len * e.size) = (cs.drop o2).take (len * e.size) := by
              rcases ho with hh | hh
              · subst hh; simp
              · subst hh; rfl
            have g1 := h.growIn hb hpb o2 (len * e.size) vs vs' hv hv1 (by
                rcases Nat.eq_zero_or_pos len with hl0 | hlp
                · left; subst hl0; simp
                · right
                  have : o2 = o := by omega
                  subst this
                  rcases hold with hh | hh <;> omega) (by rw [hvl]; omega)
            rw [hcs]
            refine ⟨_, _, _, ?_, g1, .grown H.next 0 (len + n) (len + n) cap' e.size ⟨pb.g, pb.d + o2, pb.ext - o2⟩ (by simp [Mu.add]) (Nat.le_refl _) hr (by simp; omega)⟩
            rw [(hap _ len cap').1 hr]
            have hrunS := h.run_store P hb hpb (o2 + len * e.size) vs vs' hv hv1 (by rw [hvl]; omega)
            simp only [add_cell]
            rw [Nat.add_assoc pb.d o2, hrunS]; rfl
          · obtain ⟨μ', r2, r5⟩ := fresh (H.kill b) _ olds' cap' len rfl (h.kill b) ho1 olds1 ho2
            have hrun := (hap (some ⟨pb.g, pb.d + o2, none⟩) len cap').2 hr hb1 hb2 olds' (ho3 o2 cap' ho)
            exact ⟨μ', _, _, hrun, (Step.kill h b).trans r2, r5⟩
        cases hs with
        | grown _ _ _ _ cap' e' p hp hlc hcc hx' =>
          rw [hpb] at hp; cases hp
          have : e' = e.size := by omega
          subst this
          exact grown_case o cap' (.inr rfl) hx' rfl
        | hole _ _ o2 cap' e' p hp hx' =>
          rw [hpb] at hp; cases hp
          have : e' = e.size := by omega
          subst this
          exact grown_case o2 cap' (.inl rfl) hx' rfl

end Go.HL
