/-
  The machine as plain data (no program in sight): what each of its functions makes of it.
-/
import Derived.Test.YtaghhialaplgoaaGreatDoorPFC7
import Derived.Test.YtaghhialaplgoaaGreatDoorPFV3
set_option linter.unusedVariables false
set_option linter.unusedSimpArgs false
namespace Go.HL
set_option linter.unusedVariables false

/-- An instruction; a block. -/
structure In where
  op : Nat
  a : Nat
  b : Nat
  w : Nat
deriving DecidableEq
structure Bk where
  many : Nat
  l : List In
deriving DecidableEq

/-- A machine, but for its blocks and the size of its arena. -/
structure MS where
  T : Things
  nm : List (Nat × Bool)
  kp : List (Nat × Bool)
  st : Nat
  bl : Nat
  pc : Nat
  v : Nat
  e : Nat
  s : Nat
  f : Nat
  er : Nat
  op : Nat
  ask : List Nat
deriving DecidableEq

def isW (T : Things) (w k n : Nat) : Bool := decide (kindN T w = k ∧ lenN T w = n)
/-- A thing's word; 0: it has none there. -/
def gt (T : Things) (w i : Nat) : Nat := (wordsN T w).getD i 0
def MS.gt (M : MS) (w i : Nat) : Nat := Go.HL.gt M.T w i
def MS.fail (M : MS) (e : Nat) : MS := { M with st := 4, er := e }

/-- The block of a function. -/
def fnF (B : List Bk) (T : Things) (f : Nat) : Option Nat :=
  if isW T f 2 2 then match toIntF (gt T f 0) with
    | some n => if 0 ≤ n ∧ n < B.length then some n.toNat else none
    | none => none
  else none
def manyOf (B : List Bk) (b : Nat) : Nat := match B[b]? with | some x => x.many | none => 0
/-- Is it a function of the program's; what is wrong with a call. -/
def callF (B : List Bk) (T : Things) (f n : Nat) : Bool × Nat :=
  match fnF B T f with
  | some b => (true, if n = manyOf B b then 0 else 131)
  | none => if isW T f 5 1 then (false, if n = 1 then 0 else 131) else (false, 132)
def lenAt (B : List Bk) (b : Nat) : Nat := match B[b]? with | some x => x.l.length | none => 0
/-- The place of a frame. -/
def placeF (B : List Bk) (T : Things) (w : Nat) : Option (Nat × Nat) :=
  if isW T w 4 5 then match toIntF (gt T w 0), toIntF (gt T w 1) with
    | some b, some a => if 0 ≤ b ∧ b < B.length ∧ 0 ≤ a ∧ a < lenAt B b.toNat then some (b.toNat, a.toNat) else none
    | _, _ => none
  else none
def MS.enter (M : MS) (w b a : Nat) : MS := { M with bl := b, pc := a, e := M.gt w 2, s := M.gt w 3, f := M.gt w 4 }
/-- The value is told. -/
def MS.tell (B : List Bk) (M : MS) : MS :=
  if M.f = 2 then { M with st := 3 } else match placeF B M.T M.f with
    | some (b, a) => M.enter M.f b a
    | none => M.fail 100
/-- A new thing, for which there is room. -/
def makeT (size : Nat) (T : Things) (k : Nat) (l : List Nat) : Things := if l.length ≤ 255 ∧ usedOf T + l.length + 1 ≤ size then T ++ [⟨k, l⟩] else T
def makeW (size : Nat) (T : Things) (l : List Nat) : Nat := if l.length ≤ 255 ∧ usedOf T + l.length + 1 ≤ size then wordAt (usedOf T) else 0
/-- A word is called that may be; none: it is no function, and there is no word. -/
def MS.call (B : List Bk) (size : Nat) (M : MS) (f : Nat) (l : List Nat) (g : Nat) : Option MS :=
  match fnF B M.T f with
  | some b => some { M with T := makeT size M.T 3 (M.gt f 1 :: l), bl := b, pc := 0, e := makeW size M.T (M.gt f 1 :: l), s := 2, f := g }
  | none => match l with
    | x :: _ => some (MS.tell B { M with v := x, f := M.gt f 0 })
    | [] => none
/-- So many words of the stack, the last one first; and the stack then. -/
def takeF (T : Things) : Nat → Nat → Option (List Nat × Nat)
  | 0, s => some ([], s)
  | n + 1, s => if isW T s 1 2 then (takeF T n (gt T s 1)).map fun x => (gt T s 0 :: x.1, x.2) else none
def MS.take (M : MS) (n : Nat) : Option (List Nat × Nat) := (takeF M.T n M.s).map fun x => (x.1.reverse, x.2)
/-- An env so many times out, if it has a word at a place. -/
def outF (T : Things) : Nat → Nat → Option Nat
  | 0, w => some w
  | n + 1, w => if kindN T w = 3 ∧ lenN T w ≠ 0 then outF T n (gt T w 0) else none
def MS.out (M : MS) (n a : Nat) : Option Nat := match outF M.T n M.e with
  | some w => if kindN M.T w = 3 ∧ a + 1 < lenN M.T w then some w else none
  | none => none

/-- All words from which things are reached. -/
def usedW (l : List (Nat × Bool)) : List Nat := (l.filter (·.2)).map (·.1)
def MS.roots (M : MS) (more : List Nat) : List Nat := more ++ [M.v, M.e, M.s, M.f] ++ M.ask ++ usedW M.nm ++ usedW M.kp
def mapW (g : Nat → Nat) (l : List (Nat × Bool)) : List (Nat × Bool) := l.map fun x => if x.2 then (g x.1, true) else x
def MS.collect (M : MS) (more : List Nat) : MS :=
  let F := bfs M.T (M.roots more)
  let g := tr M.T F
  { M with T := outT M.T F, v := g M.v, e := g M.e, s := g M.s, f := g M.f, ask := M.ask.map g, nm := mapW g M.nm, kp := mapW g M.kp }
def MS.moved (M : MS) (more : List Nat) : List Nat := more.map (tr M.T (bfs M.T (M.roots more)))
def MS.room (size : Nat) (M : MS) (n : Nat) (more : List Nat) : Bool × MS × List Nat :=
  if n ≤ size - usedOf M.T then (true, M, more) else
    let C := M.collect more
    (decide (n ≤ size - usedOf C.T), C, M.moved more)

/-- A call, behind the looks: where there is room. -/
def MS.apply2 (B : List Bk) (size : Nat) (M : MS) (n : Nat) (cc framed : Bool) : Option MS :=
  match M.take n with
  | none => none
  | some (l, s) =>
    let fr := [wInt M.bl, wInt (M.pc + 1), M.e, s, M.f]
    let g := if framed then makeW size M.T fr else M.f
    let M1 := if framed then { M with T := makeT size M.T 4 fr } else M
    let l1 := if cc then [makeW size M1.T [g]] else l
    let M2 := if cc then { M1 with T := makeT size M1.T 5 [g] } else M1
    M2.call B size M2.v l1 g
/-- A call. -/
def MS.apply (B : List Bk) (size : Nat) (M : MS) (n : Nat) (cc tail : Bool) : Option MS :=
  match M.take n with
  | none => some (M.fail 100)
  | some _ =>
    let many := if cc then 1 else n
    let c := callF B M.T M.v many
    if c.2 ≠ 0 then some (M.fail c.2) else
    let framed := !tail && (c.1 || cc)
    let need := (if framed then 6 else 0) + (if cc then 2 else 0) + (if c.1 then 2 + many else 0)
    let r := M.room size need []
    if r.1 then r.2.1.apply2 B size n cc framed else some { r.2.1 with st := 5 }
/-- Something is done to words of the stack, or asked for. -/
def MS.prim2 (size : Nat) (M : MS) (op n : Nat) : MS :=
  match M.take n with
  | none => M.fail 100
  | some (l, s) =>
    if 17 < op then { M with st := 2, op := op, ask := l, s := s, pc := M.pc + 1 } else
    let d := doP size M.T op l
    if d.2.1 ≠ 0 then { M with T := d.2.2 }.fail d.2.1 else { M with T := d.2.2, v := d.1, s := s, pc := M.pc + 1 }
def MS.prim (size : Nat) (M : MS) (op n : Nat) : MS :=
  if op = 12 then
    let r := M.room size 3 []
    if r.1 then r.2.1.prim2 size op n else match r.2.1.take n with
      | some _ => { r.2.1 with st := 5 }
      | none => r.2.1.fail 100
  else M.prim2 size op n
/-- A name of the program. -/
def MS.name (M : MS) (op i : Nat) : MS :=
  match M.nm[i]? with
  | none => M.fail 130
  | some x =>
    if op ≠ 6 ∧ x.2 = false then M.fail 130 else
    if op = 3 then { M with v := x.1, pc := M.pc + 1 } else { M with nm := M.nm.set i (M.v, true), v := 26, pc := M.pc + 1 }
/-- A word of an env. -/
def setT (T : Things) (w i x : Nat) : Things := match findI T w with
  | some j => T.modify j fun t => { t with l := t.l.set i x }
  | none => T
def MS.loc (M : MS) (op n a : Nat) : MS :=
  match M.out n a with
  | none => M.fail 100
  | some w => if op = 2 then { M with v := M.gt w (a + 1), pc := M.pc + 1 } else { M with T := setT M.T w (a + 1) M.v, v := 26, pc := M.pc + 1 }
/-- A new thing of the value, or the value. -/
def MS.makes (size : Nat) (M : MS) (i : In) : MS :=
  let r := M.room size 3 []
  if !r.1 then { r.2.1 with st := 5 } else
  let M := r.2.1
  if i.op = 7 then { M with T := makeT size M.T 1 [M.v, M.s], s := makeW size M.T [M.v, M.s], pc := M.pc + 1 }
  else { M with T := makeT size M.T 2 [wInt i.a, M.e], v := makeW size M.T [wInt i.a, M.e], pc := M.pc + 1 }
/-- An instruction. -/
def MS.step (B : List Bk) (size : Nat) (M : MS) (i : In) : Option MS :=
  if i.op = 1 then some { M with v := i.w, pc := M.pc + 1 }
  else if i.op = 2 ∨ i.op = 4 then some (M.loc i.op i.a i.b)
  else if i.op = 3 ∨ i.op = 5 ∨ i.op = 6 then some (M.name i.op i.a)
  else if i.op = 7 ∨ i.op = 10 then some (M.makes size i)
  else if i.op = 8 then some { M with pc := i.a }
  else if i.op = 9 then some { M with pc := if M.v = 10 then i.a else M.pc + 1 }
  else if i.op = 11 then some (M.prim size i.a i.b)
  else if i.op = 16 then some (MS.tell B M)
  else M.apply B size i.a (decide (i.op = 14 ∨ i.op = 15)) (decide (i.op = 13 ∨ i.op = 15))
def callsF (op : Nat) : Bool := decide (12 ≤ op ∧ op ≤ 15)
def insAt (B : List Bk) (b a : Nat) : Option In := B[b]?.bind fun x => x.l[a]?
/-- So many rounds at most: what is left, and the machine; none: more, or what is not spoken of. -/
def MS.run (B : List Bk) (size : Nat) : Nat → Nat → MS → Option (Nat × MS)
  | 0, _, _ => none
  | n + 1, left, M =>
    if M.st = 1 then match insAt B M.bl M.pc with
      | none => none
      | some i =>
        if callsF i.op then
          (if left = 0 then some (0, M) else (M.step B size i).bind fun M' => MS.run B size n (left - 1) M')
        else (M.step B size i).bind fun M' => MS.run B size n left M'
    else some (left, M)
end Go.HL
