/-
  Joined: K10, K11.
-/
import Derived.Test.YtaghhialaplgoaaGreatDoorPFK9
set_option linter.unusedVariables false
set_option linter.unusedSimpArgs false
/-
  A way to run code on given data inside the kernel, part 10: what does not change from run to run is worked out once. Each thing here is, in a box, the one of the same name.
-/
namespace Go.HL
open Go.RowKit
set_option linter.unusedSimpArgs false
set_option linter.unusedVariables false

variable {P : Program}


noncomputable def flist {β : Type} (l : List Value) : (List Value → β) → β :=
  List.rec (motive := fun _ => (List Value → β) → β) (fun k => k []) (fun v _ ih k => forceV v fun v => ih fun r => k (v :: r)) l
theorem flist_eq {β : Type} : ∀ (l : List Value) (k : List Value → β), flist l k = k l
  | [], _ => rfl
  | v :: l, k => by
    show forceV v (fun v => flist l fun r => k (v :: r)) = _
    rw [forceV_eq, flist_eq l]

abbrev KGet := Tr Value → (Value → KX) → KX
noncomputable def kevB (x : Operand) : Bx KGet :=
  Operand.rec (fun t => Bool.rec (.mk kbad2) (tget (path t) fun g => .mk g) (placed t)) (fun v => Bool.rec (.mk kbad2) (forceV v fun v => .mk (kconst v)) (flat v)) (fun _ => .mk kbad2) (fun f => .mk (kconst (.func (.func f) #[] #[]))) x
theorem kevB_eq (x : Operand) : kevB x = .mk (kev x) := by
  cases x with
  | tmp t =>
    have e1 : kevB (.tmp t) = Bool.rec (.mk kbad2) (tget (path t) fun g => .mk g) (placed t) := rfl
    have e2 : kev (.tmp t) = Bool.rec kbad2 (kslot (path t)) (placed t) := rfl
    rw [e1, e2, tget_eq]
    cases placed t <;> rfl
  | const v =>
    have e1 : kevB (.const v) = Bool.rec (.mk kbad2) (forceV v fun v => .mk (kconst v)) (flat v) := rfl
    have e2 : kev (.const v) = Bool.rec kbad2 (kconst v) (flat v) := rfl
    rw [e1, e2, forceV_eq]
    cases flat v <;> rfl
  | global g => rfl
  | func f => rfl
noncomputable def bx1 (x : Operand) (f : KGet → KOp) : Bx KOp := (kevB x).on fun g => .mk (f g)
theorem bx1_eq (x : Operand) (f : KGet → KOp) : bx1 x f = .mk (f (kev x)) := by unfold bx1; rw [kevB_eq, Bx.on_mk]
noncomputable def bx2 (x y : Operand) (f : KGet → KGet → KOp) : Bx KOp := (kevB x).on fun g => (kevB y).on fun g' => .mk (f g g')
theorem bx2_eq (x y : Operand) (f : KGet → KGet → KOp) : bx2 x y f = .mk (f (kev x) (kev y)) := by unfold bx2; rw [kevB_eq, kevB_eq, Bx.on_mk, Bx.on_mk]
noncomputable def bx3 (x y z : Operand) (f : KGet → KGet → KGet → KOp) : Bx KOp := (kevB x).on fun g => (kevB y).on fun g' => (kevB z).on fun g'' => .mk (f g g' g'')
theorem bx3_eq (x y z : Operand) (f : KGet → KGet → KGet → KOp) : bx3 x y z f = .mk (f (kev x) (kev y) (kev z)) := by unfold bx3; rw [kevB_eq, kevB_eq, kevB_eq, Bx.on_mk, Bx.on_mk, Bx.on_mk]

noncomputable def kMoveG (g : KGet) : KOp := fun fr n h k => g fr fun v => k v n h
noncomputable def kPickG (c a b : KGet) : KOp := fun fr n h k => c fr fun v => kboolV v (a fr fun v => k v n h) (b fr fun v => k v n h)
noncomputable def kBoxG (x : KGet) : KOp := fun fr n h k => x fr fun v => Bool.rec .bad (kNew v.cells.toList fr n h k) (allOne v.cells.toList)
noncomputable def kLoad1G (a : KGet) : KOp := fun fr n h k => a fr fun p => kaddr p fun b o => kcells b h fun cs _ => Option.rec .bad (fun v => k v n h) (knth cs o)
noncomputable def kLoadAG (s : Nat) (a : KGet) : KOp := fun fr n h k => a fr fun p => kaddr p fun b o => kcells b h fun cs _ => ktake s (kdrop o cs) fun l => k (.agg l.toArray) n h
noncomputable def kStore1G (s : Nat) (a x : KGet) : KOp := fun fr n h k => a fr fun p => x fr fun v => kaddr p fun b o => kcells b h fun cs rw => kstoreV s n h k b o cs rw v
noncomputable def kNilG (x : KGet) : KOp := fun fr n h k => x fr fun v => knil v fun v => k v n h
noncomputable def kBin1G (P : Program) (op : BinOp) (t : TypeId) (g : KG) (x y : KGet) : KOp := fun fr n h k => x fr fun a => y fr fun b => kbin2 P op t g a b fun v => k v n h
noncomputable def kOf1G (g : Nat → Tr HObj → Value → Option Value) (x : KGet) : KOp := fun fr n h k => x fr fun a => kslow (g n h a) fun v => k v n h
noncomputable def kOf2G (g : Nat → Tr HObj → Value → Value → Option Value) (x y : KGet) : KOp := fun fr n h k => x fr fun a => y fr fun b => kslow (g n h a b) fun v => k v n h
noncomputable def kConvG (g : Value → (Value → KX) → KX) (x : KGet) : KOp := fun fr n h k => x fr fun a => g a fun v => k v n h
noncomputable def kField1G (off : Nat) (x : KGet) : KOp := fun fr n h k => x fr fun p => kaddr p fun b o => forceNat (Nat.add o off) fun o => k (.pointer (some ⟨b, o, none⟩)) n h
noncomputable def kIxG (g : Value → Value → (Value → KX) → KX) (x i : KGet) : KOp := fun fr n h k => x fr fun p => i fr fun i => kintV i (g p i fun v => k v n h)
noncomputable def kExtractG (i : Nat) (x : KGet) : KOp := fun fr n h k => x fr fun v => kextr v i fun v => k v n h
noncomputable def kLenG (g : Nat → Tr HObj → Value → (Value → KX) → KX) (x : KGet) : KOp := fun fr n h k => x fr fun v => g n h v fun v => k v n h
noncomputable def kAppend1G (e : Elem) (s x : KGet) : KOp := fun fr n h k => s fr fun s => x fr fun x => ksource e.size x h fun vs m => kap e s vs m n h k
noncomputable def kCopy1G (e : Elem) (d x : KGet) : KOp := fun fr n h k => d fr fun d => x fr fun x => ksource e.size x h fun vs m => kcp e d vs m n h k
noncomputable def kMakeSliceG (P : Program) (t : TypeId) (l c : KGet) : KOp := fun fr n h k => l fr fun a => c fr fun b => kintV a (kintV b (kMk (hmakeCells P t a b) fr n h k))
noncomputable def kMapUpG (P : Program) (t : TypeId) (m x y : KGet) : KOp := fun fr n h k => m fr fun m => x fr fun x => y fr fun y =>
  Option.rec .bad (fun r => kset r.1 h (.map r.2) fun h' => k undef n h') (hmapCells P (absH n h) t m x y)

/-- Rows of operands. -/
noncomputable def kevsB (xs : List Operand) : Bx (List KGet) := List.rec (motive := fun _ => Bx (List KGet)) (.mk []) (fun x _ ih => (kevB x).on fun g => ih.on fun gs => .mk (g :: gs)) xs
theorem kevsB_eq : ∀ (xs : List Operand), kevsB xs = .mk (xs.map kev)
  | [] => rfl
  | x :: xs => by
    show ((kevB x).on fun g => (kevsB xs).on fun gs => Bx.mk (g :: gs)) = _
    rw [kevB_eq, kevsB_eq xs]; rfl
noncomputable def kevsG (gs : List KGet) : Tr Value → (List Value → KX) → KX :=
  List.rec (motive := fun _ => Tr Value → (List Value → KX) → KX) (fun _ k => k []) (fun g _ ih fr k => g fr fun v => ih fr fun vs => k (v :: vs)) gs
theorem kevsG_eq : ∀ (xs : List Operand), kevsG (xs.map kev) = kevs xs
  | [] => rfl
  | x :: xs => by
    funext fr k
    show (kev x fr fun v => kevsG (xs.map kev) fr fun vs => k (v :: vs)) = _
    rw [kevsG_eq xs]; rfl
noncomputable def kpartsB (xs : List (Nat × Operand)) : Bx (List (Nat × KGet)) := List.rec (motive := fun _ => Bx (List (Nat × KGet))) (.mk []) (fun x _ ih => (kevB x.2).on fun g => ih.on fun gs => .mk ((x.1, g) :: gs)) xs
theorem kpartsB_eq : ∀ (xs : List (Nat × Operand)), kpartsB xs = .mk (xs.map fun x => (x.1, kev x.2))
  | [] => rfl
  | x :: xs => by
    show ((kevB x.2).on fun g => (kpartsB xs).on fun gs => Bx.mk ((x.1, g) :: gs)) = _
    rw [kevB_eq, kpartsB_eq xs]; rfl
noncomputable def kpartsG (gs : List (Nat × KGet)) : Tr Value → (List (Nat × Value) → KX) → KX :=
  List.rec (motive := fun _ => Tr Value → (List (Nat × Value) → KX) → KX) (fun _ k => k []) (fun g _ ih fr k => g.2 fr fun v => ih fr fun vs => k ((g.1, v) :: vs)) gs
theorem kpartsG_eq : ∀ (xs : List (Nat × Operand)), kpartsG (xs.map fun x => (x.1, kev x.2)) = kparts xs
  | [] => rfl
  | x :: xs => by
    funext fr k
    show (kev x.2 fr fun v => kpartsG (xs.map fun x => (x.1, kev x.2)) fr fun vs => k ((x.1, v) :: vs)) = _
    rw [kpartsG_eq xs]; rfl
noncomputable def kBuildG (P : Program) (t : TypeId) (ps : List (Nat × KGet)) : KOp := fun fr n h k => kpartsG ps fr fun vs => kslow (hbuild P t vs) fun v => kagg v fun v => k v n h
noncomputable def kBuildSliceG (P : Program) (t : TypeId) (len : Nat) (ps : List (Nat × KGet)) : KOp := fun fr n h k => kpartsG ps fr fun vs => kRow (hbuildCells P t len vs) len len fr n h k
noncomputable def kFuncG (fn : Fn) (fs cs : List KGet) : KOp := fun fr n h k => kevsG fs fr fun fs => kevsG cs fr fun vs => k (.func fn fs.toArray vs.toArray) n h
noncomputable def kFoldG (f : Value → Value → Option Value) (x : KGet) (xs : List KGet) : KOp := fun fr n h k => x fr fun v => kevsG xs fr fun vs => kslow (hfold f v vs) fun v => k v n h

/-- Operands that may be missing. -/
abbrev KOpt := Tr Value → (Option Value → KX) → KX
noncomputable def koptG (g : KGet) : KOpt := fun fr k => g fr fun v => koptV v k
def koptN : KOpt := fun _ k => k none
noncomputable def koptB (x : Option Operand) : Bx KOpt := match x with | none => .mk koptN | some x => (kevB x).on fun g => .mk (koptG g)
theorem koptB_eq (x : Option Operand) : koptB x = .mk (kopt x) := by
  cases x with
  | none => rfl
  | some x => show (kevB x).on (fun g => Bx.mk (koptG g)) = _; rw [kevB_eq]; rfl
noncomputable def kSliceG (g : Value → Option Value → Option Value → Option Value → (Value → KX) → KX) (x : KGet) (lo hi mx : KOpt) : KOp := fun fr n h k => x fr fun v => lo fr fun lo => hi fr fun hi => mx fr fun mx => g v lo hi mx fun v => k v n h
noncomputable def kslPB (P : Program) (t : TypeId) : Bx (Value → Option Value → Option Value → Option Value → (Value → KX) → KX) :=
  match P.underlying t with
  | some .string => .mk (kslS P t)
  | _ => .mk fun v lo hi mx k => kslow (hslice P t v lo hi mx) k
theorem kslPB_eq (t : TypeId) : kslPB P t = .mk (kslP P t) := by unfold kslPB kslP; generalize P.underlying t = u; rcases u with _ | d <;> first | rfl | (cases d <;> rfl)
noncomputable def kconvB (P : Program) (s d : TypeId) : Bx (Value → (Value → KX) → KX) :=
  match P.underlying s, P.underlying d with
  | some (.int _), some (.int kk) => .mk (kconvI P s d kk)
  | _, _ => .mk fun v k => kslow (hconvert P s d v) k
theorem kconvB_eq (s d : TypeId) : kconvB P s d = .mk (kconv P s d) := by
  unfold kconvB kconv
  generalize P.underlying s = u
  generalize P.underlying d = w
  rcases u with _ | u
  · rfl
  · cases u <;> first | rfl | (rcases w with _ | w <;> first | rfl | (cases w <;> rfl))
noncomputable def kixPB (P : Program) (t : TypeId) : Bx (Value → Value → (Value → KX) → KX) :=
  match P.underlying t with
  | some (.slice e) => (match hsize P e with
    | some e => forceNat e fun e => .mk fun p i k => kixS e p i k .bad
    | none => .mk fun _ _ _ => .bad)
  | _ => .mk fun p i k => kslow (hindexAt P t p i) k
theorem kixPB_eq (t : TypeId) : kixPB P t = .mk (kixP P t) := by
  unfold kixPB kixP
  generalize P.underlying t = u
  rcases u with _ | d
  · rfl
  · cases d <;> try rfl
    rename_i e
    show (match hsize P e with | some e => forceNat e fun e => Bx.mk fun p i k => kixS e p i k .bad | none => Bx.mk fun _ _ _ => .bad) = Bx.mk (match hsize P e with | some e => fun p i k => kixS e p i k .bad | none => fun _ _ _ => .bad)
    generalize hsize P e = z
    rcases z with _ | z
    · rfl
    · exact forceNat_eq _ _
noncomputable def kixQB (P : Program) (t : TypeId) : Bx (Value → Value → (Value → KX) → KX) :=
  match P.underlying t with
  | some .string => .mk (kixV P t)
  | _ => .mk fun p i k => kslow (hindex P t p i) k
theorem kixQB_eq (t : TypeId) : kixQB P t = .mk (kixQ P t) := by unfold kixQB kixQ; generalize P.underlying t = u; rcases u with _ | d <;> first | rfl | (cases d <;> rfl)
noncomputable def klenB (P : Program) (t : TypeId) : Bx (Nat → Tr HObj → Value → (Value → KX) → KX) :=
  match P.underlying t with
  | some .string => .mk fun _ _ v k => klenS v k .bad
  | some (.slice _) => .mk fun _ _ v k => klenV v k .bad
  | _ => .mk fun n h v k => kslow (hlen P (absH n h) t v) k
theorem klenB_eq (t : TypeId) : klenB P t = .mk (klen P t) := by unfold klenB klen; generalize P.underlying t = u; rcases u with _ | d <;> first | rfl | (cases d <;> rfl)

noncomputable def kLoadB (P : Program) (t : TypeId) (a : Operand) : Bx KOp :=
  match hagg P t with
  | some true => (match hsize P t with | some s => Bool.rec (.mk kbadOp) (forceNat s fun s => bx1 a (kLoadAG s)) (Nat.ble 1 s) | none => .mk kbadOp)
  | some false => bx1 a kLoad1G
  | none => .mk kbadOp
theorem kLoadB_eq (t : TypeId) (a : Operand) : kLoadB P t a = .mk (kLoad P t a) := by
  unfold kLoadB kLoad
  generalize hagg P t = u
  generalize hsize P t = w
  rcases u with _ | b
  · rfl
  · cases b with
    | false => exact bx1_eq a kLoad1G
    | true =>
      rcases w with _ | s
      · rfl
      · show Bool.rec (Bx.mk kbadOp) (forceNat s fun s => bx1 a (kLoadAG s)) (Nat.ble 1 s) = Bx.mk (Bool.rec kbadOp (kLoadA s a) (Nat.ble 1 s))
        rw [forceNat_eq, bx1_eq]; cases Nat.ble 1 s <;> rfl
noncomputable def kStoreB (P : Program) (t : TypeId) (a x : Operand) : Bx KOp := match hsize P t with | some s => Bool.rec (.mk kbadOp) (forceNat s fun s => bx2 a x (kStore1G s)) (Nat.ble 1 s) | none => .mk kbadOp
theorem kStoreB_eq (t : TypeId) (a x : Operand) : kStoreB P t a x = .mk (kStore P t a x) := by
  unfold kStoreB kStore
  generalize hsize P t = w
  rcases w with _ | s
  · rfl
  · show Bool.rec (Bx.mk kbadOp) (forceNat s fun s => bx2 a x (kStore1G s)) (Nat.ble 1 s) = Bx.mk (Bool.rec kbadOp (kStore1 s a x) (Nat.ble 1 s))
    rw [forceNat_eq, bx2_eq]; cases Nat.ble 1 s <;> rfl
noncomputable def kBinB (P : Program) (op : BinOp) (t : TypeId) (x y : Operand) : Bx KOp :=
  match op with
  | .add => bx2 x y (kBin1G P .add t gAdd)
  | .sub => bx2 x y (kBin1G P .sub t gSub)
  | .mul => bx2 x y (kBin1G P .mul t gMul)
  | .quo => bx2 x y (kBin1G P .quo t gQuo)
  | .rem => bx2 x y (kBin1G P .rem t gRem)
  | .eql => bx2 x y (kBin1G P .eql t gEql)
  | .neq => bx2 x y (kBin1G P .neq t gNeq)
  | .lss => bx2 x y (kBin1G P .lss t gLss)
  | .leq => bx2 x y (kBin1G P .leq t gLeq)
  | .gtr => bx2 x y (kBin1G P .gtr t gGtr)
  | .geq => bx2 x y (kBin1G P .geq t gGeq)
  | op => bx2 x y (kBin1G P op t gSlow)
theorem kBinB_eq (op : BinOp) (t : TypeId) (x y : Operand) : kBinB P op t x y = .mk (kBin P op t x y) := by
  cases op <;> exact bx2_eq _ _ _
noncomputable def kAppendB (P : Program) (st xt : TypeId) (s x : Operand) : Bx KOp := match kapElem P st xt with | some e => bx2 s x (kAppend1G e) | none => .mk kbadOp
theorem kAppendB_eq (st xt : TypeId) (s x : Operand) : kAppendB P st xt s x = .mk (kAppend P st xt s x) := by
  unfold kAppendB kAppend
  generalize kapElem P st xt = w
  rcases w with _ | e
  · rfl
  · exact bx2_eq _ _ _
noncomputable def kCopyB (P : Program) (dt : TypeId) (d x : Operand) : Bx KOp := match kcpElem P dt with | some e => bx2 d x (kCopy1G e) | none => .mk kbadOp
theorem kCopyB_eq (dt : TypeId) (d x : Operand) : kCopyB P dt d x = .mk (kCopy P dt d x) := by
  unfold kCopyB kCopy
  generalize kcpElem P dt = w
  rcases w with _ | e
  · rfl
  · exact bx2_eq _ _ _
noncomputable def kFoldB (f : Value → Value → Option Value) (x : Operand) (xs : List Operand) : Bx KOp := (kevsB xs).on fun gs => bx1 x fun g => kFoldG f g gs
theorem kFoldB_eq (f : Value → Value → Option Value) (x : Operand) (xs : List Operand) : kFoldB f x xs = .mk (kFold f x xs) := by
  unfold kFoldB
  rw [kevsB_eq, Bx.on_mk, bx1_eq]
  unfold kFoldG kFold
  rw [kevsG_eq]
noncomputable def kUnsafeStrG (P : Program) (pt : TypeId) (p m : KGet) : KOp := fun fr n h k => p fr fun p => m fr fun m => Option.rec .bad (fun r => kgive r n h k) (hunsafeV P (absH n h) pt p m)
noncomputable def kRangeG (P : Program) (t : TypeId) (x : KGet) : KOp := fun fr n h k => x fr fun v => krangeV P t v n h k
noncomputable def kNextG (x : KGet) : KOp := fun fr n h k => x fr fun v => knextV v n h k
noncomputable def kBuiltinB (P : Program) (b : Builtin) (args : List Operand) (ts : List TypeId) : Bx KOp :=
  match b, args, ts with
  | .len, [x], [t] => (klenB P t).on fun g => bx1 x (kLenG g)
  | .append, [s, x], [st, xt] => kAppendB P st xt s x
  | .copy, [d, x], [dt, _] => kCopyB P dt d x
  | .min, x :: xs, _ => kFoldB hmin2 x xs
  | .max, x :: xs, _ => kFoldB hmax2 x xs
  | .unsafeSliceData, [x], _ => bx1 x (kOf1G fun _ _ a => hsliceData a)
  | .unsafeString, [p, n], [pt, _] => bx2 p n (kUnsafeStrG P pt)
  | _, _, _ => .mk kbadOp
theorem kLenB_eq (t : TypeId) (x : Operand) : ((klenB P t).on fun g => bx1 x (kLenG g)) = .mk (kLen P t x) := by
  rw [klenB_eq, Bx.on_mk, bx1_eq]; rfl
theorem kBuiltinB_eq (b : Builtin) (args : List Operand) (ts : List TypeId) : kBuiltinB P b args ts = .mk (kBuiltin P b args ts) := by
  cases b <;> (rcases args with _ | ⟨x, _ | ⟨y, _ | ⟨z, l⟩⟩⟩) <;> (rcases ts with _ | ⟨t, _ | ⟨u, _ | ⟨w, m⟩⟩⟩) <;>
    first | rfl | exact kAppendB_eq _ _ _ _ | exact kCopyB_eq _ _ _ | exact kFoldB_eq _ _ _ | exact kLenB_eq _ _ | exact bx1_eq _ _ | exact bx2_eq _ _ _
noncomputable def kAllocB (P : Program) (t : TypeId) : Bx KOp := match helem P t with | some e => flist e.zero fun z => .mk (kNew z) | none => .mk kbadOp
theorem kAllocB_eq (t : TypeId) : kAllocB P t = .mk (kAlloc P t) := by
  unfold kAllocB kAlloc
  generalize helem P t = w
  rcases w with _ | e
  · rfl
  · exact flist_eq _ _
noncomputable def kFieldB (P : Program) (s : TypeId) (x : Operand) (f : Nat) : Bx KOp := match hfieldOff P s f with | some off => forceNat off fun off => bx1 x (kField1G off) | none => .mk kbadOp
theorem kFieldB_eq (s : TypeId) (x : Operand) (f : Nat) : kFieldB P s x f = .mk (kField P s x f) := by
  unfold kFieldB kField
  generalize hfieldOff P s f = w
  rcases w with _ | off
  · rfl
  · exact (forceNat_eq _ _).trans (bx1_eq _ _)
noncomputable def kIfaceB (P : Program) (t : TypeId) (x : Operand) : Bx KOp := if kindOf P t = 5 then .mk kbadOp else if (P.underlying t).isSome then bx1 x (kOf1G fun _ _ a => some (.iface t a)) else .mk kbadOp
theorem kIfaceB_eq (t : TypeId) (x : Operand) : kIfaceB P t x = .mk (kIface P t x) := by
  unfold kIfaceB kIface
  by_cases h1 : kindOf P t = 5
  · rw [if_pos h1, if_pos h1]
  · rw [if_neg h1, if_neg h1]
    by_cases h2 : (P.underlying t).isSome = true
    · rw [if_pos h2, if_pos h2]; exact bx1_eq _ _
    · rw [if_neg h2, if_neg h2]
noncomputable def kdispB (P : Program) : Op → Bx KOp
  | .move x => bx1 x kMoveG
  | .assign x => bx1 x kMoveG
  | .pick c a b => bx3 c a b kPickG
  | .alloc t => kAllocB P t
  | .box _ x => bx1 x kBoxG
  | .build t ps => (kpartsB ps.toList).on fun gs => .mk (kBuildG P t gs)
  | .buildSlice t n ps => (kpartsB ps.toList).on fun gs => .mk (kBuildSliceG P t n gs)
  | .load t a => kLoadB P t a
  | .store t a x => kStoreB P t a x
  | .nilCheck x => bx1 x kNilG
  | .binOp op t x y _ => kBinB P op t x y
  | .unOp op _ x => bx1 x (kOf1G fun _ _ a => hunary op a)
  | .convert s d x => (kconvB P s d).on fun g => bx1 x (kConvG g)
  | .makeInterface t x => kIfaceB P t x
  | .makeFunc fn first captured => (kevsB first.toList).on fun fs => (kevsB captured.toList).on fun gs => .mk (kFuncG fn fs gs)
  | .makeMap _ none => .mk kMakeMap
  | .makeSlice t l c => bx2 l c (kMakeSliceG P t)
  | .slice t x lo hi mx => (kslPB P t).on fun g => (koptB lo).on fun lo => (koptB hi).on fun hi => (koptB mx).on fun mx => bx1 x fun x => kSliceG g x lo hi mx
  | .fieldAddr s x f => kFieldB P s x f
  | .field t x f => bx1 x (kOf1G fun _ _ a => hfield P t a f)
  | .indexAddr t x i => (kixPB P t).on fun g => bx2 x i (kIxG g)
  | .index t x i => (kixQB P t).on fun g => bx2 x i (kIxG g)
  | .lookup t m k ok => bx2 m k (kOf2G fun n h a b => hlookup P (absH n h) t a b ok)
  | .mapUpdate t m k x => bx3 m k x (kMapUpG P t)
  | .insert t m k x => bx3 m k x (kMapUpG P t)
  | .extract t i => bx1 t (kExtractG i)
  | .call ⟨.builtin b, args, ts⟩ => kBuiltinB P b args.toList ts.toList
  | .range t x => bx1 x (kRangeG P t)
  | .next it true => bx1 it kNextG
  | _ => .mk kbadOp
theorem kdispB_eq (op : Op) : kdispB P op = .mk (kdisp P op) := by
  cases op with
  | move x => exact bx1_eq _ _
  | assign x => exact bx1_eq _ _
  | pick c a b => exact bx3_eq _ _ _ _
  | alloc t => exact kAllocB_eq _
  | box t x => exact bx1_eq _ _
  | build t ps =>
    have : ((kpartsB ps.toList).on fun gs => Bx.mk (kBuildG P t gs)) = .mk (kBuild P t ps.toList) := by rw [kpartsB_eq, Bx.on_mk]; unfold kBuildG kBuild; rw [kpartsG_eq]
    exact this
  | buildSlice t n ps =>
    have : ((kpartsB ps.toList).on fun gs => Bx.mk (kBuildSliceG P t n gs)) = .mk (kBuildSlice P t n ps.toList) := by rw [kpartsB_eq, Bx.on_mk]; unfold kBuildSliceG kBuildSlice; rw [kpartsG_eq]
    exact this
  | load t a => exact kLoadB_eq _ _
  | store t a x => exact kStoreB_eq _ _ _
  | nilCheck x => exact bx1_eq _ _
  | binOp op t x y u => exact kBinB_eq _ _ _ _
  | unOp op t x => exact bx1_eq _ _
  | convert s d x =>
    have : ((kconvB P s d).on fun g => bx1 x (kConvG g)) = .mk (kConv P s d x) := by rw [kconvB_eq, Bx.on_mk, bx1_eq]; rfl
    exact this
  | makeInterface t x => exact kIfaceB_eq _ _
  | makeFunc fn first captured =>
    have : ((kevsB first.toList).on fun fs => (kevsB captured.toList).on fun gs => Bx.mk (kFuncG fn fs gs)) = .mk (kFunc fn first.toList captured.toList) := by
      rw [kevsB_eq, Bx.on_mk, kevsB_eq, Bx.on_mk]; unfold kFuncG kFunc; rw [kevsG_eq]
      congr 1
      funext fr n h k
      congr 1
      funext fs
      rw [kevsG_eq]
    exact this
  | makeMap t r => cases r <;> rfl
  | makeSlice t l c => exact bx2_eq _ _ _
  | slice t x lo hi mx =>
    have : ((kslPB P t).on fun g => (koptB lo).on fun lo => (koptB hi).on fun hi => (koptB mx).on fun mx => bx1 x fun x => kSliceG g x lo hi mx) = .mk (kSlice P t x lo hi mx) := by
      rw [kslPB_eq, Bx.on_mk, koptB_eq, Bx.on_mk, koptB_eq, Bx.on_mk, koptB_eq, Bx.on_mk, bx1_eq]; rfl
    exact this
  | fieldAddr s x f => exact kFieldB_eq _ _ _
  | field t x f => exact bx1_eq _ _
  | indexAddr t x i =>
    have : ((kixPB P t).on fun g => bx2 x i (kIxG g)) = .mk (kIxA P t x i) := by rw [kixPB_eq, Bx.on_mk, bx2_eq]; rfl
    exact this
  | index t x i =>
    have : ((kixQB P t).on fun g => bx2 x i (kIxG g)) = .mk (kIx P t x i) := by rw [kixQB_eq, Bx.on_mk, bx2_eq]; rfl
    exact this
  | lookup t m k ok => exact bx2_eq _ _ _
  | mapUpdate t m k x => exact bx3_eq _ _ _ _
  | insert t m k x => exact bx3_eq _ _ _ _
  | extract t i => exact bx1_eq _ _
  | call c =>
    obtain ⟨cal, args, ts⟩ := c
    cases cal with
    | builtin b => exact kBuiltinB_eq _ _ _
    | _ => rfl
  | range t x => exact bx1_eq _ _
  | next x b => cases b <;> first | exact bx1_eq _ _ | rfl
  | _ => rfl
end Go.HL
/-
  A way to run code on given data inside the kernel, part 11: rows, code, calls, worked out once.
-/
namespace Go.HL
open Go.RowKit
set_option linter.unusedSimpArgs false
set_option linter.unusedVariables false

variable {P : Program}

noncomputable def kputB (sz : Nat) (dst : Option Tmp) : Bx KPut :=
  match dst with
  | none => .mk kputNone
  | some d => Bool.rec (.mk kputBad) (Bool.rec (.mk kputBad) (tput (path d) fun g => .mk fun v => g (some v)) (Nat.ble (Nat.succ d) sz)) (placed d)
theorem kputB_eq (sz : Nat) (dst : Option Tmp) : kputB sz dst = .mk (kput sz dst) := by
  cases dst with
  | none => rfl
  | some d =>
    have e1 : kputB sz (some d) = Bool.rec (.mk kputBad) (Bool.rec (.mk kputBad) (tput (path d) fun g => .mk fun v => g (some v)) (Nat.ble (Nat.succ d) sz)) (placed d) := rfl
    have e2 : kput sz (some d) = Bool.rec kputBad (Bool.rec kputBad (kputAt (path d)) (Nat.ble (Nat.succ d) sz)) (placed d) := rfl
    rw [e1, e2, tput_eq]
    have e3 : (fun v => tputOf (path d) (some v)) = kputAt (path d) := by
      funext v fr k
      exact (Tr.insK_eq _ _ _ _).symm
    rw [e3]
    cases placed d <;> cases Nat.ble (Nat.succ d) sz <;> rfl
/-- A function that may be called; with no captured words mostly. -/
noncomputable def kisGoB (P : Program) (g : FuncId) : Bx Bool := Bool.rec (.mk false) (.mk true) (isGo P g)
theorem kisGoB_eq (g : FuncId) : kisGoB P g = .mk (isGo P g) := by unfold kisGoB; cases isGo P g <;> rfl
noncomputable def kfunVB (P : Program) (fv : Value) (k : FuncId → List Value → List Value → KX) : KX :=
  match fv with
  | .func (.func g) first cap => (kisGoB P g).on fun b => Bool.rec .bad (k g first.toList cap.toList) b
  | _ => .bad
theorem kfunVB_eq (fv : Value) (k : FuncId → List Value → List Value → KX) : kfunVB P fv k = kfunV P fv k := by
  cases fv with
  | func fn first cap =>
    cases fn with
    | func g =>
      show ((kisGoB P g).on fun b => Bool.rec (motive := fun _ => KX) KX.bad (k g first.toList cap.toList) b) = (Bool.rec (motive := fun _ => KX) KX.bad (k g first.toList cap.toList) (isGo P g))
      rw [kisGoB_eq, Bx.on_mk]
    | _ => rfl
  | _ => rfl
noncomputable def kCallVG (P : Program) (f : KGet) (args : List KGet) (call : KCall) : KOp := fun fr n h k =>
  f fr fun fv => kfunVB P fv fun g fs cap => kevsG args fr fun vs => krK (call g (fs ++ (vs ++ cap)) n h) k
noncomputable def kcallB1 (P : Program) (f : Operand) (args : List Operand) : Bx (KCall → KOp) := (kevB f).on fun g => (kevsB args).on fun gs => .mk (kCallVG P g gs)
theorem kcallB1_eq (f : Operand) (args : List Operand) : kcallB1 P f args = .mk (kCallV P f args) := by
  unfold kcallB1
  rw [kevB_eq, Bx.on_mk, kevsB_eq, Bx.on_mk]
  unfold kCallVG kCallV
  rw [kevsG_eq]
  congr 1
  funext call fr n h k
  congr 1
  funext fv
  rw [kfunVB_eq]
noncomputable def kdoB (P : Program) (op : Op) : Bx (KCall → KOp) :=
  match op with
  | .call ⟨.value f, args, _⟩ => kcallB1 P f args.toList
  | op => (kdispB P op).on fun g => .mk fun _ => g
theorem kdoB_eq (op : Op) : kdoB P op = .mk (kdo P op) := by
  have key : ∀ op, (kdispB P op).on (fun g => Bx.mk fun _ : KCall => g) = .mk fun _ => kdisp P op := fun op => by rw [kdispB_eq, Bx.on_mk]
  cases op with
  | call c =>
    obtain ⟨cal, args, ts⟩ := c
    cases cal with
    | value f => exact kcallB1_eq _ _
    | _ => simp only [kdoB, kdo]; exact key _
  | _ => simp only [kdoB, kdo]; exact key _
noncomputable def kB2SG (x : KGet) : KOp := fun fr n h k => x fr fun v => kb2s v h fun v => k v n h
noncomputable def kdoXB0 (P : Program) (op : Op) : Bx (KCall → KOp) :=
  match op with
  | .call ⟨.builtin .cap, ⟨[x]⟩, ⟨[t]⟩⟩ => .mk fun _ => kCap P t x
  | .call ⟨.builtin .append, ⟨[s, x]⟩, ⟨[st, xt]⟩⟩ => Bool.rec (motive := fun _ => Bx (KCall → KOp)) (kdoB P (.call ⟨.builtin .append, ⟨[s, x]⟩, ⟨[st, xt]⟩⟩)) (.mk fun _ => kAppMake P st xt s x) (apElem P st xt).isSome
  | .convert s d x => Bool.rec (motive := fun _ => Bx (KCall → KOp)) (kdoB P (.convert s d x)) ((kevB x).on fun g => .mk fun _ => kB2SG g) (bytesStr P s d)
  | .call ⟨.value (.func g), args, ts⟩ => Nat.rec (motive := fun _ => Bx (KCall → KOp)) (kdoB P (.call ⟨.value (.func g), args, ts⟩)) (fun m _ => .mk fun _ => kExt (Nat.succ m) args.toList) (extKind P g)
  | op => kdoB P op
theorem kdoXB0_eq (op : Op) : kdoXB0 P op = .mk (kdoX0 P op) := by
  generalize hg : kdoX0 P op = g
  unfold kdoX0 at hg
  split at hg
  · subst hg; rfl
  · rename_i s x st xt
    subst hg
    show Bool.rec (motive := fun _ => Bx (KCall → KOp)) (kdoB P (.call ⟨.builtin .append, ⟨[s, x]⟩, ⟨[st, xt]⟩⟩)) (.mk fun _ => kAppMake P st xt s x) (apElem P st xt).isSome = _
    cases (apElem P st xt).isSome with
    | false => exact kdoB_eq _
    | true => rfl
  · rename_i s d x
    subst hg
    show Bool.rec (motive := fun _ => Bx (KCall → KOp)) (kdoB P (.convert s d x)) ((kevB x).on fun g => .mk fun _ => kB2SG g) (bytesStr P s d) = _
    rw [kevB_eq, Bx.on_mk]
    cases bytesStr P s d with
    | false => exact kdoB_eq _
    | true => rfl
  · rename_i g' args ts
    subst hg
    show Nat.rec (motive := fun _ => Bx (KCall → KOp)) (kdoB P (.call ⟨.value (.func g'), args, ts⟩)) (fun m _ => .mk fun _ => kExt (Nat.succ m) args.toList) (extKind P g') = _
    cases extKind P g' with
    | zero => exact kdoB_eq _
    | succ m => rfl
  · rename_i h1 h0 h3 h2
    subst hg
    have : kdoXB0 P op = kdoB P op := by
      unfold kdoXB0
      split
      · exact absurd rfl (h1 _ _)
      · exact absurd rfl (h0 _ _ _ _)
      · exact absurd rfl (h3 _ _ _)
      · exact absurd rfl (h2 _ _ _)
      · rfl
    rw [this, kdoB_eq]
noncomputable def kdoXB (P : Program) (op : Op) : Bx (KCall → KOp) := Option.rec (kdoXB0 P op) (fun g => .mk fun _ => g) (kmore P op)
theorem kdoXB_eq (op : Op) : kdoXB P op = .mk (kdoX P op) := by
  unfold kdoXB kdoX
  cases kmore P op with
  | none => exact kdoXB0_eq op
  | some g => rfl
noncomputable def kguardSlotB (d : Option Tmp) : Bx KGet := match d with | some d => kevB (.tmp d) | none => .mk kbad2
theorem kguardSlotB_eq (d : Option Tmp) : kguardSlotB d = .mk (kguardSlot d) := by
  cases d with
  | none => rfl
  | some d => exact kevB_eq (.tmp d)
noncomputable def koneB (P : Program) (sz : Nat) (ops : Array Oper) (o : Oper) (rest : Bx KDyn) : Bx KDyn :=
  rest.on fun rest => (kdoXB P o.op).on fun g => (kputB sz o.dst).on fun put =>
  match o.guard with
  | none => .mk (kplain g put rest)
  | some (j, want) => (kguardSlotB ((ops[j]?).bind (·.dst))).on fun slot => .mk (kguarded slot want g put rest)
theorem koneB_eq (sz : Nat) (ops : Array Oper) (o : Oper) (rest : KDyn) : koneB P sz ops o (.mk rest) = .mk (kone P sz ops o rest) := by
  unfold koneB kone
  rw [Bx.on_mk, kdoXB_eq, Bx.on_mk, kputB_eq, Bx.on_mk]
  generalize o.guard = u
  rcases u with _ | ⟨j, want⟩
  · rfl
  · show (kguardSlotB _).on _ = _
    rw [kguardSlotB_eq]; rfl
noncomputable def kopsB (P : Program) (sz : Nat) (ops : Array Oper) (l : List Oper) : Bx KDyn :=
  List.rec (motive := fun _ => Bx KDyn) (.mk fun _ _ fr n h => .ok .normal fr n h) (fun o _ ih => koneB P sz ops o ih) l
theorem kopsB_eq (sz : Nat) (ops : Array Oper) : ∀ (l : List Oper), kopsB P sz ops l = .mk (kops P sz ops l)
  | [] => rfl
  | o :: l => by
    show koneB P sz ops o (kopsB P sz ops l) = _
    rw [kopsB_eq sz ops l, koneB_eq]; rfl

/-- Drawn rows. -/
noncomputable def klate1B (P : Program) (l : KLate) (n : Nat) (h : Tr HObj) (k : KX) : KX :=
  Bool.rec .bad ((kdispB P l.o.op).on fun g => g l.fr n h fun v _ _ => Bool.rec .bad k (eqV v l.v)) (quiet l.o.op)
noncomputable def klateB (P : Program) (ms : List Nat) (i : Nat) (n : Nat) (h : Tr HObj) (l : List KLate) (k : KX) : KX :=
  List.rec (motive := fun _ => KX) k (fun x _ ih => Bool.rec (klate1B P x n h ih) ih (anc ms x.idx i)) l
theorem klateB_eq (ms : List Nat) (i : Nat) (n : Nat) (h : Tr HObj) (k : KX) : ∀ (l : List KLate), klateB P ms i n h l k = klate P ms i n h l k
  | [] => rfl
  | x :: l => by
    show (Bool.rec (motive := fun _ => KX) (klate1B P x n h (klateB P ms i n h l k)) (klateB P ms i n h l k) (anc ms x.idx i)) = (Bool.rec (motive := fun _ => KX) (klate1 P x n h (klate P ms i n h l k)) (klate P ms i n h l k) (anc ms x.idx i))
    rw [klateB_eq ms i n h k l]
    unfold klate1B klate1
    rw [kdispB_eq, Bx.on_mk]
noncomputable def kdE1B (P : Program) (sz : Nat) (ms : List Nat) (i : Nat) (g : KCall → KOp) (put : KPut) (next : KDraw) : KDraw := fun n0 late call f fr n h =>
  g call fr n h fun v n' h' => klateB P ms i n' h' late (put v fr fun fr' => next n0 late call f fr' n' h')
theorem kdE1B_eq (sz : Nat) (ms : List Nat) (i : Nat) (g : KCall → KOp) (put : KPut) (next : KDraw) : kdE1B P sz ms i g put next = kdE1 P sz ms i g put next := by
  unfold kdE1B kdE1
  funext n0 late call f fr n h
  congr 1
  funext v n' h'
  rw [klateB_eq]
noncomputable def kdGB (ops : Array Oper) (o : Oper) (yes no : KDraw) : Bx KDraw :=
  match o.guard with
  | none => .mk yes
  | some (j, want) => (kguardSlotB ((ops[j]?).bind (·.dst))).on fun slot => .mk (kdGuard slot want yes no)
theorem kdGB_eq (ops : Array Oper) (o : Oper) (yes no : KDraw) : kdGB ops o yes no = .mk (kdG ops o yes no) := by
  unfold kdGB kdG
  generalize o.guard = u
  rcases u with _ | ⟨j, want⟩
  · rfl
  · show (kguardSlotB _).on _ = _
    rw [kguardSlotB_eq]; rfl
noncomputable def kdQB (P : Program) (sz : Nat) (ops : Array Oper) (i : Nat) (next : Bx KDraw) : Bx KDraw :=
  next.on fun next =>
  match ops[i]? with
  | some o => (kdispB P o.op).on fun g => (kputB sz o.dst).on fun put => kdGB ops o (kdQ1 P sz i o g put next) (kdSkip put next)
  | none => .mk kdBad
theorem kdQB_eq (sz : Nat) (ops : Array Oper) (i : Nat) (next : KDraw) : kdQB P sz ops i (.mk next) = .mk (kdQ P sz ops i next) := by
  unfold kdQB kdQ
  rw [Bx.on_mk]
  generalize ops[i]? = u
  rcases u with _ | o
  · rfl
  · show (kdispB P o.op).on _ = _
    rw [kdispB_eq, Bx.on_mk, kputB_eq, Bx.on_mk, kdGB_eq]
noncomputable def kdEB (P : Program) (sz : Nat) (ops : Array Oper) (ms : List Nat) (i : Nat) (next : Bx KDraw) : Bx KDraw :=
  next.on fun next =>
  match ops[i]? with
  | some o => (kdoB P o.op).on fun g => (kputB sz o.dst).on fun put => kdGB ops o (kdE1B P sz ms i g put next) (kdSkip put next)
  | none => .mk kdBad
theorem kdEB_eq (sz : Nat) (ops : Array Oper) (ms : List Nat) (i : Nat) (next : KDraw) : kdEB P sz ops ms i (.mk next) = .mk (kdE P sz ops ms i next) := by
  unfold kdEB kdE
  rw [Bx.on_mk]
  generalize ops[i]? = u
  rcases u with _ | o
  · rfl
  · show (kdoB P o.op).on _ = _
    rw [kdoB_eq, Bx.on_mk, kputB_eq, Bx.on_mk, kdGB_eq, kdE1B_eq]
noncomputable def kdAltB (other : WT) (a b : Bx KDraw) : Bx KDraw := match other with | .stop => a | _ => a.on fun a => b.on fun b => .mk (kdMeet a b)
theorem kdAltB_eq (other : WT) (a b : KDraw) : kdAltB other (.mk a) (.mk b) = .mk (kdAlt other a b) := by cases other <;> rfl
noncomputable def kdB (P : Program) (sz : Nat) (ops : Array Oper) (ms : List Nat) (t : WT) : Bx KDraw :=
  WT.rec (motive := fun _ => Bx KDraw) (.mk fun _ _ _ _ fr n h => .ok .normal fr n h) (fun i _ ih => kdQB P sz ops i ih) (fun i _ other ih ih2 => kdAltB other (kdEB P sz ops ms i ih) ih2) (.mk kdBad) t
theorem kdB_eq (sz : Nat) (ops : Array Oper) (ms : List Nat) : ∀ (t : WT), kdB P sz ops ms t = .mk (kd P sz ops ms t) := by
  intro t
  induction t with
  | done => rfl
  | stop => rfl
  | op i t ih =>
    show kdQB P sz ops i (kdB P sz ops ms t) = _
    rw [ih, kdQB_eq]; rfl
  | eff i t other ih ih2 =>
    show kdAltB other (kdEB P sz ops ms i (kdB P sz ops ms t)) (kdB P sz ops ms other) = _
    rw [ih, ih2, kdEB_eq, kdAltB_eq]; rfl
noncomputable def fnats {β : Type} (l : List Nat) : (List Nat → β) → β :=
  List.rec (motive := fun _ => (List Nat → β) → β) (fun k => k []) (fun x _ ih k => forceNat x fun x => ih fun r => k (x :: r)) l
theorem fnats_eq {β : Type} : ∀ (l : List Nat) (k : List Nat → β), fnats l k = k l
  | [], _ => rfl
  | x :: l, k => by
    show forceNat x (fun x => fnats l fun r => k (x :: r)) = _
    rw [forceNat_eq, fnats_eq l]
noncomputable def kdrawRun (g : KDraw) : KDyn := fun call f fr n h => g n [] call f fr n h
noncomputable def kdrawB (P : Program) (sz : Nat) (ops : Array Oper) : Bx KDyn :=
  fnats (ancMasks ops) fun ms => (kdB P sz ops ms (mkTree ops (Nat.succ ops.size) [])).on fun g => .mk (kdrawRun g)
theorem kdrawB_eq (sz : Nat) (ops : Array Oper) : kdrawB P sz ops = .mk (kdraw P sz ops) := by
  unfold kdrawB kdraw
  rw [fnats_eq, kdB_eq, Bx.on_mk]
  rfl
noncomputable def kregionB (P : Program) (sz : Nat) (ops : Array Oper) (draw : Bool) : Bx KDyn := Bool.rec (kopsB P sz ops ops.toList) (kdrawB P sz ops) draw
theorem kregionB_eq (sz : Nat) (ops : Array Oper) (draw : Bool) : kregionB P sz ops draw = .mk (kregion P sz ops draw) := by
  cases draw
  · exact kopsB_eq _ _ _
  · exact kdrawB_eq _ _
/-- Code. -/
noncomputable def kcondG (c : KGet) (x y : KDyn) : KDyn := fun call f fr n h => c fr fun v => kboolV v (x call f fr n h) (y call f fr n h)
noncomputable def kcondB (c : Operand) (x y : Bx KDyn) : Bx KDyn := (kevB c).on fun c => x.on fun x => y.on fun y => .mk (kcondG c x y)
noncomputable def kcodeB (P : Program) (sz : Nat) (c : Code) : Bx KDyn :=
  Code.rec (motive := fun _ => Bx KDyn) (.mk kskip) (fun _ ops draw => kregionB P sz ops draw) (fun _ _ a b => a.on fun a => b.on fun b => .mk (kseq a b)) (fun c _ _ x y => kcondB c x y) (fun id _ a => a.on fun a => .mk (kblock id a)) (fun _ a => a.on fun a => .mk (kloop a))
    (fun _ _ _ _ _ _ => .mk kbadDyn) (fun id => .mk (kexit id)) (fun _ a => a.on fun a => .mk (kscope a)) (fun _ => .mk kskip) (fun _ => .mk kbadDyn) (.mk kret) (fun _ => .mk kbadDyn) c
theorem kcodeB_eq (sz : Nat) (c : Code) : kcodeB P sz c = .mk (kcode P sz c) := by
  induction c with
  | region id ops draw => exact kregionB_eq _ _ _
  | seq a b iha ihb =>
    show (kcodeB P sz a).on (fun a => (kcodeB P sz b).on fun b => Bx.mk (kseq a b)) = _
    rw [iha, ihb]; rfl
  | cond c x y ihx ihy =>
    show kcondB c (kcodeB P sz x) (kcodeB P sz y) = _
    unfold kcondB
    rw [ihx, ihy, kevB_eq]; rfl
  | block id c ih =>
    show (kcodeB P sz c).on (fun a => Bx.mk (kblock id a)) = _
    rw [ih]; rfl
  | scope c ih =>
    show (kcodeB P sz c).on (fun a => Bx.mk (kscope a)) = _
    rw [ih]; rfl
  | loop c ih =>
    show (kcodeB P sz c).on (fun a => Bx.mk (kloop a)) = _
    rw [ih]; rfl
  | _ => rfl
/-- Functions. -/
abbrev KFun := KCall → Nat → List Value → Nat → Tr HObj → KR
noncomputable def kbodyB (P : Program) (fn : Func) : Bx KFun :=
  match fn.body with
  | some c => (kcodeB P fn.ntmps c).on fun g => forceNat fn.ntmps fun sz => .mk (kfun P sz fn.results.toList g)
  | none => .mk kbadFun
theorem kbodyB_eq (fn : Func) : kbodyB P fn = .mk (kbody P fn) := by
  unfold kbodyB kbody
  generalize fn.body = u
  rcases u with _ | c
  · rfl
  · show (kcodeB P fn.ntmps c).on (fun g => forceNat fn.ntmps fun sz => Bx.mk (kfun P sz fn.results.toList g)) = _
    rw [kcodeB_eq, Bx.on_mk, forceNat_eq]
noncomputable def kfnB (P : Program) (f : FuncId) : Bx KFun :=
  match P.funcs[f]? with
  | some fn => kbodyB P fn
  | none => .mk kbadFun
theorem kfnB_eq (f : FuncId) : kfnB P f = .mk (kfn P f) := by
  unfold kfnB kfn
  generalize P.funcs[f]? = u
  rcases u with _ | fn
  · rfl
  · exact kbodyB_eq _
end Go.HL
