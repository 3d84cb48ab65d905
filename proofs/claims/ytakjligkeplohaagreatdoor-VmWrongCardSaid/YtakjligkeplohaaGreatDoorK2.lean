/-
  A way to run code on given data inside the kernel, part 2: operands, numbers, texts, places.
-/
import Derived.Test.YtakjligkeplohaaGreatDoorK1
namespace Go.HL
open Go.RowKit
set_option linter.unusedSimpArgs false
set_option linter.unusedVariables false

variable {P : Program}

/-- Slots and operands. -/
noncomputable def kslot (p : List Bool) (fr : Tr Value) (k : Value → KX) : KX := Option.rec .bad k (fr.walk p)
def kbad2 (fr : Tr Value) (k : Value → KX) : KX := .bad
def kconst (v : Value) (fr : Tr Value) (k : Value → KX) : KX := k v
noncomputable def kev : Operand → Tr Value → (Value → KX) → KX :=
  Operand.rec (fun t => Bool.rec kbad2 (kslot (path t)) (placed t)) (fun v => Bool.rec kbad2 (kconst v) (flat v)) (fun _ => kbad2) (fun f => kconst (.func (.func f) #[] #[]))

theorem kev_ok {sz : Nat} {x : Operand} {fr : Tr Value} : Thru (kev x fr) fun v => hev (absF sz fr) x = some v := by
  intro k hk
  cases x with
  | tmp t =>
    have e : kev (.tmp t) = Bool.rec kbad2 (kslot (path t)) (placed t) := rfl
    rw [e] at hk ⊢
    cases hp : placed t with
    | false => rw [hp] at hk; exact absurd rfl hk
    | true =>
      rw [hp] at hk
      have e2 : hev (absF sz fr) (.tmp t) = fr.walk (path t) := by
        show Tr.at fr t = _
        unfold Tr.at; rw [hp]
      show ∃ a, _ ∧ kslot (path t) fr k = k a
      rw [e2]
      have hk' : kslot (path t) fr k ≠ .bad := hk
      unfold kslot at hk' ⊢
      cases hw : fr.walk (path t) with
      | none => rw [hw] at hk'; exact absurd rfl hk'
      | some v => exact ⟨v, rfl, rfl⟩
  | const v =>
    have e : kev (.const v) = Bool.rec kbad2 (kconst v) (flat v) := rfl
    rw [e] at hk ⊢
    cases hp : flat v with
    | false => rw [hp] at hk; exact absurd rfl hk
    | true => exact ⟨v, by simp [hev, hp], rfl⟩
  | global g => exact absurd rfl hk
  | func f => exact ⟨_, rfl, rfl⟩

/-- An outcome of the high level that is a value alone. -/
noncomputable def kslow (o : Option Value) (k : Value → KX) : KX := Option.rec .bad (fun v => forceV v k) o
theorem kslow_ok (o : Option Value) : Thru (kslow o) fun v => o = some v := by
  intro k hk
  unfold kslow at hk ⊢
  cases o with
  | none => exact absurd rfl hk
  | some v => exact ⟨v, rfl, forceV_eq v k⟩

/-- Kinds of whole numbers. -/
noncomputable def ikN (k : IntKind) : Nat := IntKind.rec 0 1 2 3 4 5 6 7 k
noncomputable def ikEq (a b : IntKind) : Bool := Nat.beq (ikN a) (ikN b)
theorem ikEq_eq {a b : IntKind} (h : ikEq a b = true) : a = b := by
  have := Nat.eq_of_beq_eq_true h
  cases a <;> cases b <;> first | rfl | (simp [ikN] at this)
noncomputable def kcap (k : IntKind) : Nat := IntKind.rec 127 32767 2147483647 9223372036854775807 255 65535 4294967295 18446744073709551615 k
theorem kcap_wrap {k : IntKind} {z : Nat} (h : Nat.ble z (kcap k) = true) : k.wrap (Int.ofNat z) = Int.ofNat z := by
  have h := Nat.le_of_ble_eq_true h
  cases k <;> simp only [kcap] at h <;> simp only [IntKind.wrap, IntKind.bits, IntKind.signed, Int.ofNat_eq_natCast] <;> simp <;> omega
theorem kcap_wrap' {k : IntKind} {z : Nat} {n : Int} (h : Nat.ble z (kcap k) = true) (hn : n = Int.ofNat z) : k.wrap n = Int.ofNat z := by rw [hn]; exact kcap_wrap h

/-- Two numbers that are not below 0, by a way of their own. -/
abbrev KG := IntKind → Nat → Nat → (Value → KX) → KX → KX
def GOk (op : BinOp) (g : KG) : Prop := ∀ ik x y k s, g ik x y k s = s ∨ ∃ v, hint op ik (Int.ofNat x) (Int.ofNat y) = some v ∧ g ik x y k s = k v
noncomputable def kgcap (f : Nat → Nat → Nat) : KG := fun ik x y k s => Bool.rec s (forceNat (f x y) fun z => k (.int ik (.ofNat z))) (Nat.ble (f x y) (kcap ik))
theorem kgcap_ok {op : BinOp} {f : Nat → Nat → Nat} (ik : IntKind) (x y : Nat) (k : Value → KX) (s : KX) (h : ∀ z, f x y = z → Nat.ble z (kcap ik) = true → hint op ik (Int.ofNat x) (Int.ofNat y) = some (.int ik (.ofNat z))) :
    kgcap f ik x y k s = s ∨ ∃ v, hint op ik (Int.ofNat x) (Int.ofNat y) = some v ∧ kgcap f ik x y k s = k v := by
  unfold kgcap
  cases hb : Nat.ble (f x y) (kcap ik) with
  | false => exact .inl rfl
  | true => exact .inr ⟨_, h _ rfl hb, forceNat_eq _ _⟩
noncomputable def gAdd : KG := kgcap Nat.add
theorem gAdd_ok : GOk .add gAdd := fun ik x y k s => kgcap_ok ik x y k s fun z hz hc => by
  simp only [hint]; rw [kcap_wrap' hc]; rw [← hz]; rfl
noncomputable def gMul : KG := kgcap Nat.mul
theorem gMul_ok : GOk .mul gMul := fun ik x y k s => kgcap_ok ik x y k s fun z hz hc => by
  simp only [hint]; rw [kcap_wrap' hc]; rw [← hz]; rfl
noncomputable def gSub : KG := fun ik x y k s => Bool.rec s (kgcap Nat.sub ik x y k s) (Nat.ble y x)
theorem gSub_ok : GOk .sub gSub := fun ik x y k s => by
  unfold gSub
  cases hb : Nat.ble y x with
  | false => exact .inl rfl
  | true =>
    refine kgcap_ok ik x y k s fun z hz hc => ?_
    have := Nat.le_of_ble_eq_true hb
    simp only [hint]; rw [kcap_wrap' hc]
    rw [← hz]
    simp only [Int.ofNat_eq_natCast]
    show (x : Int) - (y : Int) = ((x - y : Nat) : Int)
    omega
noncomputable def gQuo : KG := fun ik x y k s => Bool.rec (kgcap Nat.div ik x y k s) s (Nat.beq y 0)
theorem gQuo_ok : GOk .quo gQuo := fun ik x y k s => by
  unfold gQuo
  cases hb : Nat.beq y 0 with
  | true => exact .inl rfl
  | false =>
    refine kgcap_ok ik x y k s fun z hz hc => ?_
    have h0 : y ≠ 0 := fun e => by subst e; simp at hb
    simp only [hint]
    rw [if_neg (by simp only [Int.ofNat_eq_natCast]; omega), kcap_wrap' hc]
    rw [← hz]
    simp only [Int.ofNat_eq_natCast]
    show Int.tdiv (x : Int) (y : Int) = ((x / y : Nat) : Int)
    rfl
noncomputable def gRem : KG := fun ik x y k s => Bool.rec (forceNat (Nat.mod x y) fun z => k (.int ik (.ofNat z))) s (Nat.beq y 0)
theorem gRem_ok : GOk .rem gRem := fun ik x y k s => by
  unfold gRem
  cases hb : Nat.beq y 0 with
  | true => exact .inl rfl
  | false =>
    refine .inr ⟨_, ?_, forceNat_eq _ _⟩
    have h0 : y ≠ 0 := fun e => by subst e; simp at hb
    simp only [hint]
    rw [if_neg (by simp only [Int.ofNat_eq_natCast]; omega)]
    rfl
noncomputable def kbool (b : Bool) (k : Value → KX) : KX := Bool.rec (k (.bool false)) (k (.bool true)) b
theorem kbool_eq (b : Bool) (k : Value → KX) : kbool b k = k (.bool b) := by cases b <;> rfl
noncomputable def gEql : KG := fun _ x y k _ => kbool (Nat.beq x y) k
theorem gEql_ok : GOk .eql gEql := fun ik x y k s => .inr ⟨_, by
  simp only [hint]
  congr 2
  rw [Bool.eq_iff_iff]
  simp only [beq_iff_eq, Int.ofNat_eq_natCast]
  constructor
  · intro h; rw [show x = y by omega]; exact Nat.beq_refl y
  · intro h; rw [Nat.eq_of_beq_eq_true h], kbool_eq _ _⟩
noncomputable def gNeq : KG := fun _ x y k _ => kbool (Bool.not (Nat.beq x y)) k
theorem gNeq_ok : GOk .neq gNeq := fun ik x y k s => .inr ⟨_, by
  simp only [hint]
  congr 2
  show (!(Int.ofNat x == Int.ofNat y)) = !(Nat.beq x y)
  congr 1
  rw [Bool.eq_iff_iff]
  simp only [beq_iff_eq, Int.ofNat_eq_natCast]
  constructor
  · intro h; rw [show x = y by omega]; exact Nat.beq_refl y
  · intro h; rw [Nat.eq_of_beq_eq_true h], kbool_eq _ _⟩
theorem ble_dec (a b : Nat) (p : Prop) [Decidable p] (h : p ↔ a ≤ b) : decide p = Nat.ble a b := by
  rw [Bool.eq_iff_iff, decide_eq_true_iff, h]
  exact ⟨Nat.ble_eq_true_of_le, Nat.le_of_ble_eq_true⟩
noncomputable def gLss : KG := fun _ x y k _ => kbool (Nat.ble (Nat.succ x) y) k
theorem gLss_ok : GOk .lss gLss := fun ik x y k s => .inr ⟨_, by
  simp only [hint]; rw [ble_dec (Nat.succ x) y _ (by simp only [Int.ofNat_eq_natCast]; omega)], kbool_eq _ _⟩
noncomputable def gLeq : KG := fun _ x y k _ => kbool (Nat.ble x y) k
theorem gLeq_ok : GOk .leq gLeq := fun ik x y k s => .inr ⟨_, by
  simp only [hint]; rw [ble_dec x y _ (by simp only [Int.ofNat_eq_natCast]; omega)], kbool_eq _ _⟩
noncomputable def gGtr : KG := fun _ x y k _ => kbool (Nat.ble (Nat.succ y) x) k
theorem gGtr_ok : GOk .gtr gGtr := fun ik x y k s => .inr ⟨_, by
  simp only [hint]; rw [ble_dec (Nat.succ y) x _ (by simp only [Int.ofNat_eq_natCast]; omega)], kbool_eq _ _⟩
noncomputable def gGeq : KG := fun _ x y k _ => kbool (Nat.ble y x) k
theorem gGeq_ok : GOk .geq gGeq := fun ik x y k s => .inr ⟨_, by
  simp only [hint]; rw [ble_dec y x _ (by simp only [Int.ofNat_eq_natCast]; omega)], kbool_eq _ _⟩
def gSlow : KG := fun _ _ _ _ s => s
theorem gSlow_ok (op : BinOp) : GOk op gSlow := fun _ _ _ _ _ => .inl rfl

/-- Rows of bytes. -/
noncomputable def lEq (a : List UInt8) : List UInt8 → Bool :=
  List.rec (motive := fun _ => List UInt8 → Bool) (fun b => List.rec (motive := fun _ => Bool) true (fun _ _ _ => false) b)
    (fun x _ ih b => List.rec (motive := fun _ => Bool) false (fun y b' _ => Bool.rec false (ih b') (Nat.beq x.toNat y.toNat)) b) a
theorem lEq_eq : ∀ (a b : List UInt8), (a == b) = lEq a b
  | [], [] => rfl
  | [], _ :: _ => rfl
  | _ :: _, [] => rfl
  | x :: a, y :: b => by
    have e : lEq (x :: a) (y :: b) = Bool.rec false (lEq a b) (Nat.beq x.toNat y.toNat) := rfl
    rw [e, List.cons_beq_cons, lEq_eq a b]
    cases hb : Nat.beq x.toNat y.toNat with
    | true =>
      have := UInt8.toNat_inj.1 (Nat.eq_of_beq_eq_true hb)
      subst this
      simp
    | false =>
      have : x ≠ y := fun e => by subst e; rw [Nat.beq_refl] at hb; cases hb
      simp [this]
theorem k_bytes_loop (bs : ByteArray) : ∀ (k i : Nat) (r : List UInt8), bs.size - i = k → ByteArray.toList.loop bs i r = r.reverse ++ bs.data.toList.drop i := by
  intro k
  induction k with
  | zero =>
    intro i r h
    rw [ByteArray.toList.loop, if_neg (by omega), List.drop_eq_nil_of_le (by rw [Array.length_toList, ByteArray.size_data]; omega), List.append_nil]
  | succ k ih =>
    intro i r h
    have hi : i < bs.size := by omega
    rw [ByteArray.toList.loop, if_pos hi, ih (i + 1) _ (by omega), List.reverse_cons, List.append_assoc]
    congr 1
    have hi' : i < bs.data.toList.length := by rw [Array.length_toList, ByteArray.size_data]; exact hi
    rw [List.drop_eq_getElem_cons hi']
    simp only [List.singleton_append, List.cons.injEq, and_true]
    cases bs with
    | mk data =>
      show data[i]! = _
      have : i < data.size := hi
      rw [getElem!_pos data i this]; simp
theorem k_bytes_list (bs : ByteArray) : bs.toList = bs.data.toList := by
  unfold ByteArray.toList; rw [k_bytes_loop bs _ 0 [] rfl]; simp

/-- Texts held against each other. -/
noncomputable def kstr (op : BinOp) (x y : ByteArray) (k : Value → KX) : KX :=
  match op with
  | .eql => kbool (lEq x.data.toList y.data.toList) k
  | .neq => kbool (Bool.not (lEq x.data.toList y.data.toList)) k
  | op => kslow (hstr op x y) k
theorem kstr_ok (op : BinOp) (x y : ByteArray) : Thru (kstr op x y) fun v => hstr op x y = some v := by
  intro k hk
  unfold kstr at hk ⊢
  split at hk
  · exact ⟨_, by simp only [hstr, k_bytes_list, lEq_eq], kbool_eq _ _⟩
  · exact ⟨_, by simp only [hstr, k_bytes_list, lEq_eq], kbool_eq _ _⟩
  · exact kslow_ok _ k hk

/-- Two values. -/
noncomputable def kbin2 (P : Program) (op : BinOp) (t : TypeId) (g : KG) (a b : Value) (k : Value → KX) : KX :=
  match a with
  | .int ik x => (match b with
    | .int jk y => Int.rec (fun x' => Int.rec (fun y' => Bool.rec (kslow (hbin P op t a b) k) (g ik x' y' k (kslow (hbin P op t a b) k)) (ikEq ik jk)) (fun _ => kslow (hbin P op t a b) k) y) (fun _ => kslow (hbin P op t a b) k) x
    | _ => .bad)
  | .string x => (match b with
    | .string y => kstr op x y k
    | _ => .bad)
  | _ => kslow (hbin P op t a b) k
def notShift : BinOp → Bool
  | .shl | .shr => false
  | _ => true
theorem kbin2_ok {op : BinOp} {t : TypeId} {g : KG} (hg : GOk op g) (hs : notShift op = true ∨ g = gSlow) (a b : Value) : Thru (kbin2 P op t g a b) fun v => hbin P op t a b = some v := by
  intro k hk
  unfold kbin2 at hk ⊢
  split at hk
  · split at hk
    · rename_i ik x _ jk y
      have slow : kslow (hbin P op t (.int ik x) (.int jk y)) k ≠ .bad → ∃ v, hbin P op t (.int ik x) (.int jk y) = some v ∧ kslow (hbin P op t (.int ik x) (.int jk y)) k = k v := kslow_ok _ k
      cases x with
      | negSucc m => exact slow hk
      | ofNat x =>
        cases y with
        | negSucc m => exact slow hk
        | ofNat y =>
          show ∃ v, _ ∧ Bool.rec _ _ (ikEq ik jk) = k v
          cases hi : ikEq ik jk with
          | false => rw [hi] at hk; exact slow hk
          | true =>
            rw [hi] at hk
            have := ikEq_eq hi
            subst this
            rcases hg ik x y k (kslow (hbin P op t (.int ik (.ofNat x)) (.int ik (.ofNat y))) k) with he | ⟨v, h1, h2⟩
            · show ∃ v, _ ∧ g ik x y k _ = k v
              rw [he]
              have hk2 : g ik x y k (kslow (hbin P op t (.int ik (.ofNat x)) (.int ik (.ofNat y))) k) ≠ .bad := hk
              rw [he] at hk2
              exact slow hk2
            · rcases hs with hs | hs
              · refine ⟨v, ?_, h2⟩
                unfold hbin
                cases op <;> simp only [notShift, Bool.false_eq_true] at hs <;> simp only [if_true] <;> exact h1
              · subst hs
                exact slow hk
    · exact absurd rfl hk
  · split at hk
    · rename_i x _ y
      obtain ⟨v, h1, h2⟩ := kstr_ok op x y k hk
      exact ⟨v, by unfold hbin; exact h1, h2⟩
    · exact absurd rfl hk
  · exact kslow_ok _ k hk

/-- Places. -/
def kaddr (p : Value) (k : Nat → Nat → KX) : KX :=
  match p with
  | .pointer (some ⟨b, o, none⟩) => k b o
  | _ => .bad
theorem kaddr_ok (p : Value) (k : Nat → Nat → KX) (h : kaddr p k ≠ .bad) : ∃ b o, p = .pointer (some ⟨b, o, none⟩) ∧ kaddr p k = k b o := by
  unfold kaddr at h ⊢
  split at h
  · exact ⟨_, _, rfl, rfl⟩
  · exact absurd rfl h
noncomputable def kcells0 (b : Nat) (h : Tr HObj) (k : List Value → Bool → KX) : KX :=
  Bool.rec .bad (Option.rec .bad (fun o => HObj.rec (fun cs rw => k cs rw) (fun _ => .bad) o) (h.walk (path b))) (placed b)
noncomputable def kcells (b : Nat) (h : Tr HObj) (k : List Value → Bool → KX) : KX :=
  (tgB HObj b).on fun g => g h fun o => HObj.rec (fun cs rw => k cs rw) (fun _ => .bad) o
theorem kcells_eq (b : Nat) (h : Tr HObj) (k : List Value → Bool → KX) : kcells b h k = kcells0 b h k := tgB_eq b h _
theorem kcells_ok {n : Nat} {b : Nat} {h : Tr HObj} (k : List Value → Bool → KX) (hk : kcells b h k ≠ .bad) : placed b = true ∧ ∃ cs rw, (absH n h).get b = some (.cells cs rw) ∧ kcells b h k = k cs rw := by
  rw [kcells_eq] at hk ⊢
  unfold kcells0 at hk ⊢
  cases hp : placed b with
  | false => rw [hp] at hk; exact absurd rfl hk
  | true =>
    rw [hp] at hk
    refine ⟨rfl, ?_⟩
    have e : (absH n h).get b = h.walk (path b) := by
      show h.at b = _
      unfold Tr.at; rw [hp]
    rw [e]
    simp only at hk ⊢
    cases hw : h.walk (path b) with
    | none => rw [hw] at hk; exact absurd rfl hk
    | some o =>
      rw [hw] at hk
      cases o with
      | cells cs rw => exact ⟨cs, rw, rfl, rfl⟩
      | map es => exact absurd rfl hk
/-- One of a row; some of a row. -/
noncomputable def knth {α : Type} (l : List α) : Nat → Option α :=
  List.rec (motive := fun _ => Nat → Option α) (fun _ => none) (fun v _ ih i => Nat.rec (motive := fun _ => Option α) (some v) (fun m _ => ih m) i) l
theorem knth_eq {α : Type} : ∀ (l : List α) (i : Nat), knth l i = l[i]?
  | [], i => by simp [knth]
  | v :: l, 0 => rfl
  | v :: l, i + 1 => by
    have : knth (v :: l) (i + 1) = knth l i := rfl
    rw [this, knth_eq l i]; simp
noncomputable def kdrop {α : Type} (i : Nat) (l : List α) : List α :=
  Nat.rec (motive := fun _ => List α) l (fun _ ih => List.rec (motive := fun _ => List α) [] (fun _ l _ => l) ih) i
theorem kdrop_eq {α : Type} : ∀ (i : Nat) (l : List α), kdrop i l = l.drop i
  | 0, l => rfl
  | i + 1, l => by
    have : kdrop (i + 1) l = List.rec (motive := fun _ => List α) [] (fun _ l _ => l) (kdrop i l) := rfl
    rw [this, kdrop_eq i l]
    cases h : l.drop i with
    | nil =>
      have := List.drop_eq_nil_iff.1 h
      exact (List.drop_eq_nil_of_le (by omega)).symm
    | cons x r =>
      show r = _
      rw [show l.drop (i + 1) = (l.drop i).drop 1 by rw [List.drop_drop], h]; rfl
noncomputable def ktake {α : Type} (n : Nat) : List α → (List α → KX) → KX :=
  Nat.rec (motive := fun _ => List α → (List α → KX) → KX) (fun _ k => k []) (fun _ ih l k => List.rec (motive := fun _ => KX) .bad (fun v l _ => ih l fun r => k (v :: r)) l) n
theorem ktake_ok {α : Type} : ∀ (n : Nat) (l : List α) (k : List α → KX), ktake n l k ≠ .bad → n ≤ l.length ∧ ktake n l k = k (l.take n)
  | 0, l, k, h => ⟨Nat.zero_le _, rfl⟩
  | n + 1, [], k, h => absurd rfl h
  | n + 1, v :: l, k, h => by
    have e : ktake (n + 1) (v :: l) k = ktake n l fun r => k (v :: r) := rfl
    rw [e] at h ⊢
    obtain ⟨h1, h2⟩ := ktake_ok n l _ h
    exact ⟨by simp; omega, by rw [h2]; rfl⟩
/-- Some of a row written anew. -/
noncomputable def kspl (cs : List Value) : Nat → List Value → (List Value → KX) → KX :=
  List.rec (motive := fun _ => Nat → List Value → (List Value → KX) → KX) (fun _ vs k => List.rec (motive := fun _ => KX) (k []) (fun _ _ _ => .bad) vs)
    (fun c cs ih o vs k => Nat.rec (motive := fun _ => KX) (List.rec (motive := fun _ => KX) (k (c :: cs)) (fun v vs _ => ih 0 vs fun r => k (v :: r)) vs) (fun m _ => ih m vs fun r => k (c :: r)) o) cs
theorem splice_cons_succ (c : Value) : ∀ (vs cs : List Value) (o : Nat), splice (c :: cs) (o + 1) vs = c :: splice cs o vs
  | [], _, _ => rfl
  | v :: vs, cs, o => by
    rw [splice, splice, List.set_cons_succ, splice_cons_succ c vs]
theorem kspl_ok : ∀ (cs : List Value) (o : Nat) (vs : List Value) (k : List Value → KX), kspl cs o vs k ≠ .bad → (vs = [] ∨ o + vs.length ≤ cs.length) ∧ kspl cs o vs k = k (splice cs o vs)
  | [], o, [], k, h => ⟨.inl rfl, rfl⟩
  | [], o, v :: vs, k, h => absurd rfl h
  | c :: cs, 0, [], k, h => ⟨.inl rfl, rfl⟩
  | c :: cs, 0, v :: vs, k, h => by
    have e : kspl (c :: cs) 0 (v :: vs) k = kspl cs 0 vs fun r => k (v :: r) := rfl
    rw [e] at h ⊢
    obtain ⟨h1, h2⟩ := kspl_ok cs 0 vs _ h
    refine ⟨.inr ?_, ?_⟩
    · rcases h1 with h1 | h1
      · subst h1; simp
      · simp; omega
    · rw [h2, splice]
      show k (v :: splice cs 0 vs) = k (splice (v :: cs) (0 + 1) vs)
      rw [splice_cons_succ]
  | c :: cs, o + 1, vs, k, h => by
    have e : kspl (c :: cs) (o + 1) vs k = kspl cs o vs fun r => k (c :: r) := rfl
    rw [e] at h ⊢
    obtain ⟨h1, h2⟩ := kspl_ok cs o vs _ h
    refine ⟨?_, ?_⟩
    · rcases h1 with h1 | h1
      · exact .inl h1
      · exact .inr (by simp; omega)
    · rw [h2, splice_cons_succ]
end Go.HL
