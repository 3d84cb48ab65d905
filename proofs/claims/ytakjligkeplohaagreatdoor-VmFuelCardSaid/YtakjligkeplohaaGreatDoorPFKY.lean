/-
  A way to run code on given data inside the kernel: operations on blocks whose type is known (what a strings.Builder is made of).
-/
import Derived.Test.YtakjligkeplohaaGreatDoorPFKX
import Derived.Lib.Builder
import Derived.Lib.ConvBytes
set_option linter.unusedVariables false
set_option linter.unusedSimpArgs false
namespace Go.HL
open Go.RowKit
set_option linter.unusedSimpArgs false
set_option linter.unusedVariables false
set_option maxRecDepth 100000
set_option maxHeartbeats 1000000

variable {P : Program}

/-- Types of which it is kept what type a new block is of. -/
def htyped : List TypeId := []
def typedT (t : TypeId) : Bool := htyped.any fun u => Nat.beq t u

/-- A new variable of a value, its type kept. -/
theorem new_typed {B : Nat} {μ : Mu} {H : HHeap} {w : World} (h : Rel B μ H w) (cs : List Value) (arr : Array Value) (t : TypeId) (hr : VRels μ cs arr.toList) (h1 : ∀ v ∈ cs, v.oneCell' = true) :
    ∃ μ', Step B μ H w μ' ((H.push (.cells cs true)).push (.tag t cs.length H.next)) (w.alloc (.cells arr t)) ∧ VRel μ' (.pointer (some ⟨H.next, 0, none⟩)) (.pointer (some ⟨w.heap.size, 0, none⟩)) := by
  have hl := hr.length
  have s1 := h.allocCells cs arr t (by rw [← hl, List.take_length]; exact hr) h1
  have s2 := s1.rel.pushTag (b := H.next) (p := ⟨w.heap.size, 0, arr.size⟩) (by simp [Mu.add]) rfl (heap_alloc_new w _) cs.length (fun _ => by simpa using hl)
  exact ⟨_, s1.trans s2, (VRel.ptr _ 0 ⟨w.heap.size, 0, arr.size⟩ (by simp [Mu.add])).mono s2.sub⟩
noncomputable def kNewT (t : TypeId) (cs : List Value) : KOp := fun fr n h k => forceNat cs.length fun m => kpush n h (.cells cs true) fun n1 h1 => kpush n1 h1 (.tag t m n) fun n2 h2 => k (.pointer (some ⟨n, 0, none⟩)) n2 h2
theorem kNewT_ok {t : TypeId} {cs : List Value} {fr : Tr Value} {n : Nat} {h : Tr HObj} {k : Value → Nat → Tr HObj → KX} (hk : kNewT t cs fr n h k ≠ .bad) :
    ∃ n' h', ((absH n h).push (.cells cs true)).push (.tag t cs.length n) = absH n' h' ∧ kNewT t cs fr n h k = k (.pointer (some ⟨n, 0, none⟩)) n' h' := by
  unfold kNewT at hk ⊢
  rw [forceNat_eq] at hk ⊢
  obtain ⟨n1, h1, e1, e2⟩ := kpush_ok hk
  rw [e2] at hk ⊢
  obtain ⟨n2, h2, e3, e4⟩ := kpush_ok hk
  exact ⟨n2, h2, by rw [e1, e3], e4⟩
noncomputable def kBoxT (t : TypeId) (x : Operand) : KOp := fun fr n h k => kev x fr fun v => Bool.rec .bad (klist v.cells.toList fun cs => kNewT t cs fr n h k) (allOne v.cells.toList)
theorem kBoxT_ok (sz : Nat) (o : Oper) (t : TypeId) (x : Operand) (ho : o.op = .box t x) : MeetOk P sz o (kBoxT t x) := by
  intro fr n h k hk
  unfold kBoxT at hk ⊢
  obtain ⟨v, h1, h2⟩ := kev_ok (sz := sz) _ hk
  rw [h2] at hk ⊢
  cases ha : allOne v.cells.toList with
  | false => rw [ha] at hk; exact absurd rfl hk
  | true =>
    rw [ha] at hk
    simp only [klist_eq] at hk ⊢
    obtain ⟨n', h', h3, h4⟩ := kNewT_ok hk
    refine ⟨_, n', h', ?_, h4⟩
    intro D B μ w a hR hf
    have hx := hev_rel hf h1
    obtain ⟨μ', s1, s2⟩ := new_typed hR v.cells.toList (a.eval x).cells t hx.cells (List.all_eq_true.1 ha)
    rw [← h3]
    exact ⟨μ', _, _, s1, s2, .inl (by simp [execOp, ho, Instr.box, newVar, newRow])⟩
noncomputable def kAllocT (P : Program) (t : TypeId) : KOp := match helem P t with | some e => kNewT t e.zero | none => kbadOp
theorem kAllocT_ok (sz : Nat) (o : Oper) (t : TypeId) (ho : o.op = .alloc t) : MeetOk P sz o (kAllocT P t) := by
  unfold kAllocT
  split
  · rename_i e he
    intro fr n h k hk
    obtain ⟨n', h', h3, h4⟩ := kNewT_ok hk
    refine ⟨_, n', h', ?_, h4⟩
    intro D B μ w a hR hf
    obtain ⟨i, z, hi, hz, hze, _, _, hfl, _⟩ := helem_spec he
    obtain ⟨μ', s1, s2⟩ := new_typed hR e.zero z.cells t (by rw [hze]; exact .of_flat1 hfl) (allFlat_one hfl)
    rw [← h3]
    refine ⟨μ', _, _, s1, s2, .inl ?_⟩
    have : z.cells = e.zero.toArray := by rw [← hze]
    simp [execOp, ho, Instr.alloc, zeroValue, typeInfo, hi, hz, newVar, newRow, this]
  · exact fun fr n h k hk => absurd rfl hk

/-- What is known of a block's type. -/
noncomputable def ktag (b : Nat) (h : Tr HObj) (k : TypeId → Nat → Nat → KX) : KX :=
  (tgB HObj b).on fun g => g h fun o => HObj.rec (fun _ _ => .bad) (fun _ => .bad) (fun _ _ => .bad) (fun e n c => k e n c) o
theorem ktag_ok {n : Nat} {b : Nat} {h : Tr HObj} (k : TypeId → Nat → Nat → KX) (hk : ktag b h k ≠ .bad) : ∃ e m c, (absH n h).get b = some (.tag e m c) ∧ ktag b h k = k e m c := by
  unfold ktag at hk ⊢
  rw [tgB_eq] at hk ⊢
  cases hp : placed b with
  | false => rw [hp] at hk; exact absurd rfl hk
  | true =>
    rw [hp] at hk
    have e : (absH n h).get b = h.walk (path b) := by
      show h.at b = _
      unfold Tr.at; rw [hp]
    rw [e]
    simp only at hk ⊢
    cases hw : h.walk (path b) with
    | none => rw [hw] at hk; exact absurd rfl hk
    | some o =>
      rw [hw] at hk
      cases o with
      | tag e m c => exact ⟨e, m, c, rfl, rfl⟩
      | cells _ _ => exact absurd rfl hk
      | map _ => exact absurd rfl hk
      | iter _ _ => exact absurd rfl hk

/-- A pointer turned into an unsafe one. -/
def toUns (P : Program) (s d : TypeId) : Bool :=
  match P.underlying s, P.underlying d with
  | some (.pointer t), some .unsafePointer => (match P.info? t with | some j => decide (j.size ≠ 0) | none => false)
  | _, _ => false
def fromUns (P : Program) (s d : TypeId) : Option TypeId :=
  match P.underlying s, P.underlying d with
  | some .unsafePointer, some (.pointer u) => if (P.info? u).isSome then some u else none
  | _, _ => none
noncomputable def kuns (ok : TypeId → Nat → Nat → Bool) (v : Value) (n : Nat) (h : Tr HObj) (k : Value → Nat → Tr HObj → KX) : KX :=
  match v with
  | .pointer (some ⟨b, o, none⟩) => ktag (Nat.succ b) h fun e m c => Bool.rec .bad (k v n h) (Nat.beq c b && (Nat.ble (Nat.succ o) m && ok e m o))
  | _ => .bad
theorem kuns_ok {ok : TypeId → Nat → Nat → Bool} {v : Value} {n : Nat} {h : Tr HObj} {k : Value → Nat → Tr HObj → KX} (hk : kuns ok v n h k ≠ .bad) :
    kuns ok v n h k = k v n h ∧ ∃ b o e m, v = .pointer (some ⟨b, o, none⟩) ∧ (absH n h).get (b + 1) = some (.tag e m b) ∧ o < m ∧ ok e m o = true := by
  unfold kuns at hk ⊢
  split at hk
  · rename_i b o
    obtain ⟨e, m, c, h1, h2⟩ := ktag_ok (n := n) _ hk
    rw [h2] at hk ⊢
    cases hc : (Nat.beq c b && (Nat.ble (Nat.succ o) m && ok e m o)) with
    | false => rw [hc] at hk; exact absurd rfl hk
    | true =>
      rw [Bool.and_eq_true, Bool.and_eq_true] at hc
      have := Nat.eq_of_beq_eq_true hc.1
      subst this
      exact ⟨rfl, _, o, e, m, rfl, h1, Nat.le_of_ble_eq_true hc.2.1, hc.2.2⟩
  · exact absurd rfl hk
theorem uns_place {B : Nat} {μ : Mu} {H : HHeap} {w : World} (h : Rel B μ H w) {b o e m : Nat} {v' : Value} (ht : H.get (b + 1) = some (.tag e m b)) (ho : o < m) (hv : VRel μ (.pointer (some ⟨b, o, none⟩)) v') :
    ∃ g, v' = .pointer (some ⟨g, o, none⟩) ∧ w.shape? g = some (e, m) := by
  obtain ⟨q, arr, fz, t1, t2, td, th, tn⟩ := h.tags _ e m _ ht
  cases hv with
  | ptr _ _ p hp =>
    have e9 : p = q := by rw [hp] at t2; exact Option.some.inj t2
    subst e9
    refine ⟨p.g, by rw [td, Nat.zero_add], ?_⟩
    unfold World.shape?
    rw [th]
    show some (e, arr.size) = _
    rw [tn (by omega)]
noncomputable def kToUns (x : Operand) : KOp := fun fr n h k => kev x fr fun v => kuns (fun _ _ _ => true) v n h k
theorem kToUns_ok (sz : Nat) (o : Oper) (s d : TypeId) (x : Operand) (ho : o.op = .convert s d x) (hc : toUns P s d = true) : MeetOk P sz o (kToUns x) := by
  intro fr n h k hk
  unfold kToUns at hk ⊢
  obtain ⟨v, h1, h2⟩ := kev_ok (sz := sz) _ hk
  rw [h2] at hk ⊢
  obtain ⟨h3, b, off, e, m, rfl, h4, h5, _⟩ := kuns_ok hk
  refine ⟨_, n, h, ?_, h3⟩
  intro D B μ w a hR hf
  have hx := hev_rel hf h1
  obtain ⟨g, hg, hsh⟩ := uns_place hR h4 h5 hx
  unfold toUns at hc
  split at hc
  · rename_i t hs hd
    split at hc
    · rename_i j hj
      have := Lib.run_to_unsafe (P := P) (w := w) (src := s) (dst := d) ⟨g, off, none⟩ hs hd hj (by simpa using hc) hsh h5
      exact ⟨μ, w, _, Step.refl hR, hx, .inl (by simp [execOp, ho, hg, this])⟩
    · cases hc
  · cases hc
noncomputable def kFromUns (P : Program) (u : TypeId) (x : Operand) : KOp := fun fr n h k => kev x fr fun v => kuns (fun e m o => liesAt P P.depth e (m / P.cellsOf e) o u 1) v n h k
theorem kFromUns_ok (sz : Nat) (o : Oper) (s d u : TypeId) (x : Operand) (ho : o.op = .convert s d x) (hc : fromUns P s d = some u) : MeetOk P sz o (kFromUns P u x) := by
  intro fr n h k hk
  unfold kFromUns at hk ⊢
  obtain ⟨v, h1, h2⟩ := kev_ok (sz := sz) _ hk
  rw [h2] at hk ⊢
  obtain ⟨h3, b, off, e, m, rfl, h4, h5, h6⟩ := kuns_ok hk
  refine ⟨_, n, h, ?_, h3⟩
  intro D B μ w a hR hf
  have hx := hev_rel hf h1
  obtain ⟨g, hg, hsh⟩ := uns_place hR h4 h5 hx
  unfold fromUns at hc
  split at hc
  · rename_i u' hs hd
    split at hc
    · cases hc
      rename_i hi
      obtain ⟨j, hj⟩ := Option.isSome_iff_exists.1 hi
      have := Lib.run_from_unsafe (P := P) (w := w) (src := s) (dst := d) ⟨g, off, none⟩ hs hd hj hsh h6
      exact ⟨μ, w, _, Step.refl hR, hx, .inl (by simp [execOp, ho, hg, this])⟩
    · cases hc
  · cases hc
/-- abi.NoEscape. -/
def noescName : String := "internal/abi.NoEscape"
theorem next_noesc : (Extern.allNextRows.lookup noescName).isNone = true := by kernel_rfl
theorem gen_noesc : (Extern.allGenericRows.lookup noescName).isNone = true := by kernel_rfl
theorem typed_noesc : (Extern.allTypedRows.lookup noescName).isNone = true := by kernel_rfl
theorem row_noesc : Extern.allRows.lookup noescName = some Extern.AbiNoEscape.same := by kernel_rfl
def isNoEsc (P : Program) (g : FuncId) : Bool :=
  match P.funcs[g]? with
  | some fn => fn.body.isNone && (fn.origin == "" && fn.name == noescName)
  | none => false
noncomputable def kNoEsc (x : Operand) : KOp := fun fr n h k => kev x fr fun v => k v n h
theorem kNoEsc_ok (sz : Nat) (o : Oper) (g : FuncId) (x : Operand) (ts : Array TypeId) (ho : o.op = .call ⟨.value (.func g), ⟨[x]⟩, ts⟩) (hg : isNoEsc P g = true) : MeetOk P sz o (kNoEsc x) := by
  intro fr n h k hk
  unfold kNoEsc at hk ⊢
  obtain ⟨v, h1, h2⟩ := kev_ok (sz := sz) _ hk
  rw [h2] at hk ⊢
  refine ⟨v, n, h, ?_, rfl⟩
  intro D B μ w a hR hf
  have hx := hev_rel hf h1
  unfold isNoEsc at hg
  split at hg
  · rename_i fn hfn
    rw [Bool.and_eq_true, Bool.and_eq_true] at hg
    obtain ⟨g1, g2, g3⟩ := hg
    have g2 : fn.origin = "" := by simpa using g2
    have g3 : fn.name = noescName := by simpa using g3
    have := ext_run hfn g1 (no_next g3 g2 next_noesc next0) (find_row g3 gen_noesc typed_noesc row_noesc) (by rw [g3]; rfl) #[a.eval x] w (a.eval x) (Lib.run_noEscape w _)
    have e1 : a.eval (.func g) = .func (.func g) #[] #[] := rfl
    exact ⟨μ, w, _, Step.refl hR, hx, .inl (by simp [execOp, ho, resolve, invoke, e1, Deferred.ofValue, this])⟩
  · cases hg

/-- Two pointers that are the same. -/
noncomputable def kPtrNe (P : Program) (t : TypeId) (x y : Operand) : KOp := fun fr n h k => kev x fr fun v => kev y fr fun u => kptr2 v u (k (.bool false) n h) (kBin P .neq t x y fr n h k)
where
  kptr2 (v u : Value) (yes no : KX) : KX :=
    match v, u with
    | .pointer (some ⟨b, o, none⟩), .pointer (some ⟨b', o', none⟩) => Bool.rec .bad yes (Nat.beq b b' && Nat.beq o o')
    | _, _ => no
def ptrPlain (P : Program) (t : TypeId) : Bool := match P.underlying t with | some (.pointer e) => (P.info? e).isSome | _ => false
theorem kPtrNe_ok (sz : Nat) (o : Oper) (t u : TypeId) (x y : Operand) (ho : o.op = .binOp .neq t x y u) (ht : ptrPlain P t = true) : MeetOk P sz o (kPtrNe P t x y) := by
  intro fr n h k hk
  unfold kPtrNe at hk ⊢
  obtain ⟨v, h1, h2⟩ := kev_ok (sz := sz) _ hk
  rw [h2] at hk ⊢
  obtain ⟨v2, h3, h4⟩ := kev_ok (sz := sz) _ hk
  rw [h4] at hk ⊢
  unfold kPtrNe.kptr2 at hk ⊢
  split at hk
  · rename_i b off b' off'
    cases hc : (Nat.beq b b' && Nat.beq off off') with
    | false => rw [hc] at hk; exact absurd rfl hk
    | true =>
      rw [Bool.and_eq_true] at hc
      have e1 := Nat.eq_of_beq_eq_true hc.1
      have e2 := Nat.eq_of_beq_eq_true hc.2
      subst e1; subst e2
      refine ⟨_, n, h, ?_, rfl⟩
      intro D B μ w a hR hf
      have r1 := hev_rel hf h1
      have r2 := hev_rel hf h3
      obtain ⟨ad, q1, q2⟩ : ∃ ad, a.eval x = .pointer (some ad) ∧ a.eval y = .pointer (some ad) := by
        generalize a.eval x = z1 at r1
        generalize a.eval y = z2 at r2
        cases r1 with
        | ptr _ _ p hp => cases r2 with
          | ptr _ _ q hq => rw [hp] at hq; cases hq; exact ⟨_, rfl, rfl⟩
      unfold ptrPlain at ht
      split at ht
      · rename_i e hu
        obtain ⟨j, hj⟩ := Option.isSome_iff_exists.1 ht
        have hrun := Lib.run_neq_ptr_same (P := P) w ad hu hj
        have hg := eqGuard_ok (P := P) .neq t x y (.pointer (some ad)) (.pointer (some ad)) (.inl (by simp)) w
        exact ⟨μ, w, _, Step.refl hR, .bool _, .inl (by simp [execOp, ho, q1, q2, hg, hrun])⟩
      · cases ht
  · obtain ⟨v3, n', h', h5, h6⟩ := kBin_ok (P := P) sz .neq t u x y fr n h k hk
    exact ⟨v3, n', h', HMeet.of_hop (by rw [ho]; exact h5), h6⟩

/-- Something held against nil, and nil itself. -/
noncomputable def kIfNil (P : Program) (eq : Bool) (t : TypeId) (x : Operand) (old : KOp) : KOp := fun fr n h k => kev x fr fun v => kifn v (k (.bool eq) n h) (old fr n h k)
where
  kifn (v : Value) (yes no : KX) : KX := match v with | .nilIface => yes | _ => no
def nilOp (op : BinOp) : Option Bool := match op with | .eql => some true | .neq => some false | _ => none
theorem equal_nilIf {t : TypeId} {ms : Array (String × TypeId)} {w : World} (ht : P.underlying t = some (.interface ms)) : (Op.equal t .nilIface .nilIface).run P w = .ok true w :=
  equal_of fun d => by simp [Op.equalIn, run_underlying ht]
theorem kIfNil_ok (sz : Nat) (o : Oper) (op : BinOp) (t u : TypeId) (x : Operand) (eq : Bool) (ho : o.op = .binOp op t x (.const .nilIface) u) (he : nilOp op = some eq) (ht : kindOf P t = 5) : MeetOk P sz o (kIfNil P eq t x (kBin P op t x (.const .nilIface))) := by
  intro fr n h k hk
  unfold kIfNil at hk ⊢
  obtain ⟨v, h1, h2⟩ := kev_ok (sz := sz) _ hk
  rw [h2] at hk ⊢
  unfold kIfNil.kifn at hk ⊢
  split at hk
  · refine ⟨_, n, h, ?_, rfl⟩
    intro D B μ w a hR hf
    have hx := hev_rel hf h1
    have ex : a.eval x = .nilIface := by generalize a.eval x = z at hx; cases hx; rfl
    obtain ⟨ms, hms⟩ := kind_interface ht
    have hq := equal_nilIf (w := w) hms
    have hc : a.eval (.const .nilIface) = .nilIface := rfl
    refine ⟨μ, w, _, Step.refl hR, .bool _, .inl ?_⟩
    cases op <;> simp [nilOp] at he
    · subst he
      simp [execOp, ho, ex, hc, eqGuard, binOp, hq]
    · subst he
      simp [execOp, ho, ex, hc, eqGuard, binOp, hq]
  · obtain ⟨v3, n', h', h5, h6⟩ := kBin_ok (P := P) sz op t u x (.const .nilIface) fr n h k hk
    exact ⟨v3, n', h', HMeet.of_hop (by rw [ho]; exact h5), h6⟩

/-- append to bytes whose type is known. -/
theorem grown_typed {B : Nat} {μ : Mu} {H H1 : HHeap} {w : World} (hR : Rel B μ H1 w) (hn : H1.next = H.next) {u : TypeId} {e : Elem} (he : helem P u = some e) {vs vs' olds olds' : List Value} {n len' cap' : Nat} (hv : VRels μ vs vs') (hv1 : ∀ v ∈ vs, v.oneCell' = true) (hvl : vs.length = n * e.size)
    (ho : VRels μ olds olds') (ho1 : ∀ v ∈ olds, v.oneCell' = true) (hol : olds.length = len' * e.size) :
    ∃ μ', Step B μ H1 w μ' ((H1.push (.cells (olds ++ vs) true)).push (.tag u 0 H.next)) (w.drew.alloc (.cells (olds'.toArray ++ vs'.toArray ++ Builtin.zeroCells e.zero.toArray (grownCap w (len' + n) cap' u - (len' + n))) u)) ∧
      VRel μ' (.slice (some ⟨H.next, 0, some (2 * e.size)⟩) (len' + n) (len' + n)) (.slice (some ⟨w.heap.size, 0, none⟩) (len' + n) (grownCap w (len' + n) cap' u)) := by
  obtain ⟨i, z, hi, hz, hze, hsz, hby, hf, hzl⟩ := helem_spec he
  have r2 := hR.drew.allocCells (olds ++ vs) (olds'.toArray ++ vs'.toArray ++ Builtin.zeroCells e.zero.toArray (grownCap w (len' + n) cap' u - (len' + n))) u
    (by
      have hle := (ho.append hv).length
      simp only [Array.toList_append]
      rw [← hle, List.take_left]
      exact ho.append hv)
    (fun v hv => (List.mem_append.1 hv).elim (ho1 v) (hv1 v))
  have s1 := (Step.drew hR).trans r2
  have s2 := s1.rel.pushTag (b := H1.next) (p := ⟨w.drew.heap.size, 0, (olds'.toArray ++ vs'.toArray ++ Builtin.zeroCells e.zero.toArray (grownCap w (len' + n) cap' u - (len' + n))).size⟩) (by simp [Mu.add]) rfl (heap_alloc_new w.drew _) 0 (fun h => absurd rfl h)
  rw [← hn]
  refine ⟨_, s1.trans s2, VRel.mono s2.sub ?_⟩
  have hge := grownCap_ge w (len' + n) cap' u
  refine .grown _ _ _ _ _ _ ⟨w.drew.heap.size, 0, (olds'.toArray ++ vs'.toArray ++ Builtin.zeroCells e.zero.toArray (grownCap w (len' + n) cap' u - (len' + n))).size⟩ (by simp [Mu.add]) (Nat.le_refl _) hge ?_
  have h1 := ho.length
  have h2 := hv.length
  simp only [Array.size_append, List.size_toArray, size_zeroCells]
  rw [h1, h2, hol, hvl, hzl, ← Nat.add_mul, ← Nat.add_mul]
  rw [show len' + n + (grownCap w (len' + n) cap' u - (len' + n)) = grownCap w (len' + n) cap' u by omega]
  omega
theorem sim_appendT0 {B : Nat} {μ : Mu} {H : HHeap} {w : World} (h : Rel B μ H w) {st xt ty u : TypeId} {e : Elem} {x x' : Value} {vs : List Value} {n : Nat} (hu : P.underlying st = some (.slice u)) (hxs : isStr P xt = true) (he : helem P u = some e)
    (hsrc : hsource H e.size x = some (vs, n)) (hx : VRel μ x x') (hn : n ≠ 0) (hb1 : n * e.bytes ≤ 1099511627776) (hb2 : n ≤ 1099511627776) :
    ∃ μ' w' v', (Builtin.append_ #[st, xt] ty #[.slice none 0 0, x']).run P w = .ok v' w' ∧ Step B μ H w μ' ((H.push (.cells vs true)).push (.tag u 0 H.next)) w' ∧ VRel μ' (.slice (some ⟨H.next, 0, some (2 * e.size)⟩) n n) v' := by
  obtain ⟨_, hvl, hv1, _⟩ := sim_source (P := P) h hsrc hx
  obtain ⟨vs', hv, hap⟩ := append_pre (ty := ty) h hu hxs he hsrc hx
  obtain ⟨μ', s1, s2⟩ := grown_typed (P := P) (H := H) (olds := []) (olds' := []) (len' := 0) (cap' := 0) h rfl he hv hv1 hvl .nil (by simp) (by simp)
  have hrun := (hap none 0 0).2 (by omega) (by simpa using hb1) (by simpa using hb2) [] (by simp [Builtin.firstCells])
  simp only [Nat.zero_add, List.nil_append] at hrun s1 s2
  exact ⟨μ', _, _, hrun, s1, s2⟩
theorem sim_appendT1 {B : Nat} {μ : Mu} {H : HHeap} {w : World} (h : Rel B μ H w) {st xt ty u : TypeId} {e : Elem} {x x' s' : Value} {vs cs : List Value} {n len cap b m : Nat} (hu : P.underlying st = some (.slice u)) (hxs : isStr P xt = true) (he : helem P u = some e)
    (hsrc : hsource H e.size x = some (vs, n)) (hx : VRel μ x x') (hn : n ≠ 0) (hb1 : (len + n) * e.bytes ≤ 1099511627776) (hb2 : len + n ≤ 1099511627776) (hb : H.get b = some (.cells cs true)) (ht : H.get (b + 1) = some (.tag u m b)) (hfit : len * e.size ≤ cs.length) (hcap : cap < len + n)
    (hs : VRel μ (.slice (some ⟨b, 0, some (2 * e.size)⟩) len cap) s') :
    ∃ μ' w' v', (Builtin.append_ #[st, xt] ty #[s', x']).run P w = .ok v' w' ∧ Step B μ H w μ' (((H.kill b).push (.cells (cs.take (len * e.size) ++ vs) true)).push (.tag u 0 H.next)) w' ∧ VRel μ' (.slice (some ⟨H.next, 0, some (2 * e.size)⟩) (len + n) (len + n)) v' := by
  obtain ⟨_, hvl, hv1, _⟩ := sim_source (P := P) h hsrc hx
  obtain ⟨vs', hv, hap⟩ := append_pre (ty := ty) h hu hxs he hsrc hx
  obtain ⟨q, arr, fz, t1, t2, td, th, _⟩ := h.tags _ u m _ ht
  obtain ⟨pb, hpb, hextb, hcb, hwb, hrb⟩ := h.cells b cs true hb
  have e8 : pb = q := by rw [hpb] at t2; exact Option.some.inj t2
  subst e8
  have hget : (b + 1) ≠ b := by omega
  generalize he2 : (.slice (some ⟨b, 0, some (2 * e.size)⟩) len cap : Value) = sv at hs
  cases hs <;> try (cases he2; done)
  · rename_i b' o' len' cap' cap2 e' p hp hlc hcc hx'
    have e0 : (b = b' ∧ 0 = o' ∧ 2 * e.size = 2 * e') ∧ len = len' ∧ cap = cap' := by simpa using he2
    obtain ⟨⟨e4, e5, e3⟩, e6, e7⟩ := e0
    have e3 : e.size = e' := by omega
    subst e3; subst e4; subst e5; subst e6; subst e7
    have e9 : pb = p := by rw [hpb] at hp; exact Option.some.inj hp
    subst e9
    by_cases hr : len + n ≤ cap2
    · have hmul : (len + n) * e.size ≤ cap2 * e.size := Nat.mul_le_mul_right _ hr
      rw [Nat.add_mul] at hmul
      have g1 := h.growIn hb hpb 0 (len * e.size) vs vs' hv hv1 (.inr (by omega)) (by rw [hvl]; omega)
      rw [List.drop_zero] at g1
      have hltb : b + 1 < H.next := h.bound _ _ t1
      obtain ⟨q2, arr2, fz2, k1, k2, k3, k4, _⟩ := g1.rel.tags (b + 1) u m b (by
        rw [HHeap.get_push, if_neg (by rw [HHeap.kill_next]; omega), HHeap.get_kill, if_neg hget]; exact ht)
      have hmb : (μ.add H.next ⟨pb.g, pb.d + 0, pb.ext - 0⟩) b = some pb := g1.sub _ _ hpb
      have e8 : pb = q2 := by rw [hmb] at k2; exact Option.some.inj k2
      subst e8
      have s2 := g1.rel.pushTag (b := H.next) (p := ⟨pb.g, pb.d + 0, pb.ext - 0⟩) (by simp [Mu.add]) (by simpa using td) k4 0 (fun h => absurd rfl h)
      refine ⟨_, _, _, ?_, g1.trans s2, VRel.mono s2.sub (.grown H.next 0 (len + n) (len + n) cap2 e.size ⟨pb.g, pb.d + 0, pb.ext - 0⟩ (by simp [Mu.add]) (Nat.le_refl _) hr (by simp; omega))⟩
      rw [(hap _ len cap2).1 hr]
      have hrunS := h.run_store P hb hpb (0 + len * e.size) vs vs' hv hv1 (by rw [hvl]; omega)
      simp only [add_cell]
      rw [Nat.add_assoc pb.d 0, hrunS]; rfl
    · obtain ⟨olds', g1, g2, g3⟩ := h.cellsAt hb hpb 0 (len * e.size) (by omega)
      rw [List.drop_zero] at g1
      have olds1 : ∀ v ∈ cs.take (len * e.size), v.oneCell' = true := fun v hv => by
        obtain ⟨i, hi⟩ := List.getElem?_of_mem hv
        rw [List.getElem?_take] at hi
        split at hi
        · exact (hcb _ v hi).1
        · cases hi
      obtain ⟨μ', s1, s2⟩ := grown_typed (P := P) (H := H) (len' := len) (cap' := cap2) (h.kill b) rfl he hv hv1 hvl g1 olds1 (by rw [List.length_take]; omega)
      have hrun := (hap (some ⟨pb.g, pb.d + 0, none⟩) len cap2).2 hr hb1 hb2 olds' (run_firstCells_some (P := P) w.drew e.size len _ len cap2 olds' g2 (by simpa using g3))
      exact ⟨μ', _, _, hrun, (Step.kill h b).trans s1, s2⟩
  · simp at he2; omega
noncomputable def kapT (P : Program) (st xt : TypeId) (s x : Operand) (u : TypeId) (e : Elem) : KOp := fun fr n h k =>
  kev s fr fun sv => kev x fr fun xv => ksource e.size xv h fun vs m => Bool.rec (kapT2 (kAppend P st xt s x fr n h k) u e sv vs m n h k) (kAppend P st xt s x fr n h k) (Nat.beq m 0)
where
  kapT3 (u : TypeId) (e : Elem) (r vs : List Value) (lm n : Nat) (h : Tr HObj) (k : Value → Nat → Tr HObj → KX) : KX :=
    kpush n h (.cells (r ++ vs) true) fun n1 h1 => kpush n1 h1 (.tag u 0 n) fun n2 h2 => k (.slice (some ⟨n, 0, some (Nat.mul 2 e.size)⟩) lm lm) n2 h2
  kapT2 (old : KX) (u : TypeId) (e : Elem) (sv : Value) (vs : List Value) (m n : Nat) (h : Tr HObj) (k : Value → Nat → Tr HObj → KX) : KX :=
    match sv with
    | .slice none 0 0 => Bool.rec .bad (Bool.rec .bad (kapT3 u e [] vs m n h k) (Nat.ble m 1099511627776)) (Nat.ble (Nat.mul m e.bytes) 1099511627776)
    | .slice (some ⟨b, 0, some q⟩) len cap => forceNat (Nat.add len m) fun lm => Bool.rec .bad (Bool.rec .bad (Bool.rec .bad (Bool.rec .bad
        (kcells b h fun cs rw => ktag (Nat.succ b) h fun t _ c => Bool.rec .bad (kpre 0 (Nat.mul len e.size) cs fun r => kkill b h fun h1 => kapT3 u e r vs lm n h1 k) (rw && (Nat.beq t u && (Nat.beq c b && Nat.ble (Nat.mul len e.size) cs.length))))
        (Nat.beq q (Nat.mul 2 e.size))) (Nat.ble (Nat.succ cap) lm)) (Nat.ble lm 1099511627776)) (Nat.ble (Nat.mul lm e.bytes) 1099511627776)
    | _ => old
theorem kapT3_ok {u : TypeId} {e : Elem} {r vs : List Value} {lm n : Nat} {h : Tr HObj} {k : Value → Nat → Tr HObj → KX} (hk : kapT.kapT3 u e r vs lm n h k ≠ .bad) :
    ∃ n' h', ((absH n h).push (.cells (r ++ vs) true)).push (.tag u 0 n) = absH n' h' ∧ kapT.kapT3 u e r vs lm n h k = k (.slice (some ⟨n, 0, some (2 * e.size)⟩) lm lm) n' h' := by
  unfold kapT.kapT3 at hk ⊢
  obtain ⟨n1, h1, e1, e2⟩ := kpush_ok hk
  rw [e2] at hk ⊢
  obtain ⟨n2, h2, e3, e4⟩ := kpush_ok hk
  exact ⟨n2, h2, by rw [e1, e3], e4⟩
theorem kapT_ok (sz : Nat) (o : Oper) (st xt : TypeId) (s x : Operand) (u : TypeId) (e : Elem) (ho : o.op = .call ⟨.builtin .append, ⟨[s, x]⟩, ⟨[st, xt]⟩⟩) (hu : P.underlying st = some (.slice u)) (hxs : isStr P xt = true) (he : helem P u = some e) (hpos : 0 < e.size) : MeetOk P sz o (kapT P st xt s x u e) := by
  intro fr n h k hk
  have old : kAppend P st xt s x fr n h k ≠ .bad → ∃ v n' h', HMeet P (absF sz fr) (absH n h) o v (absH n' h') ∧ kAppend P st xt s x fr n h k = k v n' h' := by
    intro hk
    obtain ⟨v, n', h', h1, h2⟩ := kAppend_ok (P := P) sz st xt s x fr n h k hk
    exact ⟨v, n', h', HMeet.of_hop (by rw [ho]; exact h1), h2⟩
  unfold kapT at hk ⊢
  obtain ⟨sv, h1, h2⟩ := kev_ok (sz := sz) _ hk
  rw [h2] at hk ⊢
  obtain ⟨xv, h3, h4⟩ := kev_ok (sz := sz) _ hk
  rw [h4] at hk ⊢
  obtain ⟨vs, m, h5, h6, h7⟩ := ksource_ok (n := n) hpos hk
  rw [h7] at hk ⊢
  cases hm : Nat.beq m 0 with
  | true => rw [hm] at hk; exact old hk
  | false =>
    rw [hm] at hk
    have hm0 : m ≠ 0 := fun e => by subst e; simp at hm
    have hk : kapT.kapT2 (kAppend P st xt s x fr n h k) u e sv vs m n h k ≠ .bad := hk
    show ∃ v n' h', _ ∧ kapT.kapT2 (kAppend P st xt s x fr n h k) u e sv vs m n h k = _
    unfold kapT.kapT2 at hk ⊢
    have hargs : ∀ a : Act, (⟨[s, x]⟩ : Array Operand).map a.eval = #[a.eval s, a.eval x] := fun a => by simp
    split at hk
    · cases c1 : Nat.ble (Nat.mul m e.bytes) 1099511627776 with
      | false => rw [c1] at hk; exact absurd rfl hk
      | true =>
        cases c2 : Nat.ble m 1099511627776 with
        | false => rw [c1, c2] at hk; exact absurd rfl hk
        | true =>
          rw [c1, c2] at hk
          obtain ⟨n', h', h8, h9⟩ := kapT3_ok hk
          refine ⟨_, n', h', ?_, h9⟩
          intro D B μ w a hR hf
          have rs := hev_rel hf h1
          have rx := hev_rel hf h3
          have e1 : a.eval s = .slice none 0 0 := by generalize a.eval s = z at rs; cases rs; rfl
          obtain ⟨μ', w', v', r1, r2, r3⟩ := sim_appendT0 (P := P) (ty := o.type) hR hu hxs he h5 rx hm0 (Nat.le_of_ble_eq_true c1) (Nat.le_of_ble_eq_true c2)
          rw [List.nil_append] at h8
          rw [← h8]
          exact ⟨μ', w', v', r2, r3, .inl (by simp [execOp, ho, resolve, invoke, builtin, e1, r1])⟩
    · rename_i b q len cap _
      rw [forceNat_eq] at hk ⊢
      cases c1 : Nat.ble (Nat.mul (Nat.add len m) e.bytes) 1099511627776 with
      | false => rw [c1] at hk; exact absurd rfl hk
      | true =>
      cases c2 : Nat.ble (Nat.add len m) 1099511627776 with
      | false => rw [c1, c2] at hk; exact absurd rfl hk
      | true =>
      cases c3 : Nat.ble (Nat.succ cap) (Nat.add len m) with
      | false => rw [c1, c2, c3] at hk; exact absurd rfl hk
      | true =>
      cases c4 : Nat.beq q (Nat.mul 2 e.size) with
      | false => rw [c1, c2, c3, c4] at hk; exact absurd rfl hk
      | true =>
        rw [c1, c2, c3, c4] at hk
        have hq := Nat.eq_of_beq_eq_true c4
        change kcells b h _ ≠ .bad at hk
        show ∃ v n' h', HMeet P (absF sz fr) (absH n h) o v (absH n' h') ∧ kcells b h _ = k v n' h'
        obtain ⟨hp, cs, rw', g1, g2⟩ := kcells_ok (n := n) _ hk
        rw [g2] at hk ⊢
        obtain ⟨t, tn, c, g3, g4⟩ := ktag_ok (n := n) _ hk
        rw [g4] at hk ⊢
        cases c5 : (rw' && (Nat.beq t u && (Nat.beq c b && Nat.ble (Nat.mul len e.size) cs.length))) with
        | false => rw [c5] at hk; exact absurd rfl hk
        | true =>
          rw [c5] at hk
          rw [Bool.and_eq_true, Bool.and_eq_true, Bool.and_eq_true] at c5
          obtain ⟨d1, d2, d3, d4⟩ := c5
          subst d1
          have d2 := Nat.eq_of_beq_eq_true d2
          have d3 := Nat.eq_of_beq_eq_true d3
          have d4 : len * e.size ≤ cs.length := Nat.le_of_ble_eq_true d4
          change kpre 0 _ cs _ ≠ .bad at hk
          show ∃ v n' h', HMeet P (absF sz fr) (absH n h) o v (absH n' h') ∧ kpre 0 _ cs _ = k v n' h'
          obtain ⟨g5, g6⟩ := kpre_ok _ _ _ _ hk
          rw [g6] at hk ⊢
          obtain ⟨h1', g7, g8⟩ := kkill_ok (n := n) hk
          rw [g8] at hk ⊢
          obtain ⟨n', h', h8, h9⟩ := kapT3_ok hk
          refine ⟨_, n', h', ?_, h9⟩
          clear hk h9 g8 g6 g4 g2 h7 h4 h2 old
          subst d2; subst d3; subst hq
          intro D B μ w a hR hf
          have rs := hev_rel hf h1
          have rx := hev_rel hf h3
          obtain ⟨μ', w', v', r1, r2, r3⟩ := sim_appendT1 (P := P) (ty := o.type) hR hu hxs he h5 rx hm0 (Nat.le_of_ble_eq_true c1) (Nat.le_of_ble_eq_true c2) g1 g3 d4 (Nat.le_of_ble_eq_true c3) rs
          rw [← h8, ← g7, List.drop_zero]
          exact ⟨μ', w', v', r2, r3, .inl (by simp [execOp, ho, resolve, invoke, builtin, r1])⟩
    · exact old hk

/-- A text turned into bytes. -/
theorem bytesWorld_alloc (w : World) (e : TypeId) (s : ByteArray) : Lib.bytesWorld w e s = w.drew.alloc (.cells (Lib.bytesCells w e s) e ((Lib.bytesCells w e s).size, (Lib.bytesCells w e s).size + 1)) := by
  have h1 : (Lib.bytesWorld w e s).heap = (w.drew.alloc (.cells (Lib.bytesCells w e s) e ((Lib.bytesCells w e s).size, (Lib.bytesCells w e s).size + 1))).heap := by
    apply Array.ext_getElem?
    intro i
    rcases Nat.lt_trichotomy i w.heap.size with hi | hi | hi
    · rw [Lib.bytesWorld_at_old w e s i hi, Below.heap_alloc _ _ _ (show i < w.drew.heap.size from hi)]; rfl
    · subst hi
      rw [Lib.bytesWorld_at_new]
      exact (heap_alloc_new w.drew _).symm
    · have e1 : (Lib.bytesWorld w e s).heap.size ≤ i := by rw [Lib.bytesWorld_size]; omega
      rw [Array.getElem?_eq_none e1, Array.getElem?_eq_none (by simp; exact hi)]
  unfold Lib.bytesWorld World.freeze at h1 ⊢
  rw [if_neg (by omega)] at h1 ⊢
  simp only [World.alloc] at h1 ⊢
  rw [h1]
theorem sim_s2b {B : Nat} {μ : Mu} {H : HHeap} {w : World} (h : Rel B μ H w) (e : TypeId) (s : ByteArray) :
    ∃ μ', Step B μ H w μ' (H.push (.cells (s.data.toList.map fun b => Value.int .u8 b.toNat) true)) (Lib.bytesWorld w e s) ∧ VRel μ' (.slice (some ⟨H.next, 0, some (2 * 1)⟩) s.size s.size) (.slice (some ⟨w.heap.size, 0, none⟩) s.size (grownCap w s.size 0 e)) := by
  have hge := grownCap_ge w s.size 0 e
  have hlen : (s.data.toList.map fun b => Value.int .u8 b.toNat).length = s.size := by rw [List.length_map, Array.length_toList, ByteArray.size_data]
  have hsz : (Lib.bytesCells w e s).size = grownCap w s.size 0 e := by
    unfold Lib.bytesCells
    simp only [Array.size_append, Array.size_map, ByteArray.size_data, Array.size_replicate]
    omega
  rw [bytesWorld_alloc]
  have st := h.drew.allocAny (.cells (s.data.toList.map fun b => Value.int .u8 b.toNat) true) (.cells (Lib.bytesCells w e s) e ((Lib.bytesCells w e s).size, (Lib.bytesCells w e s).size + 1)) (Lib.bytesCells w e s).size rfl
    (fun cs rw' hc => by
      cases hc
      refine ⟨by rw [hlen, hsz]; exact hge, fun i v hv => ?_, fun i hi => ⟨⟨(Lib.bytesCells w e s)[i]'hi, ?_⟩, ?_⟩⟩
      · have hi : i < s.data.toList.length := by
          have := (List.getElem?_eq_some_iff.1 hv).1
          rw [List.length_map] at this; exact this
        have hv' : v = .int .u8 ((s.data.toList[i]'hi).toNat) := by
          rw [List.getElem?_map, List.getElem?_eq_getElem hi] at hv
          exact (Option.some.inj hv).symm
        refine ⟨by rw [hv']; rfl, v, ?_, by rw [hv']; exact .int _ _⟩
        unfold World.cell?
        rw [show (w.drew.alloc (.cells (Lib.bytesCells w e s) e ((Lib.bytesCells w e s).size, (Lib.bytesCells w e s).size + 1))).heap[w.drew.heap.size]? = _ from heap_alloc_new w.drew _]
        simp only [Nat.zero_add]
        unfold Lib.bytesCells
        have hi' : i < s.data.size := by simpa using hi
        rw [Array.getElem?_append_left (by simpa using hi')]
        simp [hv']
        exact ⟨_, Array.getElem?_eq_getElem hi', rfl⟩
      · unfold World.cell?
        rw [show (w.drew.alloc (.cells (Lib.bytesCells w e s) e ((Lib.bytesCells w e s).size, (Lib.bytesCells w e s).size + 1))).heap[w.drew.heap.size]? = _ from heap_alloc_new w.drew _]
        simp [hi]
      · unfold World.frozen?
        rw [show (w.drew.alloc (.cells (Lib.bytesCells w e s) e ((Lib.bytesCells w e s).size, (Lib.bytesCells w e s).size + 1))).heap[w.drew.heap.size]? = _ from heap_alloc_new w.drew _]
        simp; omega)
    (fun es he => by cases he) (fun t i he => by cases he)
  refine ⟨_, (Step.drew h).trans st, ?_⟩
  exact .grown _ _ _ _ _ 1 ⟨w.drew.heap.size, 0, (Lib.bytesCells w e s).size⟩ (by show (Mu.add _ _ _) _ = _; simp [Mu.add]) (Nat.le_refl _) hge (by simp only [hsz]; omega)
def strBytes (P : Program) (s d : TypeId) : Option TypeId :=
  match P.underlying s, P.underlying d with
  | some .string, some (.slice e) => (match P.underlying e with | some (.int .u8) => some e | _ => none)
  | _, _ => none
noncomputable def kS2B (x : Operand) : KOp := fun fr n h k => kev x fr fun v => ks2b v n h k
where
  ks2b (v : Value) (n : Nat) (h : Tr HObj) (k : Value → Nat → Tr HObj → KX) : KX :=
    match v with
    | .string s => klist (s.data.toList.map fun b => Value.int .u8 b.toNat) fun cs => forceNat s.data.toList.length fun m => kpush n h (.cells cs true) fun n1 h1 => k (.slice (some ⟨n, 0, some 2⟩) m m) n1 h1
    | _ => .bad
theorem kS2B_ok (sz : Nat) (o : Oper) (s d e : TypeId) (x : Operand) (ho : o.op = .convert s d x) (hc : strBytes P s d = some e) : MeetOk P sz o (kS2B x) := by
  intro fr n h k hk
  unfold kS2B at hk ⊢
  obtain ⟨v, h1, h2⟩ := kev_ok (sz := sz) _ hk
  rw [h2] at hk ⊢
  unfold kS2B.ks2b at hk ⊢
  split at hk
  · rename_i t
    rw [klist_eq, forceNat_eq] at hk ⊢
    obtain ⟨n1, h1', e1, e2⟩ := kpush_ok hk
    refine ⟨_, n1, h1', ?_, e2⟩
    intro D B μ w a hR hf
    have hx := hev_rel hf h1
    have ex : a.eval x = .string t := by generalize a.eval x = z at hx; cases hx; rfl
    obtain ⟨μ', s1, s2⟩ := sim_s2b hR e t
    have hsz : t.data.toList.length = t.size := by rw [Array.length_toList, ByteArray.size_data]
    unfold strBytes at hc
    split at hc
    · rename_i e' hs hd
      split at hc
      · cases hc
        rename_i he
        have hrun := Lib.run_convert_string_bytes (P := P) w s d e t hs hd he
        rw [← e1, hsz]
        exact ⟨μ', _, _, s1, s2, .inl (by simp [execOp, ho, ex, hrun])⟩
      · cases hc
    · cases hc
  · exact absurd rfl hk

/-- What is done otherwise. -/
def apTyped (P : Program) (st xt : TypeId) : Option (TypeId × Elem) :=
  match P.underlying st with
  | some (.slice u) => if typedT u && isStr P xt then (match helem P u with | some e => if 0 < e.size then some (u, e) else none | none => none) else none
  | _ => none
theorem apTyped_spec {st xt u : TypeId} {e : Elem} (h : apTyped P st xt = some (u, e)) : P.underlying st = some (.slice u) ∧ isStr P xt = true ∧ helem P u = some e ∧ 0 < e.size := by
  unfold apTyped at h
  split at h
  · rename_i u' hu
    split at h
    · rename_i hc
      rw [Bool.and_eq_true] at hc
      split at h
      · rename_i e' he
        split at h <;> cases h
        exact ⟨hu, hc.2, he, ‹_›⟩
      · cases h
    · cases h
  · cases h
noncomputable def kmore (P : Program) (op : Op) : Option KOp :=
  match op with
  | .box t x => Bool.rec none (some (kBoxT t x)) (typedT t)
  | .alloc t => Bool.rec none (some (kAllocT P t)) (typedT t)
  | .convert s d x => Bool.rec (Option.rec (Option.rec none (fun _ => some (kS2B x)) (strBytes P s d)) (fun u => some (kFromUns P u x)) (fromUns P s d)) (some (kToUns x)) (toUns P s d)
  | .call ⟨.value (.func g), ⟨[x]⟩, _⟩ => Bool.rec none (some (kNoEsc x)) (isNoEsc P g)
  | .binOp .neq t (.tmp x) (.tmp y) _ => Bool.rec none (some (kPtrNe P t (.tmp x) (.tmp y))) (ptrPlain P t)
  | .binOp op t x (.const .nilIface) _ => Option.rec none (fun eq => Bool.rec none (some (kIfNil P eq t x (kBin P op t x (.const .nilIface)))) (Nat.beq (kindOf P t) 5)) (nilOp op)
  | .call ⟨.builtin .append, ⟨[s, x]⟩, ⟨[st, xt]⟩⟩ => Option.rec none (fun p => some (kapT P st xt s x p.1 p.2)) (apTyped P st xt)
  | _ => none
theorem kmore_ok (sz : Nat) (o : Oper) {g : KOp} (h : kmore P o.op = some g) : MeetOk P sz o g := by
  unfold kmore at h
  split at h
  · rename_i t x ho
    cases hc : typedT t with
    | false => rw [hc] at h; cases h
    | true => rw [hc] at h; cases h; exact kBoxT_ok sz o t x ho
  · rename_i t ho
    cases hc : typedT t with
    | false => rw [hc] at h; cases h
    | true => rw [hc] at h; cases h; exact kAllocT_ok sz o t ho
  · rename_i s d x ho
    cases hc : toUns P s d with
    | true => rw [hc] at h; cases h; exact kToUns_ok sz o s d x ho hc
    | false =>
      rw [hc] at h
      cases hf : fromUns P s d with
      | none =>
        rw [hf] at h
        cases hb : strBytes P s d with
        | none => rw [hb] at h; cases h
        | some e => rw [hb] at h; cases h; exact kS2B_ok sz o s d e x ho hb
      | some u => rw [hf] at h; cases h; exact kFromUns_ok sz o s d u x ho hf
  · rename_i g' x ts ho
    cases hc : isNoEsc P g' with
    | false => rw [hc] at h; cases h
    | true => rw [hc] at h; cases h; exact kNoEsc_ok sz o g' x ts ho hc
  · rename_i t x y u ho
    cases hc : ptrPlain P t with
    | false => rw [hc] at h; cases h
    | true => rw [hc] at h; cases h; exact kPtrNe_ok sz o t u _ _ ho hc
  · rename_i op t x u ho
    cases he : nilOp op with
    | none => rw [he] at h; cases h
    | some eq =>
      rw [he] at h
      cases hc : Nat.beq (kindOf P t) 5 with
      | false => simp only [hc] at h; cases h
      | true => simp only [hc] at h; cases h; exact kIfNil_ok sz o op t u x eq ho he (Nat.eq_of_beq_eq_true hc)
  · rename_i s x st xt ho
    cases hc : apTyped P st xt with
    | none => rw [hc] at h; cases h
    | some p =>
      obtain ⟨u, e⟩ := p
      rw [hc] at h
      cases h
      obtain ⟨h1, h2, h3, h4⟩ := apTyped_spec hc
      exact kapT_ok sz o st xt s x u e ho h1 h2 h3 h4
  · cases h
end Go.HL
