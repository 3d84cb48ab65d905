/-
  Joined: K12, K13, K15.
-/
import Derived.Test.YtaghhialaplgoaaGreatDoorPFK11
set_option linter.unusedVariables false
set_option linter.unusedSimpArgs false
/-
  A way to run code on given data inside the kernel, part 12: calls that are known, and leave all as it is.
-/
namespace Go.HL
open Go.RowKit
set_option linter.unusedSimpArgs false
set_option linter.unusedVariables false

variable {P : Program}

theorem Rel.of_below {B : Nat} {μ : Mu} {H : HHeap} {w w' : World} (h : Rel B μ H w) (b : Below w.heap.size w w') : Rel B μ H w' := by
  refine ⟨Nat.le_trans h.hB b.size, h.bound, fun x p hp => Nat.lt_of_lt_of_le (h.real x p hp) b.size, fun x cs rw hx => ?_, fun x es hx => ?_, h.apart, h.tabs.keep (Nat.le_refl _) fun g hg => b.block g (Nat.lt_of_lt_of_le hg h.hB), fun x t i hx => ?_, fun x e n c hx => ?_⟩
  · obtain ⟨p, hp, hl, hc, hw, hr⟩ := h.cells x cs rw hx
    have hlt := h.real x p hp
    refine ⟨p, hp, hl, fun i v hv => ?_, fun hrw => ⟨(hw hrw).1, fun i hi => ?_⟩, hr⟩
    · obtain ⟨h1, v', h2, h3⟩ := hc i v hv
      exact ⟨h1, v', by rw [b.cell hlt]; exact h2, h3⟩
    · rw [b.cell hlt, b.frozen hlt]; exact (hw hrw).2 i hi
  · obtain ⟨p, clock, es', hp, hB, hh, he⟩ := h.maps x es hx
    exact ⟨p, clock, es', hp, hB, by rw [b.block _ (h.real x p hp)]; exact hh, he⟩
  · obtain ⟨p, hp, hd, hB, hh⟩ := h.iters x t i hx
    exact ⟨p, hp, hd, hB, by rw [b.block _ (h.real x p hp)]; exact hh⟩
  · obtain ⟨p, arr, fz, hp, hc, hd, hh, hs⟩ := h.tags x e n c hx
    exact ⟨p, arr, fz, hp, hc, hd, by rw [b.block _ (h.real x p hp)]; exact hh, hs⟩
theorem Step.of_below {B : Nat} {μ : Mu} {H : HHeap} {w w' : World} (h : Rel B μ H w) (b : Below w.heap.size w w') : Step B μ H w μ H w' :=
  ⟨Sub.refl μ, h.of_below b, b.os, b.tape, b.output, b.size, fun g hg _ => b.block g hg, fun g ho => .inl ho, Nat.le_refl _, fun _ _ h => h, fun _ _ => rfl⟩

/-- The heap of nothing. -/
def H0 : HHeap := ⟨0, fun _ => none⟩
theorem Rel.nothing (w : World) (ht : TabsOk w.heap.size w) : Rel w.heap.size (fun _ => none) H0 w :=
  ⟨Nat.le_refl _, fun _ _ h => (by cases h), fun _ _ h => (by cases h), fun _ _ _ h => (by cases h), fun _ _ h => (by cases h), fun _ _ _ _ _ _ _ h => (by cases h), ht, fun _ _ _ h => (by cases h), fun _ _ _ _ h => (by cases h)⟩
/-- A CALL that is done on no heap at all, of things without addresses, tells the same on each, and leaves it as it is. -/
theorem HCalls.anywhere {f : FuncId} {args : List Value} {v : Value} (ha : args.all flat1 = true) (hv : flat v = true) (h : HCalls P f args H0 fun v' _ => v' = v) (H : HHeap) : HCalls P f args H fun v' H' => v' = v ∧ H' = H := by
  intro B μ w args' hR hx
  have := hx.flat1_eq ha
  subst this
  have hn := Rel.nothing w (hR.tabs.keep hR.hB fun _ _ => rfl)
  refine (h w.heap.size (fun _ => none) w args' hn (.of_flat1 ha)).mono ?_
  rintro e w' ⟨μ', u, H', u', rfl, rfl, hu, s⟩
  have := hu.flat_eq hv
  subst this
  exact ⟨μ, _, H, _, rfl, ⟨rfl, rfl⟩, .of_flat hv, Step.of_below hR (s.below hn)⟩

/-- What is known of calls. -/
abbrev KOrc := FuncId → List Value → Option Value
def OrcOk (P : Program) (orc : KOrc) : Prop := ∀ g args v, orc g args = some v → ∀ H, HCalls P g args H fun v' H' => v' = v ∧ H' = H
noncomputable def kcallO (P : Program) (orc : KOrc) (f : Nat) (d : Nat) : KCall := Nat.rec (motive := fun _ => KCall) (fun _ _ _ _ => .bad)
  (fun _ ih g args n h => Option.rec ((kfnB P g).on fun F => F ih f args n h) (fun v => .ok v n h) (orc g args)) d
theorem kcallO_ok (hP : AllOrd P) {orc : KOrc} (ho : OrcOk P orc) (f : Nat) : ∀ (d : Nat), CallOk P (kcallO P orc f d)
  | 0 => fun _ _ _ _ _ _ _ hk => by cases hk
  | d + 1 => fun g args n h v n' h' hk => by
    have hk : Option.rec ((kfnB P g).on fun F => F (kcallO P orc f d) f args n h) (fun v => KR.ok v n h) (orc g args) = KR.ok v n' h' := hk
    cases hr : orc g args with
    | none =>
      rw [hr, kfnB_eq, Bx.on_mk] at hk
      exact kfn_ok hP g _ (kcallO_ok hP ho f d) f args n h v n' h' hk
    | some u =>
      rw [hr] at hk
      cases hk
      exact ho g args _ hr _
def noOrc : KOrc := fun _ _ => none
theorem noOrc_ok : OrcOk P noOrc := fun _ _ _ h => by cases h
/-- A call that comes to a value. -/
noncomputable def comesTo (r : KR) (v : Value) : Bool := KR.rec false (fun u _ _ => eqV u v) r
theorem HCalls.of_comesTo {call : KCall} (hc : CallOk P call) {f : FuncId} {args : List Value} {v : Value} (ha : args.all flat1 = true) (hv : flat v = true) (h : comesTo (call f args 0 .nil) v = true) (H : HHeap) : HCalls P f args H fun v' H' => v' = v ∧ H' = H := by
  refine HCalls.anywhere ha hv ?_ H
  cases hr : call f args 0 .nil with
  | bad => rw [hr] at h; cases h
  | ok u n' h' =>
    rw [hr] at h
    have := eqV_eq h
    subst this
    have e : absH 0 .nil = H0 := by
      unfold absH H0
      congr 1
      funext b
      exact Tr.at_nil b
    rw [← e]
    exact (hc f args 0 .nil u n' h' hr).mono fun v' H' q => q.1
/-- A table of them. -/
abbrev OrcTab := List (FuncId × List Value × Value)
noncomputable def tabFind (g : FuncId) (args : List Value) (t : OrcTab) : Option Value := List.rec none (fun e _ ih => Bool.rec ih (Bool.rec ih (some e.2.2) (all2 (leafRen id) args e.2.1)) (Nat.beq g e.1)) t
theorem tabFind_mem {g : FuncId} {args : List Value} : ∀ {t : OrcTab} {v : Value}, tabFind g args t = some v → (g, args, v) ∈ t
  | [], v, h => by cases h
  | e :: t, v, h => by
    have h : Bool.rec (tabFind g args t) (Bool.rec (tabFind g args t) (some e.2.2) (all2 (leafRen id) args e.2.1)) (Nat.beq g e.1) = some v := h
    cases h1 : Nat.beq g e.1 with
    | false => rw [h1] at h; exact List.mem_cons_of_mem _ (tabFind_mem h)
    | true =>
      cases h2 : all2 (leafRen id) args e.2.1 with
      | false => rw [h1, h2] at h; exact List.mem_cons_of_mem _ (tabFind_mem h)
      | true =>
        rw [h1, h2] at h
        cases h
        have h1 := Nat.eq_of_beq_eq_true h1
        have h2 := all2_eq h2
        subst h1; subst h2
        exact List.mem_cons_self
/-- It is found only in so far as the call's function has entries. -/
noncomputable def orcOf (t : OrcTab) : KOrc := fun g args => tabFind g args t
theorem orcOf_ok {call : KCall} (hc : CallOk P call) {t : OrcTab} (hv : t.all (fun e => e.2.1.all flat1 && flat e.2.2) = true) (h : t.all (fun e => comesTo (call e.1 e.2.1 0 .nil) e.2.2) = true) : OrcOk P (orcOf t) := by
  intro g args v hg H
  have hm := tabFind_mem hg
  have e1 := List.all_eq_true.1 h _ hm
  have e2 := List.all_eq_true.1 hv _ hm
  rw [Bool.and_eq_true] at e2
  exact HCalls.of_comesTo hc e2.1 e2.2 e1 H
end Go.HL
/-
  A way to run code on given data inside the kernel, part 13: a function's code in pieces.
-/
namespace Go.HL
open Go.RowKit
set_option linter.unusedSimpArgs false
set_option linter.unusedVariables false

variable {P : Program}

/-- Codes one behind the other, ahead of a code. -/
def seqs : List Code → Code → Code
  | [], c => c
  | x :: xs, c => .seq x (seqs xs c)
def splitC : Nat → Code → List Code × Code
  | n + 1, .seq a b => (a :: (splitC n b).1, (splitC n b).2)
  | _, c => ([], c)
noncomputable def krun2 (ih : Tr Value → Nat → Tr HObj → KX) (e : Exit) (fr : Tr Value) (n : Nat) (h : Tr HObj) : KX :=
  match e with
  | .normal => ih fr n h
  | _ => .bad
noncomputable def krun (P : Program) (sz : Nat) (call : KCall) (f : Nat) (xs : List Code) : Tr Value → Nat → Tr HObj → KX :=
  List.rec (motive := fun _ => Tr Value → Nat → Tr HObj → KX) (fun fr n h => .ok .normal fr n h) (fun x _ ih fr n h => KX.rec .bad (fun e fr n h => krun2 ih e fr n h) ((kcodeB P sz x).on fun g => g call f fr n h)) xs
theorem Hwp.seqs {sz : Nat} {call : KCall} {f : Nat} (hc : CallOk P call) {Q : Exit → HFrame → HHeap → Prop} {c : Code} : ∀ (xs : List Code), (∀ x ∈ xs, drawnOk P x = true) → ∀ {fr : Tr Value} {n : Nat} {h : Tr HObj} {e : Exit} {fr' : Tr Value} {n' : Nat} {h' : Tr HObj},
    krun P sz call f xs fr n h = .ok e fr' n' h' → Hwp P c Q (absF sz fr') (absH n' h') → Hwp P (Go.HL.seqs xs c) Q (absF sz fr) (absH n h)
  | [], _, fr, n, h, e, fr', n', h', hk, hw => by cases hk; exact hw
  | x :: xs, hd, fr, n, h, e, fr', n', h', hk, hw => by
    have hk : KX.rec .bad (fun e fr n h => krun2 (krun P sz call f xs) e fr n h) ((kcodeB P sz x).on fun g => g call f fr n h) = KX.ok e fr' n' h' := hk
    rw [kcodeB_eq, Bx.on_mk] at hk
    cases hr : kcode P sz x call f fr n h with
    | bad => rw [hr] at hk; cases hk
    | ok e1 fr1 n1 h1 =>
      rw [hr] at hk
      have hk : krun2 (krun P sz call f xs) e1 fr1 n1 h1 = .ok e fr' n' h' := hk
      unfold krun2 at hk
      split at hk
      · refine Hwp.seq (Hwp.mono ?_ (kcode_ok sz x (hd x (by simp)) _ _ _ _ _ _ _ _ _ hc hr))
        rintro e2 F H ⟨rfl, rfl, rfl⟩
        exact Hwp.seqs hc xs (fun y hy => hd y (by simp [hy])) hk hw
      · cases hk
/-- The last piece: what is told. -/
noncomputable def kfin (P : Program) (rs : List ResultVar) (x : KX) : KR := KX.rec .bad (fun e fr n h => kends e (kres P rs n h fr fun vs => .ok (htuple vs) n h)) x
theorem Hwp.finish {sz : Nat} {call : KCall} {f : Nat} (hc : CallOk P call) {c : Code} (hd : drawnOk P c = true) {rs : List ResultVar} {fr : Tr Value} {n : Nat} {h : Tr HObj} {v : Value} (hk : comesTo (kfin P rs ((kcodeB P sz c).on fun g => g call f fr n h)) v = true) :
    Hwp P c (fun e fr H' => (match e with | .normal | .ret => True | _ => False) ∧ ∃ vs, hresults P fr H' rs = some vs ∧ htuple vs = v) (absF sz fr) (absH n h) := by
  rw [kcodeB_eq, Bx.on_mk] at hk
  cases hr : kcode P sz c call f fr n h with
  | bad => rw [hr] at hk; cases hk
  | ok e1 fr1 n1 h1 =>
    rw [hr] at hk
    refine Hwp.mono ?_ (kcode_ok sz c hd _ _ _ _ _ _ _ _ _ hc hr)
    rintro e2 F H ⟨rfl, rfl, rfl⟩
    have hk : comesTo (kends e2 (kres P rs n1 h1 fr1 fun vs => .ok (htuple vs) n1 h1)) v = true := hk
    have fin : comesTo (kres P rs n1 h1 fr1 fun vs => KR.ok (htuple vs) n1 h1) v = true → ∃ vs, hresults P (absF sz fr1) (absH n1 h1) rs = some vs ∧ htuple vs = v := by
      intro hq
      have hne : (kres P rs n1 h1 fr1 fun vs => KR.ok (htuple vs) n1 h1) ≠ .bad := by
        intro e; rw [e] at hq; cases hq
      obtain ⟨vs, h4, h5⟩ := kres_ok (sz := sz) _ _ hne
      rw [h5] at hq
      exact ⟨vs, h4, eqV_eq hq⟩
    unfold kends at hk
    cases e2 with
    | normal => exact ⟨trivial, fin hk⟩
    | ret => exact ⟨trivial, fin hk⟩
    | _ => cases hk
/-- One operation of a row, by hand. -/
theorem HRows.val {ops : Array Oper} {dst : Option Tmp} {op : Op} {ty : TypeId} {pos : String} {af : Array Edge} {l : List Oper} {fr : HFrame} {H H' : HHeap} {K : HFrame → HHeap → Prop} {v : Value} (h : hop P fr H op = some (v, H')) (hr : HRows P ops l (hput fr dst v) H' K) :
    HRows P ops (⟨dst, op, ty, pos, af, none⟩ :: l) fr H K := .inr ⟨rfl, .inl ⟨v, H', HMeet.of_hop h, hr⟩⟩
end Go.HL
/-
  A way to run code on given data inside the kernel, part 15: beside a run lie two blocks that may be read alone.
-/
namespace Go.HL
open Go.RowKit
set_option linter.unusedSimpArgs false
set_option linter.unusedVariables false
variable {P : Program}
def RO (o : Option HObj) : Prop := o = none ∨ ∃ cs, o = some (.cells cs false)
def with01 (o0 o1 : Option HObj) (H : HHeap) : HHeap := ⟨H.next, fun b => if b = 0 then o0 else if b = 1 then o1 else H.get b⟩
theorem with01_0 (o0 o1 : Option HObj) (H : HHeap) : (with01 o0 o1 H).get 0 = o0 := rfl
theorem with01_1 (o0 o1 : Option HObj) (H : HHeap) : (with01 o0 o1 H).get 1 = o1 := rfl
theorem with01_ne {o0 o1 : Option HObj} {H : HHeap} {b : Nat} (h : b ≠ 0) (h' : b ≠ 1) : (with01 o0 o1 H).get b = H.get b := by
  show (if b = 0 then o0 else if b = 1 then o1 else H.get b) = _
  rw [if_neg h, if_neg h']
theorem with01_some {o0 o1 : Option HObj} {H : HHeap} {b : Nat} {o : HObj} (r0 : RO o0) (r1 : RO o1) (h : (with01 o0 o1 H).get b = some o) : (b < 2 ∧ ∃ cs, o = .cells cs false) ∨ (b ≠ 0 ∧ b ≠ 1 ∧ H.get b = some o) := by
  by_cases h0 : b = 0
  · subst h0
    rw [with01_0] at h
    rcases r0 with e | ⟨cs, e⟩
    · rw [e] at h; cases h
    · rw [e] at h; cases h; exact .inl ⟨by omega, cs, rfl⟩
  · by_cases h1 : b = 1
    · subst h1
      rw [with01_1] at h
      rcases r1 with e | ⟨cs, e⟩
      · rw [e] at h; cases h
      · rw [e] at h; cases h; exact .inl ⟨by omega, cs, rfl⟩
    · rw [with01_ne h0 h1] at h
      exact .inr ⟨h0, h1, h⟩
theorem with01_get {o0 o1 : Option HObj} {H : HHeap} (g0 : H.get 0 = none) (g1 : H.get 1 = none) {b : Nat} {o : HObj} (h : H.get b = some o) : (with01 o0 o1 H).get b = some o := by
  rw [with01_ne (by rintro rfl; rw [g0] at h; cases h) (by rintro rfl; rw [g1] at h; cases h)]
  exact h
theorem Hwp.beside {c : Code} {Q : Exit → HFrame → HHeap → Prop} {fr : HFrame} {H : HHeap} {o0 o1 : Option HObj} (r0 : RO o0) (r1 : RO o1) (hn : 2 ≤ H.next) (g0 : H.get 0 = none) (g1 : H.get 1 = none) (h : Hwp P c Q fr H) :
    Hwp P c (fun e F K' => ∃ K, K' = with01 o0 o1 K ∧ K.get 0 = none ∧ K.get 1 = none ∧ 2 ≤ K.next ∧ Q e F K) fr (with01 o0 o1 H) := by
  intro D B μ w a hR hf
  have hR' : Rel B μ H w := hR.less (Nat.le_refl _) fun b o hb => with01_get g0 g1 hb
  refine wp_mono (h D B μ w a hR' hf) ?_
  rintro e a' w' ⟨fr', K, μ', q, f, s⟩
  have d0 : K.get 0 = none := s.dead 0 (by omega) g0
  have d1 : K.get 1 = none := s.dead 1 (by omega) g1
  have up : ∀ {μ : Mu} {H : HHeap} {g : Nat}, H.get 0 = none → H.get 1 = none → Owned μ H g → Owned μ (with01 o0 o1 H) g := by
    rintro μ H g g0 g1 ⟨b, o, p, hb, hw, hp, hg⟩
    exact ⟨b, o, p, with01_get g0 g1 hb, hw, hp, hg⟩
  have down : ∀ {μ : Mu} {H : HHeap} {g : Nat}, Owned μ (with01 o0 o1 H) g → Owned μ H g := by
    rintro μ H g ⟨b, o, p, hb, hw, hp, hg⟩
    rcases with01_some r0 r1 hb with ⟨_, cs, rfl⟩ | ⟨_, _, hb⟩
    · cases hw
    · exact ⟨b, o, p, hb, hw, hp, hg⟩
  refine ⟨fr', with01 o0 o1 K, μ', ⟨K, rfl, d0, d1, Nat.le_trans hn s.next, q⟩, f, ⟨s.sub, ?_, s.os, s.tape, s.output, s.size, fun g hg ho => s.frame g hg fun h => ho (up g0 g1 h), fun g ho => (s.own g (down ho)).imp (up g0 g1) id, s.next, fun b hb hd => ?_, s.old⟩⟩
  · refine ⟨s.rel.hB, s.rel.bound, s.rel.real, ?_, ?_, ?_, s.rel.tabs, ?_, ?_⟩
    · intro b cs rw' hb
      rcases with01_some r0 r1 hb with ⟨hb2, cs', e⟩ | ⟨_, _, hb⟩
      · cases e
        have hbH : (with01 o0 o1 H).get b = some (.cells cs false) := by
          have : b = 0 ∨ b = 1 := by omega
          rcases this with rfl | rfl
          · exact hb
          · exact hb
        obtain ⟨p, h1, h2, h3, h4, h5⟩ := hR.cells b cs false hbH
        have hold : w'.heap[p.g]? = w.heap[p.g]? := s.frame p.g (hR.real b p h1) fun ho => by have := hR'.owned_ge ho; have := h5 rfl; omega
        refine ⟨p, by rw [s.old b (by omega), h1], h2, fun i v hv => ?_, (fun h => by cases h), h5⟩
        obtain ⟨k1, v', k2, k3⟩ := h3 i v hv
        refine ⟨k1, v', ?_, k3.mono s.sub⟩
        unfold World.cell? at k2 ⊢
        simp only at k2 ⊢
        rw [hold]
        exact k2
      · exact s.rel.cells b cs rw' hb
    · intro b es hb
      rcases with01_some r0 r1 hb with ⟨_, cs', e⟩ | ⟨_, _, hb⟩
      · cases e
      · exact s.rel.maps b es hb
    · intro b b' o o' p p' hne hb hb' hw hw'
      rcases with01_some r0 r1 hb with ⟨_, cs', rfl⟩ | ⟨_, _, hb⟩
      · cases hw
      rcases with01_some r0 r1 hb' with ⟨_, cs', rfl⟩ | ⟨_, _, hb'⟩
      · cases hw'
      exact s.rel.apart b b' o o' p p' hne hb hb' hw hw'
    · intro b t pos hb
      rcases with01_some r0 r1 hb with ⟨_, cs', e⟩ | ⟨_, _, hb⟩
      · cases e
      · exact s.rel.iters b t pos hb
    · intro x e n b hb
      rcases with01_some r0 r1 hb with ⟨_, cs', e⟩ | ⟨_, _, hb⟩
      · cases e
      · exact s.rel.tags x _ n b hb
  · by_cases h0 : b = 0
    · subst h0; exact hd
    · by_cases h1 : b = 1
      · subst h1; exact hd
      · rw [with01_ne h0 h1] at hd ⊢
        exact s.dead b hb hd
/-- Pieces, beside two such blocks. -/
theorem Hwp.seqs01 {sz : Nat} {call : KCall} {f : Nat} (hc : CallOk P call) {Q : Exit → HFrame → HHeap → Prop} {c : Code} {o0 o1 : Option HObj} (r0 : RO o0) (r1 : RO o1) : ∀ (xs : List Code), (∀ x ∈ xs, drawnOk P x = true) → ∀ {fr : Tr Value} {n : Nat} {h : Tr HObj} {e : Exit} {fr' : Tr Value} {n' : Nat} {h' : Tr HObj},
    krun P sz call f xs fr n h = .ok e fr' n' h' → 2 ≤ n → (absH n h).get 0 = none → (absH n h).get 1 = none → Hwp P c Q (absF sz fr') (with01 o0 o1 (absH n' h')) → Hwp P (Go.HL.seqs xs c) Q (absF sz fr) (with01 o0 o1 (absH n h))
  | [], _, fr, n, h, e, fr', n', h', hk, _, _, _, hw => by cases hk; exact hw
  | x :: xs, hd, fr, n, h, e, fr', n', h', hk, hn, g0, g1, hw => by
    have hk : KX.rec .bad (fun e fr n h => krun2 (krun P sz call f xs) e fr n h) ((kcodeB P sz x).on fun g => g call f fr n h) = KX.ok e fr' n' h' := hk
    rw [kcodeB_eq, Bx.on_mk] at hk
    cases hr : kcode P sz x call f fr n h with
    | bad => rw [hr] at hk; cases hk
    | ok e1 fr1 n1 h1 =>
      rw [hr] at hk
      have hk : krun2 (krun P sz call f xs) e1 fr1 n1 h1 = .ok e fr' n' h' := hk
      unfold krun2 at hk
      split at hk
      · refine Hwp.seq (Hwp.mono ?_ (Hwp.beside r0 r1 hn g0 g1 (kcode_ok sz x (hd x (by simp)) _ _ _ _ _ _ _ _ _ hc hr)))
        rintro e2 F H ⟨K, rfl, k0, k1, kn, rfl, rfl, rfl⟩
        exact Hwp.seqs01 hc r0 r1 xs (fun y hy => hd y (by simp [hy])) hk kn k0 k1 hw
      · cases hk
end Go.HL
