/-
  A way to run code on given data inside the kernel, part 13: a function's code in pieces.
-/
import Derived.Test.YtakjligkeplohaaGreatDoorK12
namespace Go.HL
open Go.RowKit
set_option linter.unusedSimpArgs false
set_option linter.unusedVariables false

variable {P : Program}

/-- Codes one behind the other, ahead of a code. -/
def seqs : List Code → Code → Code
  | [], c => c
  | x :: xs, c => .seq x (seqs xs c)
def splitC : Nat → Code → List Code × Code
  | n + 1, .seq a b => (a :: (splitC n b).1, (splitC n b).2)
  | _, c => ([], c)
theorem splitC_eq : ∀ (n : Nat) (c : Code), seqs (splitC n c).1 (splitC n c).2 = c
  | 0, c => by cases c <;> rfl
  | n + 1, c => by
    cases c with
    | seq a b =>
      show Code.seq a (seqs (splitC n b).1 (splitC n b).2) = _
      rw [splitC_eq n b]
    | _ => rfl
theorem drawnOk_seqs : ∀ (xs : List Code) (c : Code), drawnOk P (seqs xs c) = true → (∀ x ∈ xs, drawnOk P x = true) ∧ drawnOk P c = true
  | [], c, h => ⟨by simp, h⟩
  | x :: xs, c, h => by
    simp only [seqs, drawnOk, Bool.and_eq_true] at h
    obtain ⟨h1, h2⟩ := drawnOk_seqs xs c h.2
    refine ⟨fun y hy => ?_, h2⟩
    rcases List.mem_cons.1 hy with rfl | hy
    · exact h.1
    · exact h1 y hy
noncomputable def krun2 (ih : Tr Value → Nat → Tr HObj → KX) (e : Exit) (fr : Tr Value) (n : Nat) (h : Tr HObj) : KX :=
  match e with
  | .normal => ih fr n h
  | _ => .bad
noncomputable def krun (P : Program) (sz : Nat) (call : KCall) (f : Nat) (xs : List Code) : Tr Value → Nat → Tr HObj → KX :=
  List.rec (motive := fun _ => Tr Value → Nat → Tr HObj → KX) (fun fr n h => .ok .normal fr n h) (fun x _ ih fr n h => KX.rec .bad (fun e fr n h => krun2 ih e fr n h) ((kcodeB P sz x).on fun g => g call f fr n h)) xs
theorem Hwp.seqs {sz : Nat} {call : KCall} {f : Nat} (hc : CallOk P call) {Q : Exit → HFrame → HHeap → Prop} {c : Code} : ∀ (xs : List Code), (∀ x ∈ xs, drawnOk P x = true) → ∀ {fr : Tr Value} {n : Nat} {h : Tr HObj} {e : Exit} {fr' : Tr Value} {n' : Nat} {h' : Tr HObj},
    krun P sz call f xs fr n h = .ok e fr' n' h' → Hwp P c Q (absF sz fr') (absH n' h') → Hwp P (Go.HL.seqs xs c) Q (absF sz fr) (absH n h)
  | [], _, fr, n, h, e, fr', n', h', hk, hw => by cases hk; exact hw
  | x :: xs, hd, fr, n, h, e, fr', n', h', hk, hw => by
    have hk : KX.rec .bad (fun e fr n h => krun2 (krun P sz call f xs) e fr n h) ((kcodeB P sz x).on fun g => g call f fr n h) = KX.ok e fr' n' h' := hk
    rw [kcodeB_eq, Bx.on_mk] at hk
    cases hr : kcode P sz x call f fr n h with
    | bad => rw [hr] at hk; cases hk
    | ok e1 fr1 n1 h1 =>
      rw [hr] at hk
      have hk : krun2 (krun P sz call f xs) e1 fr1 n1 h1 = .ok e fr' n' h' := hk
      unfold krun2 at hk
      split at hk
      · refine Hwp.seq (Hwp.mono ?_ (kcode_ok sz x (hd x (by simp)) _ _ _ _ _ _ _ _ _ hc hr))
        rintro e2 F H ⟨rfl, rfl, rfl⟩
        exact Hwp.seqs hc xs (fun y hy => hd y (by simp [hy])) hk hw
      · cases hk
/-- The last piece: what is told. -/
noncomputable def kfin (P : Program) (rs : List ResultVar) (x : KX) : KR := KX.rec .bad (fun e fr n h => kends e (kres P rs n h fr fun vs => .ok (htuple vs) n h)) x
theorem Hwp.finish {sz : Nat} {call : KCall} {f : Nat} (hc : CallOk P call) {c : Code} (hd : drawnOk P c = true) {rs : List ResultVar} {fr : Tr Value} {n : Nat} {h : Tr HObj} {v : Value} (hk : comesTo (kfin P rs ((kcodeB P sz c).on fun g => g call f fr n h)) v = true) :
    Hwp P c (fun e fr H' => (match e with | .normal | .ret => True | _ => False) ∧ ∃ vs, hresults P fr H' rs = some vs ∧ htuple vs = v) (absF sz fr) (absH n h) := by
  rw [kcodeB_eq, Bx.on_mk] at hk
  cases hr : kcode P sz c call f fr n h with
  | bad => rw [hr] at hk; cases hk
  | ok e1 fr1 n1 h1 =>
    rw [hr] at hk
    refine Hwp.mono ?_ (kcode_ok sz c hd _ _ _ _ _ _ _ _ _ hc hr)
    rintro e2 F H ⟨rfl, rfl, rfl⟩
    have hk : comesTo (kends e2 (kres P rs n1 h1 fr1 fun vs => .ok (htuple vs) n1 h1)) v = true := hk
    have fin : comesTo (kres P rs n1 h1 fr1 fun vs => KR.ok (htuple vs) n1 h1) v = true → ∃ vs, hresults P (absF sz fr1) (absH n1 h1) rs = some vs ∧ htuple vs = v := by
      intro hq
      have hne : (kres P rs n1 h1 fr1 fun vs => KR.ok (htuple vs) n1 h1) ≠ .bad := by
        intro e; rw [e] at hq; cases hq
      obtain ⟨vs, h4, h5⟩ := kres_ok (sz := sz) _ _ hne
      rw [h5] at hq
      exact ⟨vs, h4, eqV_eq hq⟩
    unfold kends at hk
    cases e2 with
    | normal => exact ⟨trivial, fin hk⟩
    | ret => exact ⟨trivial, fin hk⟩
    | _ => cases hk
/-- One operation of a row, by hand. -/
theorem HRows.val {ops : Array Oper} {dst : Option Tmp} {op : Op} {ty : TypeId} {pos : String} {af : Array Edge} {l : List Oper} {fr : HFrame} {H H' : HHeap} {K : HFrame → HHeap → Prop} {v : Value} (h : hop P fr H op = some (v, H')) (hr : HRows P ops l (hput fr dst v) H' K) :
    HRows P ops (⟨dst, op, ty, pos, af, none⟩ :: l) fr H K := .inr ⟨rfl, .inl ⟨v, H', HMeet.of_hop h, hr⟩⟩
theorem absF_at {sz : Nat} {fr : Tr Value} {t : Nat} {v : Value} (hp : placed t = true) (h : fr.walk (path t) = some v) : hev (absF sz fr) (.tmp t) = some v := by
  show Tr.at fr t = some v
  unfold Tr.at; rw [hp]; exact h
end Go.HL
