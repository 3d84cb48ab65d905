/-
  Joined: X1, LB, EA.
-/
import Derived.Test.YtaghhialaplgoaaGreatDoorPFK15
import Derived.Test.YtaghhialaplgoaaGreatDoorProg
import Derived.KernelRfl
import Derived.Test.YtaghhialaplgoaaGreatDoorPFM24
set_option linter.unusedVariables false
set_option linter.unusedSimpArgs false
/-
  Runs inside the kernel: the program's drawn rows are walked as they may be; the document's example of layer 13 (for a program without the names of the language).
-/
namespace Go.HL
open Go.Proofs
set_option maxRecDepth 1000000
theorem ord_all : allOrd Tryz.prog Tryz.prog.funcs.toList = true := by kernel_rfl
theorem hOrd : AllOrd Tryz.prog := allOrd_of ord_all
noncomputable def call0 : KCall := kcallO Tryz.prog noOrc 100000 200
theorem call0_ok : CallOk Tryz.prog call0 := kcallO_ok hOrd noOrc_ok 100000 200
noncomputable def call1 : KCall := call0
theorem call1_ok : CallOk Tryz.prog call1 := call0_ok
def shownTab : OrcTab := [(4, [], .bool true)]
theorem shownTab_flat : shownTab.all (fun e => e.2.1.all flat1 && flat e.2.2) = true := by kernel_rfl
theorem shownTab_run : shownTab.all (fun e => comesTo (call1 e.1 e.2.1 0 .nil) e.2.2) = true := by kernel_rfl
/-- Calls, with both tables at hand. -/
noncomputable def call2 : KCall := kcallO Tryz.prog (orcOf shownTab) 100000 2000
theorem call2_ok : CallOk Tryz.prog call2 := kcallO_ok hOrd (orcOf_ok call1_ok shownTab_flat shownTab_run) 100000 2000
end Go.HL
/-
  What a run inside the kernel leaves, read as a program's blocks.
-/
namespace Go.HL
open Go.Proofs Go.RowKit
set_option maxHeartbeats 4000000
set_option maxRecDepth 1000000
set_option linter.unusedSimpArgs false
set_option linter.unusedVariables false
def icells (l : List In) : List Value := l.flatMap fun i => [.int .u8 (i.op : Nat), I (i.a : Nat), I (i.b : Nat), U i.w]
theorem icells_cons (x : In) (l : List In) : icells (x :: l) = [.int .u8 (x.op : Nat), I (x.a : Nat), I (x.b : Nat), U x.w] ++ icells l := by unfold icells; rfl
theorem icells_len : ∀ (l : List In), (icells l).length = 4 * l.length
  | [] => rfl
  | x :: l => by rw [icells_cons, List.length_append, icells_len l, List.length_cons]; simp; omega
theorem icells_at : ∀ {l : List In} {i : Nat} {x : In}, l[i]? = some x → flatW (icells l) 0 4 i = [.int .u8 (x.op : Nat), I (x.a : Nat), I (x.b : Nat), U x.w]
  | [], _, _, h => by simp at h
  | y :: l, 0, x, h => by simp at h; subst h; rw [icells_cons]; rfl
  | y :: l, i + 1, x, h => by
    have := icells_at (l := l) (i := i) (x := x) (by simpa using h)
    rw [icells_cons]
    unfold flatW at this ⊢
    rw [show 0 + (i + 1) * 4 = 4 + (0 + i * 4) by omega, ← List.drop_drop]
    exact this
theorem Sl.ins {Z : Zs} {H : HHeap} {b : Nat} {l : List In} {rw : Bool} (hz : Z b) (hg : H.get b = some (.cells (icells l) rw)) (hl : ∀ i ∈ l, InOk i) : Sl rIns Z H (.slice (some ⟨b, 0, some 8⟩) l.length l.length) l :=
  ⟨_, _, rfl, Nat.le_refl _, .inr ⟨b, 0, _, rfl, (by intro q e; cases e; rfl), .inr ⟨_, rw, hz, hg, by show 0 + l.length * 4 ≤ _; rw [icells_len]; omega, fun i x hx => by
    obtain ⟨h1, h2, h3, h4, _⟩ := hl x (List.mem_of_getElem? hx)
    exact ⟨icells_at hx, h1, h2, h3, h4⟩⟩⟩⟩
/-- Two blocks of a program. -/
theorem Sl.two {Z : Zs} {H : HHeap} {b b1 b2 m1 m2 : Nat} {l1 l2 : List In} {rw : Bool} (hz : Z b) (hz1 : Z b1) (hz2 : Z b2) (hg : H.get b = some (.cells [I (m1 : Nat), .slice (some ⟨b1, 0, some 8⟩) l1.length l1.length, I (m2 : Nat), .slice (some ⟨b2, 0, some 8⟩) l2.length l2.length] rw))
    (h1 : H.get b1 = some (.cells (icells l1) true)) (h2 : H.get b2 = some (.cells (icells l2) true)) (o1 : ∀ i ∈ l1, InOk i) (o2 : ∀ i ∈ l2, InOk i) (n1 : l1.length < 1000000 ∧ m1 < 1000000) (n2 : l2.length < 1000000 ∧ m2 < 1000000) : Sl rBk Z H (.slice (some ⟨b, 0, some 4⟩) 2 2) [⟨m1, l1⟩, ⟨m2, l2⟩] :=
  ⟨_, 2, rfl, Nat.le_refl _, .inr ⟨b, 0, _, rfl, (by intro q e; cases e; rfl), .inr ⟨_, rw, hz, hg, Nat.le_refl _, fun i x hx => by
    match i, hx with
    | 0, hx => cases hx; exact ⟨_, rfl, Sl.ins hz1 h1 o1, n1⟩
    | 1, hx => cases hx; exact ⟨_, rfl, Sl.ins hz2 h2 o2, n2⟩
    | i + 2, hx => simp at hx⟩⟩⟩
instance (i : In) : Decidable (InOk i) := by unfold InOk; exact inferInstance
theorem shown_true (H : HHeap) (R : Value → HHeap → Prop) (hR : R (.bool true) H) : HCalls Tryz.prog 4 [] H R :=
  (orcOf_ok call1_ok shownTab_flat shownTab_run _ _ _ (show orcOf shownTab 4 [] = some (.bool true) by kernel_rfl) H).mono fun v H' h => by rw [h.1, h.2]; exact hR
/-- A frame of which some slots are looked up. -/
theorem fle_abs {sz : Nat} {fr : Tr Value} {l : List (Nat × Value)} (h : ∀ p ∈ l, placed p.1 = true ∧ fr.walk (path p.1) = some p.2) : FLe (hfr sz l) (absF sz fr) := by
  refine ⟨rfl, fun t v ht => ?_⟩
  rw [hfr_get] at ht
  show Tr.at fr t = some v
  have key : ∀ (l : List (Nat × Value)), (∀ p ∈ l, placed p.1 = true ∧ fr.walk (path p.1) = some p.2) → flook l t = some v → Tr.at fr t = some v := by
    intro l
    induction l with
    | nil => intro _ h; simp [flook] at h
    | cons p l ih =>
      obtain ⟨a, x⟩ := p
      intro h hl
      rw [flook_cons] at hl
      by_cases e : t = a
      · rw [if_pos e] at hl
        have this := h (a, x) (by simp)
        cases hl
        unfold Tr.at
        rw [e, this.1]
        exact this.2
      · rw [if_neg e] at hl
        exact ih (fun p hp => h p (by simp [hp])) hl
  exact key l h ht
/-- A frame that is laid slot by slot. -/
noncomputable def frOf (l : List (Nat × Value)) : Tr Value := List.rec (motive := fun _ => Tr Value) .nil (fun p _ ih => ih.ins (some p.2) (path p.1)) l
theorem fle_of_abs {sz : Nat} : ∀ {l : List (Nat × Value)} {m : List (Nat × Value)}, (∀ p ∈ l, placed p.1 = true ∧ flook m p.1 = some p.2) → FLe (absF sz (frOf l)) (hfr sz m) := by
  intro l m h
  refine ⟨rfl, fun t v ht => ?_⟩
  have ht2 : Tr.at (frOf l) t = some v := ht
  clear ht
  revert ht2
  intro ht
  rw [hfr_get]
  induction l with
  | nil => rw [show frOf [] = .nil from rfl, Tr.at_nil] at ht; cases ht
  | cons p l ih =>
    rw [show frOf (p :: l) = (frOf l).ins (some p.2) (path p.1) from rfl, Tr.at_ins (h p (by simp)).1] at ht
    by_cases e : t = p.1
    · rw [if_pos e] at ht
      cases ht
      rw [e]
      exact (h p (by simp)).2
    · rw [if_neg e] at ht
      exact ih (fun q hq => h q (by simp [hq])) ht
end Go.HL
/-
  VmKeeps, run inside the kernel up to its first loop: pieces. Blocks 0 and 1 are the arguments', and lie beside.
-/
namespace Go.HL
open Go.Proofs Go.RowKit
set_option maxRecDepth 1000000
set_option linter.unusedSimpArgs false
set_option linter.unusedVariables false
noncomputable def keFn : Func := match Tryz.prog.funcs[3]? with | some fn => fn | none => default
noncomputable def keBody : Code := match keFn.body with | some c => c | none => .skip
noncomputable def keA : List Code := (splitC 2 (splitC 2 keBody).2).1
noncomputable def keFr (x y : Value) : Tr Value := frOf [(0, x), (1, y), (5, .bool true)]
noncomputable def keX (x y : Value) : KX := krun Tryz.prog 171 call2 100000 keA (keFr x y) 2 .nil
theorem keA_ord : keA.all (drawnOk Tryz.prog) = true := by kernel_rfl
end Go.HL
