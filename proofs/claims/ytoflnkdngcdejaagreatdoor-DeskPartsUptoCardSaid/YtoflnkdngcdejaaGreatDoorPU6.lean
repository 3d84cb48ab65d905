/-
  A high level over the model: contracts of the library's, proved over the model itself, turned to the high level's.
-/
import Derived.Test.YtoflnkdngcdejaaGreatDoorPK13
set_option linter.unusedVariables false
set_option linter.unusedSimpArgs false
namespace Go.HL
open Go.RowKit
set_option linter.unusedSimpArgs false
set_option linter.unusedVariables false

variable {P : Program}

/-- A call of things without addresses, whose answer has none, that leaves what is older. -/
theorem HCalls.of_calls {f : FuncId} {args : List Value} {v : Value} (ha : args.all flat1 = true) (hv : flat v = true) (h : ∀ w, TabsOk w.heap.size w → Calls P f args.toArray w fun e w' => e = .returned v ∧ Below w.heap.size w w') (H : HHeap) : HCalls P f args H fun v' H' => v' = v ∧ H' = H := by
  intro B μ w args' hR hx
  have := hx.flat1_eq ha
  subst this
  refine (h w (hR.tabs.keep hR.hB fun _ _ => rfl)).mono ?_
  rintro e w' ⟨rfl, hb⟩
  exact ⟨μ, _, H, _, rfl, ⟨rfl, rfl⟩, .of_flat hv, Step.of_below hR hb⟩
/-- A call that answers with a fresh row of things without addresses. -/
theorem HCalls.of_calls_row {f : FuncId} {args : List Value} {vs : List Value} {e : TypeId} (ha : args.all flat1 = true) (hv : vs.all flat1 = true) (h : ∀ w, TabsOk w.heap.size w → Calls P f args.toArray w fun r w' => r = .returned (.slice (some ⟨w.heap.size, 0, none⟩) vs.length vs.length) ∧ w' = w.alloc (.cells vs.toArray e)) (H : HHeap) :
    HCalls P f args H fun v' H' => v' = .slice (some ⟨H.next, 0, none⟩) vs.length vs.length ∧ H' = H.push (.cells vs true) := by
  intro B μ w args' hR hx
  have := hx.flat1_eq ha
  subst this
  refine (h w (hR.tabs.keep hR.hB fun _ _ => rfl)).mono ?_
  rintro r w' ⟨rfl, rfl⟩
  have st := hR.allocCells vs vs.toArray e (by rw [List.toList_toArray, List.take_length]; exact .of_flat1 hv) (allFlat_one hv)
  refine ⟨_, _, _, _, rfl, ⟨rfl, rfl⟩, ?_, st⟩
  exact .slice _ 0 _ _ ⟨w.heap.size, 0, vs.toArray.size⟩ (by simp [Mu.add]) (Nat.le_refl _)
/-- A call of a row of texts and a text, that answers with a text, and leaves what is older. -/
theorem HCalls.of_calls_texts {f : FuncId} {H : HHeap} {b : Nat} {sp : Option Nat} {n c : Nat} {cs : List Value} {rw' : Bool} {xs : List ByteArray} {sep : ByteArray} {v : Value} (hb : H.get b = some (.cells cs rw')) (hcs : cs.take n = xs.map Value.string) (hn : xs.length = n) (h0 : 0 < n) (hv : flat v = true)
    (h : ∀ (w : World) bk o c, (∀ (j : Nat) x, xs[j]? = some x → w.cell? ⟨bk, o + j, none⟩ = some (.string x)) → bk < w.heap.size → n ≤ c → Calls P f #[.slice (some ⟨bk, o, none⟩) n c, .string sep] w fun e w' => e = .returned v ∧ Below w.heap.size w w') :
    HCalls P f [.slice (some ⟨b, 0, sp⟩) n c, .string sep] H fun v' H' => v' = v ∧ H' = H := by
  intro B μ w args' hR hx
  have hlen : n ≤ cs.length := by
    have := congrArg List.length hcs
    simp at this; omega
  cases hx with
  | cons _ x _ _ hx1 hx2 =>
    cases hx2 with
    | cons _ y _ _ hy hz =>
      cases hz
      cases hy
      have key : ∀ (p : Place) (c' : Nat), μ b = some p → n ≤ c' → x = .slice (some ⟨p.g, p.d + 0, none⟩) n c' → Calls P f [x, Value.string sep].toArray w fun e w' => ∃ μ' v' H' v'', e = .returned v'' ∧ (v' = v ∧ H' = H) ∧ VRel μ' v' v'' ∧ Step B μ H w μ' H' w' := by
        rintro p c' hp hc rfl
        obtain ⟨vs', g1, g2, g3⟩ := hR.cellsAt hb hp 0 n (by omega)
        rw [List.drop_zero, hcs] at g1
        have g4 : vs' = xs.map Value.string := g1.flat1_eq (by rw [List.all_eq_true]; intro v hv; obtain ⟨z, _, rfl⟩ := List.mem_map.1 hv; rfl)
        refine (h w p.g (p.d + 0) c' (fun j x hx => ?_) (hR.real b p hp) hc).mono ?_
        · have := g3 j (.string x) (by rw [g4, List.getElem?_map, hx]; rfl)
          rwa [add_cell] at this
        · rintro e w' ⟨rfl, hbl⟩
          exact ⟨μ, _, H, _, rfl, ⟨rfl, rfl⟩, .of_flat hv, Step.of_below hR hbl⟩
      cases hx1 with
      | slice _ _ _ _ p hp hl => exact key p _ hp hl rfl
      | grown _ _ _ _ c' _ p hp hl hc _ => exact key p c' hp (Nat.le_trans hl hc) rfl
      | hole => omega
      | void => omega
end Go.HL
