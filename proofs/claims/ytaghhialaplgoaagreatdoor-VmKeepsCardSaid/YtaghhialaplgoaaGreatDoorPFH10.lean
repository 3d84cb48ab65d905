/-
  A high level over the model, part 10: rows of operations whose order is drawn: what writes or calls is in one order, what reads may come later than the order that is walked, and must then read the same.
-/
import Derived.Test.YtaghhialaplgoaaGreatDoorPFH9
import Derived.Orders
set_option linter.unusedVariables false
set_option linter.unusedSimpArgs false
namespace Go.HL
open Go.RowKit

variable {P : Program}

/-- An operation that leaves the heap as it is. -/
def quiet : Op → Bool
  | .move _ | .assign _ | .pick .. | .build .. | .load .. | .nilCheck _ | .binOp .. | .unOp .. | .convert .. | .makeInterface .. | .makeFunc .. | .slice .. | .fieldAddr .. | .field .. | .indexAddr .. | .index .. | .lookup .. | .extract .. => true
  | .call { callee := .builtin .len, .. } | .call { callee := .builtin .min, .. } | .call { callee := .builtin .max, .. } => true
  | _ => false

/-- .. and reads of it. -/
def reads : Op → Bool
  | .load .. | .lookup .. | .convert .. => true
  | .call { callee := .builtin .len, .. } => true
  | _ => false

theorem quiet_same {fr : HFrame} {H H' : HHeap} {op : Op} {v : Value} (hq : quiet op = true) (h : hop P fr H op = some (v, H')) : H' = H := by
  have key : ∀ {α : Type} {x : Option α} {f : α → Value}, (x.map fun a => (f a, H)) = some (v, H') → H' = H := by
    intro α x f e; cases x <;> simp at e; exact e.2.symm
  cases op <;> first
    | (simp [quiet] at hq; done)
    | (simp only [hop, Option.bind_eq_some_iff] at h; first | exact key h | (obtain ⟨_, _, h⟩ := h; exact key h) | (obtain ⟨_, _, _, _, h⟩ := h; exact key h) | (obtain ⟨_, _, _, _, _, _, _, _, h⟩ := h; exact key h))
    | skip
  case pick => simp only [hop] at h; split at h <;> first | exact key h | cases h
  case nilCheck => simp only [hop] at h; split at h <;> cases h <;> rfl
  case makeInterface =>
    simp only [hop] at h
    split at h
    · cases h
    · split at h <;> first | exact key h | cases h
  case indexAddr =>
    simp only [hop, Option.bind_eq_some_iff] at h
    obtain ⟨_, _, h⟩ := h
    split at h <;> first | exact key h | cases h
  case index =>
    simp only [hop, Option.bind_eq_some_iff] at h
    obtain ⟨_, _, h⟩ := h
    split at h <;> first | exact key h | cases h
  case extract => simp only [hop] at h; split at h <;> first | exact key h | cases h
  case call c =>
    obtain ⟨callee, args, ts⟩ := c
    cases callee with
    | builtin b =>
      simp only [hop, Option.bind_eq_some_iff] at h
      obtain ⟨vs, _, h⟩ := h
      unfold hbuiltin at h
      split at h <;> first
        | (simp [quiet] at hq; done)
        | exact key h
        | cases h
    | _ => simp [quiet] at hq

theorem quiet_anywhere {fr : HFrame} {H : HHeap} {op : Op} {v : Value} (hq : quiet op = true) (hr : reads op = false) (h : hop P fr H op = some (v, H)) (H2 : HHeap) : hop P fr H2 op = some (v, H2) := by
  have key : ∀ {α : Type} {x : Option α} {f : α → Value}, (x.map fun a => (f a, H)) = some (v, H) → (x.map fun a => (f a, H2)) = some (v, H2) := by
    intro α x f e; cases x <;> simp at e ⊢; exact e
  cases op <;> first
    | (simp [quiet] at hq; done)
    | (simp [reads] at hr; done)
    | (simp only [hop, Option.bind_eq_some_iff] at h ⊢; first | exact key h | (obtain ⟨x, hx, h⟩ := h; exact ⟨x, hx, key h⟩) | (obtain ⟨x, hx, y, hy, h⟩ := h; exact ⟨x, hx, y, hy, key h⟩) |
        (obtain ⟨x, hx, y, hy, z, hz, u, hu, h⟩ := h; exact ⟨x, hx, y, hy, z, hz, u, hu, key h⟩))
    | skip
  case pick c a b =>
    simp only [hop] at h ⊢
    split at h
    · exact key h
    · exact key h
    · cases h
  case nilCheck x =>
    simp only [hop] at h ⊢
    split at h
    · cases h; rfl
    · cases h; rfl
    · cases h
  case makeInterface =>
    simp only [hop] at h ⊢
    split at h
    · cases h
    · rename_i hk
      rw [if_neg hk]
      split at h
      · rename_i hs; rw [if_pos hs]; exact key h
      · cases h
  case indexAddr =>
    simp only [hop, Option.bind_eq_some_iff] at h ⊢
    obtain ⟨x, hx, h⟩ := h
    refine ⟨x, hx, ?_⟩
    split at h
    · exact key h
    · cases h
  case index =>
    simp only [hop, Option.bind_eq_some_iff] at h ⊢
    obtain ⟨x, hx, h⟩ := h
    refine ⟨x, hx, ?_⟩
    split at h
    · exact key h
    · cases h
  case extract =>
    simp only [hop] at h ⊢
    split at h
    · exact key h
    · cases h
  case call c =>
    obtain ⟨callee, args, ts⟩ := c
    cases callee with
    | builtin b =>
      simp only [hop, Option.bind_eq_some_iff] at h ⊢
      obtain ⟨vs, hvs, h⟩ := h
      refine ⟨vs, hvs, ?_⟩
      unfold hbuiltin at h ⊢
      split at h <;> first
        | (simp [quiet] at hq; done)
        | (simp [reads] at hr; done)
        | exact key h
        | cases h
    | _ => simp [quiet] at hq

theorem hevs_congr {fr fr' : HFrame} : ∀ (xs : List Operand), (∀ x ∈ xs, hev fr x = hev fr' x) → hevs fr xs = hevs fr' xs
  | [], _ => rfl
  | x :: xs, h => by simp only [hevs, h x (by simp), hevs_congr xs (fun y hy => h y (by simp [hy]))]

theorem hparts_congr {fr fr' : HFrame} : ∀ (xs : List (Nat × Operand)), (∀ x ∈ xs.map (·.2), hev fr x = hev fr' x) → hparts fr xs = hparts fr' xs
  | [], _ => rfl
  | (i, x) :: xs, h => by simp only [hparts, h x (by simp), hparts_congr xs (fun y hy => h y (by simp at hy ⊢; exact .inr hy))]

theorem hopt_congr {fr fr' : HFrame} {x : Option Operand} (h : ∀ y, x = some y → hev fr y = hev fr' y) : hopt fr x = hopt fr' x := by
  cases x with
  | none => rfl
  | some x => simp only [hopt, h x rfl]

theorem hop_congr {fr fr' : HFrame} {H : HHeap} {op : Op} (h : ∀ x ∈ op.operands, hev fr x = hev fr' x) : hop P fr H op = hop P fr' H op := by
  cases op <;> simp only [Op.operands] at h <;> try rfl
  case move x => simp only [hop, h x (by simp)]
  case assign x => simp only [hop, h x (by simp)]
  case pick c a b => simp only [hop, h c (by simp), h a (by simp), h b (by simp)]
  case box t x => simp only [hop, h x (by simp)]
  case build t ps => simp only [hop]; rw [hparts_congr ps.toList (fun x hx => h x (by simpa using hx))]
  case buildSlice t n ps => simp only [hop]; rw [hparts_congr ps.toList (fun x hx => h x (by simpa using hx))]
  case insert t m k x => simp only [hop, h m (by simp), h k (by simp), h x (by simp)]
  case load t x => simp only [hop, h x (by simp)]
  case store t x y => simp only [hop, h x (by simp), h y (by simp)]
  case nilCheck x => simp only [hop, h x (by simp)]
  case binOp op t x y u => simp only [hop, h x (by simp), h y (by simp)]
  case unOp op t x => simp only [hop, h x (by simp)]
  case convert s d x => simp only [hop, h x (by simp)]
  case makeInterface t x => simp only [hop, h x (by simp)]
  case makeFunc fn first captured => simp only [hop]; rw [hevs_congr first.toList (fun x hx => h x (by simp at hx ⊢; exact .inl hx)), hevs_congr captured.toList (fun x hx => h x (by simp at hx ⊢; exact .inr hx))]
  case makeMap t r => cases r <;> rfl
  case makeSlice t x y => simp only [hop, h x (by simp), h y (by simp)]
  case slice t x lo hi mx =>
    simp only [hop]
    rw [h x (by simp), hopt_congr (x := lo) (fun y e => h y (by simp [e])), hopt_congr (x := hi) (fun y e => h y (by simp [e])), hopt_congr (x := mx) (fun y e => h y (by simp [e]))]
  case fieldAddr t x f => simp only [hop, h x (by simp)]
  case field t x f => simp only [hop, h x (by simp)]
  case indexAddr t x y => simp only [hop, h x (by simp), h y (by simp)]
  case index t x y => simp only [hop, h x (by simp), h y (by simp)]
  case lookup t m k ok => simp only [hop, h m (by simp), h k (by simp)]
  case mapUpdate t m k x => simp only [hop, h m (by simp), h k (by simp), h x (by simp)]
  case extract x i => simp only [hop, h x (by simp)]
  case range t x => simp only [hop, h x (by simp)]
  case next x b => cases b <;> simp only [hop, h x (by simp)]
  case call c =>
    obtain ⟨callee, args, ts⟩ := c
    cases callee with
    | builtin b => simp only [hop]; rw [hevs_congr args.toList (fun x hx => h x (by simp [Call.operands]; simpa using hx))]
    | _ => rfl

theorem hcallee_congr {fr fr' : HFrame} {op : Op} (h : ∀ x ∈ op.operands, hev fr x = hev fr' x) : hcallee P fr op = hcallee P fr' op := by
  unfold hcallee
  split
  · rename_i x as ts
    simp only [Op.operands, Call.operands] at h
    rw [h x (by simp), hevs_congr as.toList (fun y hy => h y (by simp at hy ⊢; exact .inr hy))]
  · rfl

end Go.HL
