/-
  A high level over the model, part 5: the model's operations meet those of the high level: arithmetic, comparisons, what is made, appends, copies, maps.
-/
import Derived.Test.YtakjligkeplohaaGreatDoorH4
namespace Go.HL
open Go.RowKit

variable {P : Program} {B : Nat} {μ : Mu} {H : HHeap} {w : World}

theorem run_hint {op : BinOp} {k : IntKind} {x y : Int} {v : Value} (h : hint op k x y = some v) (hs : op ≠ .shl ∧ op ≠ .shr) (t : TypeId) (w : World) : (binOp op t (.int k x) (.int k y)).run P w = .ok v w := by
  cases op <;> simp_all [hint, binOp, Op.intArith, Op.intDiv, Op.intBits, Op.intCmp]

theorem run_hshift {op : BinOp} {k k' : IntKind} {x y : Int} {v : Value} (h : hshift op k x y = some v) (hs : op = .shl ∨ op = .shr) (t : TypeId) (w : World) : (binOp op t (.int k x) (.int k' y)).run P w = .ok v w := by
  unfold hshift at h
  split at h
  · cases h
  · rename_i hy
    rcases hs with rfl | rfl <;> simp at h <;> subst h <;> simp [binOp, Op.shift, hy]

theorem run_hstr {op : BinOp} {x y : ByteArray} {v : Value} (h : hstr op x y = some v) (t : TypeId) (w : World) : (binOp op t (.string x) (.string y)).run P w = .ok v w := by
  cases op <;> simp_all [hstr, binOp, Op.stringOp]
  omega

theorem eqGuard_ok (op : BinOp) (t : TypeId) (x y : Operand) (a b : Value) (h : (∀ c, a ≠ .agg c) ∧ a ≠ .nilIface ∨ (∀ c, b ≠ .agg c) ∧ b ≠ .nilIface) (w : World) : (eqGuard op t x y a b).run P w = .ok () w := by
  rcases h with ⟨h1, h2⟩ | ⟨h1, h2⟩
  · cases a <;> first | exact absurd rfl (h1 _) | exact absurd rfl h2 | (simp only [eqGuard]; split <;> simp)
  · cases b <;> first | exact absurd rfl (h1 _) | exact absurd rfl h2 | (simp only [eqGuard]; split <;> simp)

theorem equal_of {t : TypeId} {x y : Value} {b : Bool} (h : ∀ d, (Op.equalIn (d + 1) t x y).run P w = .ok b w) : (Op.equal t x y).run P w = .ok b w := by
  unfold Op.equal Op.maxDepth
  exact h 9999

theorem equal_bool {t : TypeId} (ht : P.underlying t = some .bool) (a b : Bool) : (Op.equal t (.bool a) (.bool b)).run P w = .ok (a == b) w :=
  equal_of fun d => by simp [Op.equalIn, run_underlying ht]
theorem equal_ptr {t e : TypeId} (ht : P.underlying t = some (.pointer e)) (a b : Option Addr) (h : (a.isNone || b.isNone) = true) : (Op.equal t (.pointer a) (.pointer b)).run P w = .ok (a.isNone && b.isNone) w :=
  equal_of fun d => by cases a <;> cases b <;> simp at h <;> simp [Op.equalIn, run_underlying ht]
theorem equal_slice {t e : TypeId} (ht : P.underlying t = some (.slice e)) (a b : Option Addr) (l c l' c' : Nat) (h : (a.isNone || b.isNone) = true) : (Op.equal t (.slice a l c) (.slice b l' c')).run P w = .ok (a.isNone && b.isNone) w :=
  equal_of fun d => by cases a <;> cases b <;> simp at h <;> simp [Op.equalIn, run_underlying ht]
theorem equal_func {t : TypeId} {p r : Array TypeId} {v : Bool} (ht : P.underlying t = some (.func p r v)) (f : Fn) (a b : Array Value) :
    (Op.equal t .nilFunc (.func f a b)).run P w = .ok false w ∧ (Op.equal t (.func f a b) .nilFunc).run P w = .ok false w ∧ (Op.equal t .nilFunc .nilFunc).run P w = .ok true w :=
  ⟨equal_of fun d => by simp [Op.equalIn, run_underlying ht], equal_of fun d => by simp [Op.equalIn, run_underlying ht], equal_of fun d => by simp [Op.equalIn, run_underlying ht]⟩
theorem equal_iface {t : TypeId} {ms : Array (String × TypeId)} (ht : P.underlying t = some (.interface ms)) (u : TypeId) (v : Value) :
    (Op.equal t .nilIface (.iface u v)).run P w = .ok false w ∧ (Op.equal t (.iface u v) .nilIface).run P w = .ok false w :=
  ⟨equal_of fun d => by simp [Op.equalIn, run_underlying ht], equal_of fun d => by simp [Op.equalIn, run_underlying ht]⟩

theorem sim_bin {op : BinOp} {t : TypeId} {x y u x' y' : Value} (ox oy : Operand) (hl : hbin P op t x y = some u) (hx : VRel μ x x') (hy : VRel μ y y') :
    (do eqGuard op t ox oy x' y'; binOp op t x' y' : Sem Value).run P w = .ok u w ∧ VRel μ u u := by
  have fl : ∀ v : Value, (∃ b, v = .bool b) ∨ (∃ k n, v = .int k n) ∨ (∃ s, v = .string s) → VRel μ v v := by
    rintro v (⟨b, rfl⟩ | ⟨k, n, rfl⟩ | ⟨s, rfl⟩)
    · exact .bool _
    · exact .int _ _
    · exact .string _
  have hfi : ∀ {op : BinOp} {k : IntKind} {x y : Int} {v : Value}, hint op k x y = some v → VRel μ v v := by
    intro op k x y v h
    apply fl
    cases op <;> simp [hint] at h <;> first | exact .inr (.inl ⟨_, _, h.symm⟩) | exact .inl ⟨_, h.symm⟩ | exact .inr (.inl ⟨_, _, h.2.symm⟩)
  have hfs : ∀ {op : BinOp} {k : IntKind} {x y : Int} {v : Value}, hshift op k x y = some v → VRel μ v v := by
    intro op k x y v h
    apply fl
    unfold hshift at h
    split at h
    · cases h
    · cases op <;> simp at h <;> exact .inr (.inl ⟨_, _, h.symm⟩)
  have hft : ∀ {op : BinOp} {x y : ByteArray} {v : Value}, hstr op x y = some v → VRel μ v v := by
    intro op x y v h
    apply fl
    cases op <;> simp [hstr] at h <;> first | exact .inr (.inr ⟨_, h.symm⟩) | exact .inl ⟨_, h.symm⟩ | exact .inr (.inr ⟨_, h.2.symm⟩)
  unfold hbin at hl
  split at hl
  · rename_i k a k' b
    cases hx; cases hy
    have hg := eqGuard_ok (P := P) op t ox oy (.int k a) (.int k' b) (.inl (by simp)) w
    split at hl
    · exact ⟨by simp [hg, run_hshift hl (.inl rfl)], hfs hl⟩
    · exact ⟨by simp [hg, run_hshift hl (.inr rfl)], hfs hl⟩
    · rename_i h1 h2
      split at hl
      · subst_vars; exact ⟨by simp [hg, run_hint hl ⟨h1, h2⟩], hfi hl⟩
      · cases hl
  · rename_i a b
    cases hx; cases hy
    have hg := eqGuard_ok (P := P) op t ox oy (.string a) (.string b) (.inl (by simp)) w
    exact ⟨by simp [hg, run_hstr hl], hft hl⟩
  · rename_i a b
    cases hx; cases hy
    have hg := eqGuard_ok (P := P) op t ox oy (.bool a) (.bool b) (.inl (by simp)) w
    split at hl
    · rename_i ht
      have ht' := kind_bool ht
      have hq := equal_bool (w := w) ht' a b
      split at hl <;> cases hl
      · exact ⟨by simp [hg, binOp, hq], .bool _⟩
      · exact ⟨by simp [hg, binOp, hq], .bool _⟩
    · cases hl
  · rename_i a b
    split at hl
    · rename_i ht
      obtain ⟨e, ht'⟩ := kind_pointer ht
      have hxs : ∃ a', x' = .pointer a' ∧ a'.isNone = a.isNone := by cases hx <;> exact ⟨_, rfl, rfl⟩
      have hys : ∃ a', y' = .pointer a' ∧ a'.isNone = b.isNone := by cases hy <;> exact ⟨_, rfl, rfl⟩
      obtain ⟨a', rfl, ha⟩ := hxs
      obtain ⟨b', rfl, hb⟩ := hys
      have hg := eqGuard_ok (P := P) op t ox oy (.pointer a') (.pointer b') (.inl (by simp)) w
      split at hl
      · rename_i hnil
        rw [← ha, ← hb] at hnil
        have hq := equal_ptr (w := w) ht' a' b' hnil
        rw [ha, hb] at hq
        split at hl <;> cases hl
        · exact ⟨by simp [hg, binOp, hq], .bool _⟩
        · exact ⟨by simp [hg, binOp, hq], .bool _⟩
      · cases hl
    · cases hl
  · rename_i a la ca b lb cb
    split at hl
    · rename_i ht
      obtain ⟨e, ht'⟩ := kind_slice ht
      have hxs : ∃ a' l c, x' = .slice a' l c ∧ a'.isNone = a.isNone := by cases hx <;> exact ⟨_, _, _, rfl, rfl⟩
      have hys : ∃ a' l c, y' = .slice a' l c ∧ a'.isNone = b.isNone := by cases hy <;> exact ⟨_, _, _, rfl, rfl⟩
      obtain ⟨a', l, c, rfl, ha⟩ := hxs
      obtain ⟨b', l', c', rfl, hb⟩ := hys
      have hg := eqGuard_ok (P := P) op t ox oy (.slice a' l c) (.slice b' l' c') (.inl (by simp)) w
      split at hl
      · rename_i hnil
        rw [← ha, ← hb] at hnil
        have hq := equal_slice (w := w) ht' a' b' l c l' c' hnil
        rw [ha, hb] at hq
        split at hl <;> cases hl
        · exact ⟨by simp [hg, binOp, hq], .bool _⟩
        · exact ⟨by simp [hg, binOp, hq], .bool _⟩
      · cases hl
    · cases hl
  · split at hl
    · rename_i ht
      obtain ⟨e, e1, e2, ht'⟩ := kind_func ht
      cases hx; cases hy
      have hq := fun f a b => equal_func (w := w) ht' f a b
      have hg := fun f a => eqGuard_ok (P := P) op t ox oy .nilFunc f (.inl (by simp)) a
      split at hl <;> cases hl
      · exact ⟨by simp [hg, binOp, hq], .bool _⟩
      · exact ⟨by simp [hg, binOp, hq], .bool _⟩
    · cases hl
  · split at hl
    · rename_i ht
      obtain ⟨e, e1, e2, ht'⟩ := kind_func ht
      cases hx; cases hy
      have hq := fun f a b => equal_func (w := w) ht' f a b
      have hg := fun f a => eqGuard_ok (P := P) op t ox oy f .nilFunc (.inr (by simp)) a
      split at hl <;> cases hl
      · exact ⟨by simp [hg, binOp, hq], .bool _⟩
      · exact ⟨by simp [hg, binOp, hq], .bool _⟩
    · cases hl
  · split at hl
    · rename_i ht
      obtain ⟨e, e1, e2, ht'⟩ := kind_func ht
      cases hx; cases hy
      have hq := fun f a b => equal_func (w := w) ht' f a b
      have hg := fun f a => eqGuard_ok (P := P) op t ox oy f .nilFunc (.inr (by simp)) a
      split at hl <;> cases hl
      · exact ⟨by simp [hg, binOp, (hq (.func 0) #[] #[]).2.2], .bool _⟩
      · exact ⟨by simp [hg, binOp, (hq (.func 0) #[] #[]).2.2], .bool _⟩
    · cases hl
  · split at hl
    · rename_i ht
      obtain ⟨e, ht'⟩ := kind_interface ht
      cases hx; cases hy
      have hq := fun u v => equal_iface (w := w) ht' u v
      have hg := fun f v a => eqGuard_ok (P := P) op t ox oy .nilIface (.iface f v) (.inr (by simp)) a
      split at hl <;> cases hl
      · exact ⟨by simp [hg, binOp, hq], .bool _⟩
      · exact ⟨by simp [hg, binOp, hq], .bool _⟩
    · cases hl
  · split at hl
    · rename_i ht
      obtain ⟨e, ht'⟩ := kind_interface ht
      cases hx; cases hy
      have hq := fun u v => equal_iface (w := w) ht' u v
      have hg := fun f v a => eqGuard_ok (P := P) op t ox oy (.iface f v) .nilIface (.inl (by simp)) a
      split at hl <;> cases hl
      · exact ⟨by simp [hg, binOp, hq], .bool _⟩
      · exact ⟨by simp [hg, binOp, hq], .bool _⟩
    · cases hl
  · cases hl

theorem sim_unary {op : UnOp} {x u x' : Value} (hl : hunary op x = some u) (hx : VRel μ x x') : (Op.unary op x').run P w = .ok u w ∧ VRel μ u u := by
  unfold hunary at hl
  split at hl
  · cases hx; cases hl; exact ⟨by simp [Op.unary, Op.intArith], .int _ _⟩
  · cases hx; cases hl; exact ⟨by simp [Op.unary], .bool _⟩
  · cases hl

end Go.HL
