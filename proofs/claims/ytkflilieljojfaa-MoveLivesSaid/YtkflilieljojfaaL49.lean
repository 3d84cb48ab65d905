/-
  Joined: R0.
-/
import Derived.Test.YtkflilieljojfaaL48
import Derived.Test.YtkflilieljojfaaRows
/-
  What the final rows share.
-/
namespace Go.Proofs.Ytkflilieljojfaa
open Go.HL Go.RowKit Go.Proofs
set_option maxHeartbeats 4000000
set_option maxRecDepth 100000
theorem Try.own : ownKnob Try.prog.godebug = none := by kernel_rfl
theorem Try.laidOut : laidOutB Try.prog = true := by kernel_rfl
theorem u8_nat {P : Program} {H : HHeap} {t : TypeId} {v : Value} (ht : P.underlying t = some (.int .u8)) (h : harg1 P H t v) : ∃ n : Nat, v = .int .u8 (n : Int) ∧ n < 256 := by
  obtain ⟨m, hs, h1, h2⟩ := h
  rw [ht] at h2
  obtain ⟨z, rfl, hz⟩ := harg_int ht h1
  have := bounds_u8 hz
  simp only [List.cons.injEq, and_true] at h2
  exact ⟨z.toNat, by rw [← h2, Int.toNat_of_nonneg this.1], by omega⟩
theorem u64_nat {P : Program} {H : HHeap} {t : TypeId} {v : Value} (ht : P.underlying t = some (.int .u64)) (h : harg1 P H t v) : ∃ n : Nat, v = .int .u64 (n : Int) ∧ n < 18446744073709551616 := by
  obtain ⟨m, hs, h1, h2⟩ := h
  rw [ht] at h2
  obtain ⟨z, rfl, hz⟩ := harg_int ht h1
  have := bounds_u64 hz
  simp only [List.cons.injEq, and_true] at h2
  exact ⟨z.toNat, by rw [← h2, Int.toNat_of_nonneg this.1], by omega⟩
end Go.Proofs.Ytkflilieljojfaa
