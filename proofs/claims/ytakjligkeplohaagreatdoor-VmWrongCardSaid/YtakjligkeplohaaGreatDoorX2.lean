/-
  VmWrong, run inside the kernel: for any two numbers, of which the rests alone are looked at.
-/
import Derived.Test.YtakjligkeplohaaGreatDoorX1
namespace Go.HL
open Go.Proofs Go.RowKit
set_option maxRecDepth 1000000
set_option linter.unusedSimpArgs false
set_option linter.unusedVariables false

noncomputable def wFn : Func := match Tryz.prog.funcs[4]? with | some fn => fn | none => default
noncomputable def wBody : Code := match wFn.body with | some c => c | none => .skip
theorem wFn_eq : Tryz.prog.funcs[4]? = some wFn := by kernel_rfl
theorem wBody_eq : wFn.body = some wBody := by kernel_rfl
noncomputable def wSz : Nat := wFn.ntmps
/-- The pieces. -/
noncomputable def wA : List Code := (splitC 4 wBody).1
noncomputable def wB : Code := (splitC 1 (splitC 4 wBody).2).1.headD .skip
noncomputable def wC : List Code := (splitC 11 (splitC 1 (splitC 4 wBody).2).2).1
noncomputable def wD : Code := (splitC 1 (splitC 11 (splitC 1 (splitC 4 wBody).2).2).2).1.headD .skip
noncomputable def wE : Code := (splitC 1 (splitC 11 (splitC 1 (splitC 4 wBody).2).2).2).2
theorem wB_one : (splitC 1 (splitC 4 wBody).2).1 = [wB] := by kernel_rfl
theorem wD_one : (splitC 1 (splitC 11 (splitC 1 (splitC 4 wBody).2).2).2).1 = [wD] := by kernel_rfl
theorem wBody_split : wBody = seqs wA (.seq wB (seqs wC (.seq wD wE))) := by
  have h1 := splitC_eq 4 wBody
  have h2 := splitC_eq 1 (splitC 4 wBody).2
  have h3 := splitC_eq 11 (splitC 1 (splitC 4 wBody).2).2
  have h4 := splitC_eq 1 (splitC 11 (splitC 1 (splitC 4 wBody).2).2).2
  rw [wB_one] at h2
  rw [wD_one] at h4
  unfold wA wC wE
  rw [← h4] at h3
  rw [← h3] at h2
  rw [← h2] at h1
  exact h1.symm
def rowB : List Oper := [Go.Oper.mk (Option.some 30) (Go.Op.move (Go.Operand.tmp 0)) 5 "law.go:598" #[] Option.none,
  Go.Oper.mk (Option.some 31) (Go.Op.convert 5 3 (Go.Operand.tmp 30)) 3 "law.go:598" #[Go.Edge.mk 0 Go.Ground.data] Option.none,
  Go.Oper.mk (Option.some 32) (Go.Op.move (Go.Operand.tmp 6)) 26 "law.go:598" #[] Option.none,
  Go.Oper.mk (Option.some 33) (Go.Op.call (Go.Call.mk (Go.Callee.builtin Go.Builtin.len) #[Go.Operand.tmp 32] #[26])) 3 "law.go:598" #[Go.Edge.mk 2 Go.Ground.data] Option.none,
  Go.Oper.mk (Option.some 34) (Go.Op.binOp Go.BinOp.rem 3 (Go.Operand.tmp 31) (Go.Operand.tmp 33) 3) 3 "law.go:598" #[Go.Edge.mk 1 Go.Ground.data, Go.Edge.mk 3 Go.Ground.data] Option.none,
  Go.Oper.mk (Option.some 8) (Go.Op.assign (Go.Operand.tmp 34)) 3 "law.go:598" #[Go.Edge.mk 4 Go.Ground.data, Go.Edge.mk 0 Go.Ground.phase, Go.Edge.mk 1 Go.Ground.phase, Go.Edge.mk 2 Go.Ground.phase, Go.Edge.mk 3 Go.Ground.phase, Go.Edge.mk 4 Go.Ground.phase] Option.none]
def rowD : List Oper := [Go.Oper.mk (Option.some 103) (Go.Op.move (Go.Operand.tmp 1)) 5 "law.go:618" #[] Option.none,
  Go.Oper.mk (Option.some 104) (Go.Op.binOp Go.BinOp.rem 5 (Go.Operand.tmp 103) (Go.Operand.const (Go.Value.int Go.IntKind.u8 4)) 5) 5 "law.go:618" #[Go.Edge.mk 0 Go.Ground.data] Option.none,
  Go.Oper.mk (Option.some 105) (Go.Op.makeSlice 45 (Go.Operand.tmp 104) (Go.Operand.tmp 104)) 45 "law.go:618" #[Go.Edge.mk 1 Go.Ground.data, Go.Edge.mk 1 Go.Ground.data] Option.none,
  Go.Oper.mk (Option.some 22) (Go.Op.assign (Go.Operand.tmp 105)) 45 "law.go:618" #[Go.Edge.mk 2 Go.Ground.data, Go.Edge.mk 0 Go.Ground.phase, Go.Edge.mk 1 Go.Ground.phase, Go.Edge.mk 2 Go.Ground.phase] Option.none]
theorem wB_eq : wB = .region 4 rowB.toArray false := by kernel_rfl
theorem wD_eq : wD = .region 20 rowD.toArray false := by kernel_rfl

/-- The frame at its head. -/
noncomputable def wFr0 (w m : Nat) : Tr Value := (Tr.nil.ins (some (.int .u8 (.ofNat w))) (path 0)).ins (some (.int .u8 (.ofNat m))) (path 1)
noncomputable def wX0 (w m : Nat) : KX := krun Tryz.prog wSz call2 100000 wA (wFr0 w m) 0 .nil
noncomputable def put1 (fr : Tr Value) (t : Nat) (v : Value) : Tr Value := fr.ins (some v) (path t)
noncomputable def wFrB (w k : Nat) (fr : Tr Value) : Tr Value :=
  put1 (put1 (put1 (put1 (put1 (put1 fr 30 (.int .u8 (.ofNat w))) 31 (.int .i64 (.ofNat w))) 32 (.slice (some ⟨0, 0, none⟩) 9 9)) 33 (.int .i64 (.ofNat 9))) 34 (.int .i64 (.ofNat k))) 8 (.int .i64 (.ofNat k))
noncomputable def wX1 (k w m : Nat) : KX := KX.rec .bad (fun _ fr n h => krun Tryz.prog wSz call2 100000 wC (wFrB w k fr) n h) (wX0 w m)
noncomputable def wFrD (m j : Nat) (fr : Tr Value) (n : Nat) : Tr Value :=
  put1 (put1 (put1 (put1 fr 103 (.int .u8 (.ofNat m))) 104 (.int .u8 (.ofNat j))) 105 (.slice (some ⟨n, 0, none⟩) j j)) 22 (.slice (some ⟨n, 0, none⟩) j j)
noncomputable def wCells (j : Nat) : List Value := List.replicate j (.int .u64 0)
noncomputable def wEnd (m j : Nat) (fr : Tr Value) (n : Nat) (h : Tr HObj) : Bool :=
  comesTo (kfin Tryz.prog wFn.results.toList ((kcodeB Tryz.prog wSz wE).on fun g => g call2 100000 (wFrD m j fr n) (Nat.succ n) (h.ins (some (.cells (wCells j) true)) (path n)))) (.bool true)
noncomputable def slotX (x : KX) (t : Nat) : Option Value := KX.rec none (fun _ fr _ _ => fr.walk (path t)) x
noncomputable def wChk (k w m : Nat) : Option Value × Option Value × Option Value × Bool :=
  (slotX (wX0 w m) 0, slotX (wX0 w m) 6, slotX (wX1 k w m) 1,
    KX.rec false (fun _ fr n h => placed n && wEnd m 0 fr n h && wEnd m 1 fr n h && wEnd m 2 fr n h && wEnd m 3 fr n h) (wX1 k w m))
def wGood (w m : Nat) : Option Value × Option Value × Option Value × Bool := (some (.int .u8 (.ofNat w)), some (.slice (some ⟨0, 0, none⟩) 9 9), some (.int .u8 (.ofNat m)), true)
end Go.HL
