/-
  Joined: X1, L2.
-/
import Derived.Test.YtakjligkeplohaaGreatDoorPFK13
import Derived.Test.YtakjligkeplohaaGreatDoorProg
import Derived.KernelRfl
set_option linter.unusedVariables false
set_option linter.unusedSimpArgs false
/-
  Runs inside the kernel: the program's drawn rows are walked as they may be; the names of the language, by the program; the document's example of layer 13.
-/
namespace Go.HL
open Go.Proofs
set_option maxRecDepth 1000000
theorem ord_all : allOrd Tryz.prog Tryz.prog.funcs.toList = true := by kernel_rfl
theorem hOrd : AllOrd Tryz.prog := allOrd_of ord_all
def primTab : OrcTab := [
  (99, [.string ⟨⟨[43]⟩⟩], .tuple #[.int .i64 1, .int .i64 2, .bool true]),
  (99, [.string ⟨⟨[45]⟩⟩], .tuple #[.int .i64 2, .int .i64 2, .bool true]),
  (99, [.string ⟨⟨[42]⟩⟩], .tuple #[.int .i64 3, .int .i64 2, .bool true]),
  (99, [.string ⟨⟨[113, 117, 111, 116, 105, 101, 110, 116]⟩⟩], .tuple #[.int .i64 4, .int .i64 2, .bool true]),
  (99, [.string ⟨⟨[114, 101, 109, 97, 105, 110, 100, 101, 114]⟩⟩], .tuple #[.int .i64 5, .int .i64 2, .bool true]),
  (99, [.string ⟨⟨[60]⟩⟩], .tuple #[.int .i64 6, .int .i64 2, .bool true]),
  (99, [.string ⟨⟨[61]⟩⟩], .tuple #[.int .i64 7, .int .i64 2, .bool true]),
  (99, [.string ⟨⟨[101, 113, 63]⟩⟩], .tuple #[.int .i64 8, .int .i64 2, .bool true]),
  (99, [.string ⟨⟨[110, 111, 116]⟩⟩], .tuple #[.int .i64 9, .int .i64 1, .bool true]),
  (99, [.string ⟨⟨[110, 117, 108, 108, 63]⟩⟩], .tuple #[.int .i64 10, .int .i64 1, .bool true]),
  (99, [.string ⟨⟨[112, 97, 105, 114, 63]⟩⟩], .tuple #[.int .i64 11, .int .i64 1, .bool true]),
  (99, [.string ⟨⟨[99, 111, 110, 115]⟩⟩], .tuple #[.int .i64 12, .int .i64 2, .bool true]),
  (99, [.string ⟨⟨[99, 97, 114]⟩⟩], .tuple #[.int .i64 13, .int .i64 1, .bool true]),
  (99, [.string ⟨⟨[99, 100, 114]⟩⟩], .tuple #[.int .i64 14, .int .i64 1, .bool true]),
  (99, [.string ⟨⟨[110, 117, 109, 98, 101, 114, 63]⟩⟩], .tuple #[.int .i64 15, .int .i64 1, .bool true]),
  (99, [.string ⟨⟨[115, 121, 109, 98, 111, 108, 63]⟩⟩], .tuple #[.int .i64 16, .int .i64 1, .bool true]),
  (99, [.string ⟨⟨[112, 114, 111, 99, 101, 100, 117, 114, 101, 63]⟩⟩], .tuple #[.int .i64 17, .int .i64 1, .bool true]),
  (99, [.string ⟨⟨[99, 97, 108, 108, 47, 99, 99]⟩⟩], .tuple #[.int .i64 18, .int .i64 1, .bool true]),
  (99, [.string ⟨⟨[111, 117, 116]⟩⟩], .tuple #[.int .i64 19, .int .i64 1, .bool true]),
  (99, [.string ⟨⟨[115, 112, 97, 119, 110]⟩⟩], .tuple #[.int .i64 20, .int .i64 1, .bool true]),
  (99, [.string ⟨⟨[109, 105, 99, 114, 111]⟩⟩], .tuple #[.int .i64 21, .int .i64 1, .bool true]),
  (99, [.string ⟨⟨[97, 102, 116, 101, 114]⟩⟩], .tuple #[.int .i64 22, .int .i64 2, .bool true]),
  (99, [.string ⟨⟨[99, 97, 110, 99, 101, 108]⟩⟩], .tuple #[.int .i64 23, .int .i64 1, .bool true]),
  (99, [.string ⟨⟨[112, 114, 111, 109, 105, 115, 101]⟩⟩], .tuple #[.int .i64 24, .int .i64 0, .bool true]),
  (99, [.string ⟨⟨[115, 101, 116, 116, 108, 101]⟩⟩], .tuple #[.int .i64 25, .int .i64 2, .bool true]),
  (99, [.string ⟨⟨[116, 104, 101, 110]⟩⟩], .tuple #[.int .i64 26, .int .i64 2, .bool true]),
  (99, [.string ⟨⟨[115, 116, 114, 101, 97, 109]⟩⟩], .tuple #[.int .i64 27, .int .i64 1, .bool true]),
  (99, [.string ⟨⟨[119, 114, 105, 116, 101]⟩⟩], .tuple #[.int .i64 28, .int .i64 2, .bool true]),
  (99, [.string ⟨⟨[114, 101, 97, 100]⟩⟩], .tuple #[.int .i64 29, .int .i64 1, .bool true]),
  (99, [.string ⟨⟨[116, 105, 109, 101]⟩⟩], .tuple #[.int .i64 30, .int .i64 0, .bool true])]
noncomputable def call0 : KCall := kcallO Tryz.prog noOrc 100000 200
theorem call0_ok : CallOk Tryz.prog call0 := kcallO_ok hOrd noOrc_ok 100000 200
theorem primTab_flat : primTab.all (fun e => e.2.1.all flat1 && flat e.2.2) = true := by kernel_rfl
theorem primTab_run : primTab.all (fun e => comesTo (call0 e.1 e.2.1 0 .nil) e.2.2) = true := by kernel_rfl
noncomputable def call1 : KCall := kcallO Tryz.prog (orcOf primTab) 100000 200
theorem call1_ok : CallOk Tryz.prog call1 := kcallO_ok hOrd (orcOf_ok call0_ok primTab_flat primTab_run) 100000 200
def shownTab : OrcTab := [(5, [], .bool true)]
theorem shownTab_flat : shownTab.all (fun e => e.2.1.all flat1 && flat e.2.2) = true := by kernel_rfl
theorem shownTab_run : shownTab.all (fun e => comesTo (call1 e.1 e.2.1 0 .nil) e.2.2) = true := by kernel_rfl
/-- Calls, with both tables at hand. -/
noncomputable def orc2 : KOrc := orcAnd (orcOf shownTab) (orcOf primTab)
noncomputable def call2 : KCall := kcallO Tryz.prog orc2 100000 2000
theorem call2_ok : CallOk Tryz.prog call2 := kcallO_ok hOrd (orcAnd_ok (orcOf_ok call1_ok shownTab_flat shownTab_run) (orcOf_ok call0_ok primTab_flat primTab_run)) 100000 2000
end Go.HL
/-
  VmFuel, run inside the kernel up to its loop: pieces.
-/
namespace Go.HL
open Go.Proofs Go.RowKit
set_option maxRecDepth 1000000
set_option linter.unusedSimpArgs false
set_option linter.unusedVariables false
noncomputable def fuFn : Func := match Tryz.prog.funcs[3]? with | some fn => fn | none => default
noncomputable def fuBody : Code := match fuFn.body with | some c => c | none => .skip
/-- From the text to the machine that has begun. -/
noncomputable def fuA : List Code := (splitC 6 (splitC 3 fuBody).2).1
noncomputable def fuFr (n k : Nat) : Tr Value := ((Tr.nil.ins (some (.bool true)) (path 5)).ins (some (.int .i64 (.ofNat n))) (path 6)).ins (some (.int .i64 (.ofNat k))) (path 7)
noncomputable def fuX (n k : Nat) : KX := krun Tryz.prog 113 call2 100000 fuA (fuFr n k) 0 .nil
theorem fuA_ord : fuA.all (drawnOk Tryz.prog) = true := by kernel_rfl
noncomputable def slotX (x : KX) (t : Nat) : Option Value := KX.rec none (fun _ fr _ _ => fr.walk (path t)) x
noncomputable def heapX (x : KX) (b : Nat) : Option HObj := KX.rec none (fun _ _ _ h => h.walk (path b)) x
noncomputable def nextX (x : KX) : Nat := KX.rec 0 (fun _ _ n _ => n) x
end Go.HL
