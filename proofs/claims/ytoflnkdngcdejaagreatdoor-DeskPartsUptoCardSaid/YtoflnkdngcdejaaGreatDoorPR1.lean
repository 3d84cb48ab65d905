/-
  Runs inside the kernel: the program's drawn rows are walked as they may be; the names of the language, by the program; calls of all functions.
-/
import Derived.Test.YtoflnkdngcdejaaGreatDoorPU7
import Derived.Test.YtoflnkdngcdejaaGreatDoorPU8
import Derived.KernelRfl
set_option linter.unusedVariables false
set_option linter.unusedSimpArgs false
namespace Go.HL
open Go.Proofs
set_option maxRecDepth 1000000
theorem ord_all : allOrd Tryz.prog Tryz.prog.funcs.toList = true := by kernel_rfl
theorem hOrd : AllOrd Tryz.prog := allOrd_of ord_all
def calmF (g : FuncId) : Bool := Nat.beq g 366
theorem calmF_ok (g : FuncId) (h : calmF g = true) : Calm Tryz.prog g := by
  have := Nat.eq_of_beq_eq_true h
  subst this
  exact calm_all
def primTab : OrcTab := [
  (102, [.string ⟨⟨[43]⟩⟩], .tuple #[.int .i64 1, .int .i64 2, .bool true]),
  (102, [.string ⟨⟨[45]⟩⟩], .tuple #[.int .i64 2, .int .i64 2, .bool true]),
  (102, [.string ⟨⟨[42]⟩⟩], .tuple #[.int .i64 3, .int .i64 2, .bool true]),
  (102, [.string ⟨⟨[113, 117, 111, 116, 105, 101, 110, 116]⟩⟩], .tuple #[.int .i64 4, .int .i64 2, .bool true]),
  (102, [.string ⟨⟨[114, 101, 109, 97, 105, 110, 100, 101, 114]⟩⟩], .tuple #[.int .i64 5, .int .i64 2, .bool true]),
  (102, [.string ⟨⟨[60]⟩⟩], .tuple #[.int .i64 6, .int .i64 2, .bool true]),
  (102, [.string ⟨⟨[61]⟩⟩], .tuple #[.int .i64 7, .int .i64 2, .bool true]),
  (102, [.string ⟨⟨[101, 113, 63]⟩⟩], .tuple #[.int .i64 8, .int .i64 2, .bool true]),
  (102, [.string ⟨⟨[110, 111, 116]⟩⟩], .tuple #[.int .i64 9, .int .i64 1, .bool true]),
  (102, [.string ⟨⟨[110, 117, 108, 108, 63]⟩⟩], .tuple #[.int .i64 10, .int .i64 1, .bool true]),
  (102, [.string ⟨⟨[112, 97, 105, 114, 63]⟩⟩], .tuple #[.int .i64 11, .int .i64 1, .bool true]),
  (102, [.string ⟨⟨[99, 111, 110, 115]⟩⟩], .tuple #[.int .i64 12, .int .i64 2, .bool true]),
  (102, [.string ⟨⟨[99, 97, 114]⟩⟩], .tuple #[.int .i64 13, .int .i64 1, .bool true]),
  (102, [.string ⟨⟨[99, 100, 114]⟩⟩], .tuple #[.int .i64 14, .int .i64 1, .bool true]),
  (102, [.string ⟨⟨[110, 117, 109, 98, 101, 114, 63]⟩⟩], .tuple #[.int .i64 15, .int .i64 1, .bool true]),
  (102, [.string ⟨⟨[115, 121, 109, 98, 111, 108, 63]⟩⟩], .tuple #[.int .i64 16, .int .i64 1, .bool true]),
  (102, [.string ⟨⟨[112, 114, 111, 99, 101, 100, 117, 114, 101, 63]⟩⟩], .tuple #[.int .i64 17, .int .i64 1, .bool true]),
  (102, [.string ⟨⟨[99, 97, 108, 108, 47, 99, 99]⟩⟩], .tuple #[.int .i64 18, .int .i64 1, .bool true]),
  (102, [.string ⟨⟨[111, 117, 116]⟩⟩], .tuple #[.int .i64 19, .int .i64 1, .bool true]),
  (102, [.string ⟨⟨[115, 112, 97, 119, 110]⟩⟩], .tuple #[.int .i64 20, .int .i64 1, .bool true]),
  (102, [.string ⟨⟨[109, 105, 99, 114, 111]⟩⟩], .tuple #[.int .i64 21, .int .i64 1, .bool true]),
  (102, [.string ⟨⟨[97, 102, 116, 101, 114]⟩⟩], .tuple #[.int .i64 22, .int .i64 2, .bool true]),
  (102, [.string ⟨⟨[99, 97, 110, 99, 101, 108]⟩⟩], .tuple #[.int .i64 23, .int .i64 1, .bool true]),
  (102, [.string ⟨⟨[112, 114, 111, 109, 105, 115, 101]⟩⟩], .tuple #[.int .i64 24, .int .i64 0, .bool true]),
  (102, [.string ⟨⟨[115, 101, 116, 116, 108, 101]⟩⟩], .tuple #[.int .i64 25, .int .i64 2, .bool true]),
  (102, [.string ⟨⟨[116, 104, 101, 110]⟩⟩], .tuple #[.int .i64 26, .int .i64 2, .bool true]),
  (102, [.string ⟨⟨[115, 116, 114, 101, 97, 109]⟩⟩], .tuple #[.int .i64 27, .int .i64 1, .bool true]),
  (102, [.string ⟨⟨[119, 114, 105, 116, 101]⟩⟩], .tuple #[.int .i64 28, .int .i64 2, .bool true]),
  (102, [.string ⟨⟨[114, 101, 97, 100]⟩⟩], .tuple #[.int .i64 29, .int .i64 1, .bool true]),
  (102, [.string ⟨⟨[116, 105, 109, 101]⟩⟩], .tuple #[.int .i64 30, .int .i64 0, .bool true])]
noncomputable def call0 : KCall := kcallD Tryz.prog calmF orcIdx orcJoin 100000 200
theorem call0_ok : CallOk Tryz.prog call0 := kcallD_ok hOrd calmF_ok orcIdx_ok orcJoin_ok 100000 200
theorem primTab_flat : primTab.all (fun e => e.2.1.all flat1 && flat e.2.2) = true := by kernel_rfl
theorem primTab_run : primTab.all (fun e => comesTo (call0 e.1 e.2.1 0 .nil) e.2.2) = true := by kernel_rfl
noncomputable def call1 : KCall := kcallD Tryz.prog calmF (orcAnd (orcOf primTab) orcIdx) orcJoin 100000 2000
theorem call1_ok : CallOk Tryz.prog call1 := kcallD_ok hOrd calmF_ok (orcAnd_ok (orcOf_ok call0_ok primTab_flat primTab_run) orcIdx_ok) orcJoin_ok 100000 2000
end Go.HL
