/-
  No cell of these rows narrows 'for every input' (looked for: loops, veiled, ifaces, maps, wideKeys, modest, calm, conditions, laid).
  DERIVED. THE GIVEN ROWS OF THIS SEAT. 7 by the template 'for every input the law returns true; each argument reads behind the call as it read before'; 0 by the template 'total and deterministic' (their statements: YtkflilieljojfaaTotals.lean).
  GIVEN WITH THE SEED: the statements are not yours to turn. If you find one false, say at which input.
  Laid BY PROGRAM, IN A SANDBOX (cutbox-rows.mjs): the forced cells as the released guide's own fill.sh prints them over the translation 7face433d417ae73… (all of the seat's roots in one cut). By AI agents, Wed Nov 11 2026. No macro, syntax, notation, axiom, sorry.
-/
import Derived.Test.YtkflilieljojfaaChecked
import GoSem.Claim
import GoSem.ClaimJoined
import GoSem.ClaimMapViews
import Derived.JoinedTies
import Derived.KernelRfl
namespace Go.Proofs.Ytkflilieljojfaa
/- THE CELL 'sum', in the pinned program and in every row, IS THE sha256 OF THE DUMP (.gsa) THAT YtkflilieljojfaaProg.lean LOADS. Nothing in Lean hashes anything: it is a label: what it is worth is what the hold of that sum in a sandbox is worth. -/
noncomputable def Try.pinned : Pinned := { name := "ytkflilieljojfaa", sum := "7face433d417ae734b9f07ba4d1ee745083305732be2ff5fbc375b449042e3e3", checked := Try.checked }
namespace Rows
def none {H : Type} : Left H := { results := [], args := [] }

/-- 'eddywheellaw03.MoveLives': WHATEVER THE INPUT: true; the input reads as it did. -/
def moveLivesSpec : ChangeSpec := { name := "moveLives", fn := fun _ => fun
  | [d] => { results := [.lit (.bool true)], args := [d] }
  | _ => none }
def moveLivesRow : OpenClaim := { program := "ytkflilieljojfaa", sum := "7face433d417ae734b9f07ba4d1ee745083305732be2ff5fbc375b449042e3e3", func := "eddywheel/eddywheellaw03.MoveLives", spec := "moveLives", apart := false }
def MoveLivesSaid : Prop := moveLivesRow.holds Try.pinned (OpenSpec.ofChange moveLivesSpec)

/-- ITS FALSE NEIGHBOUR: 'it returns false'. Refute it at one input. -/
def moveLivesWrong : ChangeSpec := { name := "moveLives", fn := fun _ => fun
  | [d] => { results := [.lit (.bool false)], args := [d] }
  | _ => none }
def MoveLivesWrongFalsely : Prop := moveLivesRow.holds Try.pinned (OpenSpec.ofChange moveLivesWrong)

/-- 'eddywheellaw03.MoveSame': WHATEVER THE INPUT: true; the input reads as it did. -/
def moveSameSpec : ChangeSpec := { name := "moveSame", fn := fun _ => fun
  | [d] => { results := [.lit (.bool true)], args := [d] }
  | _ => none }
def moveSameRow : OpenClaim := { program := "ytkflilieljojfaa", sum := "7face433d417ae734b9f07ba4d1ee745083305732be2ff5fbc375b449042e3e3", func := "eddywheel/eddywheellaw03.MoveSame", spec := "moveSame", apart := false }
def MoveSameSaid : Prop := moveSameRow.holds Try.pinned (OpenSpec.ofChange moveSameSpec)

/-- ITS FALSE NEIGHBOUR: 'it returns false'. Refute it at one input. -/
def moveSameWrong : ChangeSpec := { name := "moveSame", fn := fun _ => fun
  | [d] => { results := [.lit (.bool false)], args := [d] }
  | _ => none }
def MoveSameWrongFalsely : Prop := moveSameRow.holds Try.pinned (OpenSpec.ofChange moveSameWrong)

/-- 'eddywheellaw03.MoveTwice': WHATEVER THE INPUT: true; the input reads as it did. -/
def moveTwiceSpec : ChangeSpec := { name := "moveTwice", fn := fun _ => fun
  | [d] => { results := [.lit (.bool true)], args := [d] }
  | _ => none }
def moveTwiceRow : OpenClaim := { program := "ytkflilieljojfaa", sum := "7face433d417ae734b9f07ba4d1ee745083305732be2ff5fbc375b449042e3e3", func := "eddywheel/eddywheellaw03.MoveTwice", spec := "moveTwice", apart := false }
def MoveTwiceSaid : Prop := moveTwiceRow.holds Try.pinned (OpenSpec.ofChange moveTwiceSpec)

/-- ITS FALSE NEIGHBOUR: 'it returns false'. Refute it at one input. -/
def moveTwiceWrong : ChangeSpec := { name := "moveTwice", fn := fun _ => fun
  | [d] => { results := [.lit (.bool false)], args := [d] }
  | _ => none }
def MoveTwiceWrongFalsely : Prop := moveTwiceRow.holds Try.pinned (OpenSpec.ofChange moveTwiceWrong)

/-- 'eddywheellaw03.MoveNone': WHATEVER THE INPUT: true; the input reads as it did. -/
def moveNoneSpec : ChangeSpec := { name := "moveNone", fn := fun _ => fun
  | [d1, d2] => { results := [.lit (.bool true)], args := [d1, d2] }
  | _ => none }
def moveNoneRow : OpenClaim := { program := "ytkflilieljojfaa", sum := "7face433d417ae734b9f07ba4d1ee745083305732be2ff5fbc375b449042e3e3", func := "eddywheel/eddywheellaw03.MoveNone", spec := "moveNone", apart := false }
def MoveNoneSaid : Prop := moveNoneRow.holds Try.pinned (OpenSpec.ofChange moveNoneSpec)

/-- ITS FALSE NEIGHBOUR: 'it returns false'. Refute it at one input. -/
def moveNoneWrong : ChangeSpec := { name := "moveNone", fn := fun _ => fun
  | [d1, d2] => { results := [.lit (.bool false)], args := [d1, d2] }
  | _ => none }
def MoveNoneWrongFalsely : Prop := moveNoneRow.holds Try.pinned (OpenSpec.ofChange moveNoneWrong)

/-- 'eddywheellaw03.MoveChains': WHATEVER THE INPUT: true; the input reads as it did. -/
def moveChainsSpec : ChangeSpec := { name := "moveChains", fn := fun _ => fun
  | [d1, d2, d3] => { results := [.lit (.bool true)], args := [d1, d2, d3] }
  | _ => none }
def moveChainsRow : OpenClaim := { program := "ytkflilieljojfaa", sum := "7face433d417ae734b9f07ba4d1ee745083305732be2ff5fbc375b449042e3e3", func := "eddywheel/eddywheellaw03.MoveChains", spec := "moveChains", apart := false }
def MoveChainsSaid : Prop := moveChainsRow.holds Try.pinned (OpenSpec.ofChange moveChainsSpec)

/-- ITS FALSE NEIGHBOUR: 'it returns false'. Refute it at one input. -/
def moveChainsWrong : ChangeSpec := { name := "moveChains", fn := fun _ => fun
  | [d1, d2, d3] => { results := [.lit (.bool false)], args := [d1, d2, d3] }
  | _ => none }
def MoveChainsWrongFalsely : Prop := moveChainsRow.holds Try.pinned (OpenSpec.ofChange moveChainsWrong)

/-- 'eddywheellaw03.MoveMore': WHATEVER THE INPUT: true; the input reads as it did. -/
def moveMoreSpec : ChangeSpec := { name := "moveMore", fn := fun _ => fun
  | [d1, d2] => { results := [.lit (.bool true)], args := [d1, d2] }
  | _ => none }
def moveMoreRow : OpenClaim := { program := "ytkflilieljojfaa", sum := "7face433d417ae734b9f07ba4d1ee745083305732be2ff5fbc375b449042e3e3", func := "eddywheel/eddywheellaw03.MoveMore", spec := "moveMore", apart := false }
def MoveMoreSaid : Prop := moveMoreRow.holds Try.pinned (OpenSpec.ofChange moveMoreSpec)

/-- ITS FALSE NEIGHBOUR: 'it returns false'. Refute it at one input. -/
def moveMoreWrong : ChangeSpec := { name := "moveMore", fn := fun _ => fun
  | [d1, d2] => { results := [.lit (.bool false)], args := [d1, d2] }
  | _ => none }
def MoveMoreWrongFalsely : Prop := moveMoreRow.holds Try.pinned (OpenSpec.ofChange moveMoreWrong)

/-- 'eddywheellaw03.MoveGoes': WHATEVER THE INPUT: true; the input reads as it did. -/
def moveGoesSpec : ChangeSpec := { name := "moveGoes", fn := fun _ => fun
  | [d1, d2] => { results := [.lit (.bool true)], args := [d1, d2] }
  | _ => none }
def moveGoesRow : OpenClaim := { program := "ytkflilieljojfaa", sum := "7face433d417ae734b9f07ba4d1ee745083305732be2ff5fbc375b449042e3e3", func := "eddywheel/eddywheellaw03.MoveGoes", spec := "moveGoes", apart := false }
def MoveGoesSaid : Prop := moveGoesRow.holds Try.pinned (OpenSpec.ofChange moveGoesSpec)

/-- ITS FALSE NEIGHBOUR: 'it returns false'. Refute it at one input. -/
def moveGoesWrong : ChangeSpec := { name := "moveGoes", fn := fun _ => fun
  | [d1, d2] => { results := [.lit (.bool false)], args := [d1, d2] }
  | _ => none }
def MoveGoesWrongFalsely : Prop := moveGoesRow.holds Try.pinned (OpenSpec.ofChange moveGoesWrong)

/- THE SECOND FORM. 'bulk': how many values and letters a reading holds, each counted each time it is reached (what is shared counts as often as it is met; a slice's spare places count too). A statement '..UptoSaid' is the law's where the arguments, and the package variables that the reading takes, are together of bulk at most 1048576: NARROWER than '..Said'. Prove '..Said' where nothing that the law and all that it calls make is longer than what came in: it says more and counts as full. Else prove '..UptoSaid'. A law counts once. -/
mutual
def uptoBulk {H : Type} : DataW H → Nat
  | .lit (.string bytes) => bytes.length + 1
  | .lit _ => 1
  | .nil => 1
  | .ptr d => uptoBulk d + 1
  | .slice elems spare => uptoBulkAll elems + uptoBulkAll spare + 1
  | .agg parts => uptoBulkAll parts + 1
  | .iface _ d => uptoBulk d + 1
  | .map entries => uptoBulkEntries entries + 1
  | .held _ => 1
def uptoBulkAll {H : Type} : List (DataW H) → Nat
  | [] => 0
  | d :: r => uptoBulk d + uptoBulkAll r
def uptoBulkEntries {H : Type} : List (Lit × DataW H) → Nat
  | [] => 0
  | x :: r => uptoBulkEntry x + uptoBulkEntries r
def uptoBulkEntry {H : Type} : Lit × DataW H → Nat
  | (.string bytes, d) => bytes.length + uptoBulk d + 1
  | (_, d) => uptoBulk d + 1
 end
def uptoSmall : (H : Type) → List (DataW H) → Bool := fun _ ds => decide (uptoBulkAll ds ≤ 1048576)
def OpenSpec.upto (s : _root_.Go.ChangeSpec) : _root_.Go.OpenSpec := { _root_.Go.OpenSpec.ofChange s with cond := some uptoSmall }

/-- 'eddywheellaw03.MoveLives', WHERE WHAT IT READS IS OF BULK AT MOST 1048576: true; the input reads as it did. -/
def moveLivesUptoRow : OpenClaim := { program := "ytkflilieljojfaa", sum := "7face433d417ae734b9f07ba4d1ee745083305732be2ff5fbc375b449042e3e3", func := "eddywheel/eddywheellaw03.MoveLives", spec := "moveLives", apart := false, narrowed := true }
def MoveLivesUptoSaid : Prop := moveLivesUptoRow.holds Try.pinned (OpenSpec.upto moveLivesSpec)

/-- 'eddywheellaw03.MoveSame', WHERE WHAT IT READS IS OF BULK AT MOST 1048576: true; the input reads as it did. -/
def moveSameUptoRow : OpenClaim := { program := "ytkflilieljojfaa", sum := "7face433d417ae734b9f07ba4d1ee745083305732be2ff5fbc375b449042e3e3", func := "eddywheel/eddywheellaw03.MoveSame", spec := "moveSame", apart := false, narrowed := true }
def MoveSameUptoSaid : Prop := moveSameUptoRow.holds Try.pinned (OpenSpec.upto moveSameSpec)

/-- 'eddywheellaw03.MoveTwice', WHERE WHAT IT READS IS OF BULK AT MOST 1048576: true; the input reads as it did. -/
def moveTwiceUptoRow : OpenClaim := { program := "ytkflilieljojfaa", sum := "7face433d417ae734b9f07ba4d1ee745083305732be2ff5fbc375b449042e3e3", func := "eddywheel/eddywheellaw03.MoveTwice", spec := "moveTwice", apart := false, narrowed := true }
def MoveTwiceUptoSaid : Prop := moveTwiceUptoRow.holds Try.pinned (OpenSpec.upto moveTwiceSpec)

/-- 'eddywheellaw03.MoveNone', WHERE WHAT IT READS IS OF BULK AT MOST 1048576: true; the input reads as it did. -/
def moveNoneUptoRow : OpenClaim := { program := "ytkflilieljojfaa", sum := "7face433d417ae734b9f07ba4d1ee745083305732be2ff5fbc375b449042e3e3", func := "eddywheel/eddywheellaw03.MoveNone", spec := "moveNone", apart := false, narrowed := true }
def MoveNoneUptoSaid : Prop := moveNoneUptoRow.holds Try.pinned (OpenSpec.upto moveNoneSpec)

/-- 'eddywheellaw03.MoveChains', WHERE WHAT IT READS IS OF BULK AT MOST 1048576: true; the input reads as it did. -/
def moveChainsUptoRow : OpenClaim := { program := "ytkflilieljojfaa", sum := "7face433d417ae734b9f07ba4d1ee745083305732be2ff5fbc375b449042e3e3", func := "eddywheel/eddywheellaw03.MoveChains", spec := "moveChains", apart := false, narrowed := true }
def MoveChainsUptoSaid : Prop := moveChainsUptoRow.holds Try.pinned (OpenSpec.upto moveChainsSpec)

/-- 'eddywheellaw03.MoveMore', WHERE WHAT IT READS IS OF BULK AT MOST 1048576: true; the input reads as it did. -/
def moveMoreUptoRow : OpenClaim := { program := "ytkflilieljojfaa", sum := "7face433d417ae734b9f07ba4d1ee745083305732be2ff5fbc375b449042e3e3", func := "eddywheel/eddywheellaw03.MoveMore", spec := "moveMore", apart := false, narrowed := true }
def MoveMoreUptoSaid : Prop := moveMoreUptoRow.holds Try.pinned (OpenSpec.upto moveMoreSpec)

/-- 'eddywheellaw03.MoveGoes', WHERE WHAT IT READS IS OF BULK AT MOST 1048576: true; the input reads as it did. -/
def moveGoesUptoRow : OpenClaim := { program := "ytkflilieljojfaa", sum := "7face433d417ae734b9f07ba4d1ee745083305732be2ff5fbc375b449042e3e3", func := "eddywheel/eddywheellaw03.MoveGoes", spec := "moveGoes", apart := false, narrowed := true }
def MoveGoesUptoSaid : Prop := moveGoesUptoRow.holds Try.pinned (OpenSpec.upto moveGoesSpec)

end Rows
end Go.Proofs.Ytkflilieljojfaa
