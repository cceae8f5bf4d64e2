/-
  No cell of these rows narrows 'for every input' (looked for: loops, veiled, ifaces, maps, wideKeys, modest, calm, conditions, laid).
  DERIVED. THE GIVEN ROWS OF THIS SEAT. 6 by the template 'for every input the law returns true; each argument reads behind the call as it read before'; 0 by the template 'total and deterministic' (their statements: YtfcimpfhfbkgbaaTotals.lean).
  GIVEN WITH THE SEED: the statements are not yours to turn. If you find one false, say at which input.
  Laid BY PROGRAM, IN A SANDBOX (cutbox-rows.mjs): the forced cells as the released guide's own fill.sh prints them over the translation 785e63c0f174367c… (all of the seat's roots in one cut). By AI agents, Wed Nov 11 2026. No macro, syntax, notation, axiom, sorry.
-/
import Derived.Test.YtfcimpfhfbkgbaaChecked
import GoSem.Claim
import GoSem.ClaimJoined
import GoSem.ClaimMapViews
import Derived.JoinedTies
import Derived.KernelRfl
namespace Go.Proofs.Ytfcimpfhfbkgbaa
/- THE CELL 'sum', in the pinned program and in every row, IS THE sha256 OF THE DUMP (.gsa) THAT YtfcimpfhfbkgbaaProg.lean LOADS. Nothing in Lean hashes anything: it is a label: what it is worth is what the hold of that sum in a sandbox is worth. -/
noncomputable def Try.pinned : Pinned := { name := "ytfcimpfhfbkgbaa", sum := "785e63c0f174367c7e7be54e8c6edb4bef510d41941ed048c34108913ac8968f", checked := Try.checked }
namespace Rows
def none {H : Type} : Left H := { results := [], args := [] }

/-- 'redundancylaw09.AluDoes': WHATEVER THE INPUT: true; the input reads as it did. -/
def aluDoesSpec : ChangeSpec := { name := "aluDoes", fn := fun _ => fun
  | [d1, d2, d3, d4] => { results := [.lit (.bool true)], args := [d1, d2, d3, d4] }
  | _ => none }
def aluDoesRow : OpenClaim := { program := "ytfcimpfhfbkgbaa", sum := "785e63c0f174367c7e7be54e8c6edb4bef510d41941ed048c34108913ac8968f", func := "redundancy/redundancylaw09.AluDoes", spec := "aluDoes", apart := false }
def AluDoesSaid : Prop := aluDoesRow.holds Try.pinned (OpenSpec.ofChange aluDoesSpec)

/-- ITS FALSE NEIGHBOUR: 'it returns false'. Refute it at one input. -/
def aluDoesWrong : ChangeSpec := { name := "aluDoes", fn := fun _ => fun
  | [d1, d2, d3, d4] => { results := [.lit (.bool false)], args := [d1, d2, d3, d4] }
  | _ => none }
def AluDoesWrongFalsely : Prop := aluDoesRow.holds Try.pinned (OpenSpec.ofChange aluDoesWrong)

/-- 'redundancylaw09.AluLayouts': WHATEVER THE INPUT: true; the input reads as it did. -/
def aluLayoutsSpec : ChangeSpec := { name := "aluLayouts", fn := fun _ => fun
  | [d1, d2, d3] => { results := [.lit (.bool true)], args := [d1, d2, d3] }
  | _ => none }
def aluLayoutsRow : OpenClaim := { program := "ytfcimpfhfbkgbaa", sum := "785e63c0f174367c7e7be54e8c6edb4bef510d41941ed048c34108913ac8968f", func := "redundancy/redundancylaw09.AluLayouts", spec := "aluLayouts", apart := false }
def AluLayoutsSaid : Prop := aluLayoutsRow.holds Try.pinned (OpenSpec.ofChange aluLayoutsSpec)

/-- ITS FALSE NEIGHBOUR: 'it returns false'. Refute it at one input. -/
def aluLayoutsWrong : ChangeSpec := { name := "aluLayouts", fn := fun _ => fun
  | [d1, d2, d3] => { results := [.lit (.bool false)], args := [d1, d2, d3] }
  | _ => none }
def AluLayoutsWrongFalsely : Prop := aluLayoutsRow.holds Try.pinned (OpenSpec.ofChange aluLayoutsWrong)

/-- 'redundancylaw09.AluPointers': WHATEVER THE INPUT: true; the input reads as it did. -/
def aluPointersSpec : ChangeSpec := { name := "aluPointers", fn := fun _ => fun
  | [d1, d2] => { results := [.lit (.bool true)], args := [d1, d2] }
  | _ => none }
def aluPointersRow : OpenClaim := { program := "ytfcimpfhfbkgbaa", sum := "785e63c0f174367c7e7be54e8c6edb4bef510d41941ed048c34108913ac8968f", func := "redundancy/redundancylaw09.AluPointers", spec := "aluPointers", apart := false }
def AluPointersSaid : Prop := aluPointersRow.holds Try.pinned (OpenSpec.ofChange aluPointersSpec)

/-- ITS FALSE NEIGHBOUR: 'it returns false'. Refute it at one input. -/
def aluPointersWrong : ChangeSpec := { name := "aluPointers", fn := fun _ => fun
  | [d1, d2] => { results := [.lit (.bool false)], args := [d1, d2] }
  | _ => none }
def AluPointersWrongFalsely : Prop := aluPointersRow.holds Try.pinned (OpenSpec.ofChange aluPointersWrong)

/-- 'redundancylaw09.AluNumbers': WHATEVER THE INPUT: true; the input reads as it did. -/
def aluNumbersSpec : ChangeSpec := { name := "aluNumbers", fn := fun _ => fun
  | [d1, d2] => { results := [.lit (.bool true)], args := [d1, d2] }
  | _ => none }
def aluNumbersRow : OpenClaim := { program := "ytfcimpfhfbkgbaa", sum := "785e63c0f174367c7e7be54e8c6edb4bef510d41941ed048c34108913ac8968f", func := "redundancy/redundancylaw09.AluNumbers", spec := "aluNumbers", apart := false }
def AluNumbersSaid : Prop := aluNumbersRow.holds Try.pinned (OpenSpec.ofChange aluNumbersSpec)

/-- ITS FALSE NEIGHBOUR: 'it returns false'. Refute it at one input. -/
def aluNumbersWrong : ChangeSpec := { name := "aluNumbers", fn := fun _ => fun
  | [d1, d2] => { results := [.lit (.bool false)], args := [d1, d2] }
  | _ => none }
def AluNumbersWrongFalsely : Prop := aluNumbersRow.holds Try.pinned (OpenSpec.ofChange aluNumbersWrong)

/-- 'redundancylaw09.AluOrder': WHATEVER THE INPUT: true; the input reads as it did. -/
def aluOrderSpec : ChangeSpec := { name := "aluOrder", fn := fun _ => fun
  | [d1, d2, d3] => { results := [.lit (.bool true)], args := [d1, d2, d3] }
  | _ => none }
def aluOrderRow : OpenClaim := { program := "ytfcimpfhfbkgbaa", sum := "785e63c0f174367c7e7be54e8c6edb4bef510d41941ed048c34108913ac8968f", func := "redundancy/redundancylaw09.AluOrder", spec := "aluOrder", apart := false }
def AluOrderSaid : Prop := aluOrderRow.holds Try.pinned (OpenSpec.ofChange aluOrderSpec)

/-- ITS FALSE NEIGHBOUR: 'it returns false'. Refute it at one input. -/
def aluOrderWrong : ChangeSpec := { name := "aluOrder", fn := fun _ => fun
  | [d1, d2, d3] => { results := [.lit (.bool false)], args := [d1, d2, d3] }
  | _ => none }
def AluOrderWrongFalsely : Prop := aluOrderRow.holds Try.pinned (OpenSpec.ofChange aluOrderWrong)

/-- 'redundancylaw09.AluTraps': WHATEVER THE INPUT: true; the input reads as it did. -/
def aluTrapsSpec : ChangeSpec := { name := "aluTraps", fn := fun _ => fun
  | [d] => { results := [.lit (.bool true)], args := [d] }
  | _ => none }
def aluTrapsRow : OpenClaim := { program := "ytfcimpfhfbkgbaa", sum := "785e63c0f174367c7e7be54e8c6edb4bef510d41941ed048c34108913ac8968f", func := "redundancy/redundancylaw09.AluTraps", spec := "aluTraps", apart := false }
def AluTrapsSaid : Prop := aluTrapsRow.holds Try.pinned (OpenSpec.ofChange aluTrapsSpec)

/-- ITS FALSE NEIGHBOUR: 'it returns false'. Refute it at one input. -/
def aluTrapsWrong : ChangeSpec := { name := "aluTraps", fn := fun _ => fun
  | [d] => { results := [.lit (.bool false)], args := [d] }
  | _ => none }
def AluTrapsWrongFalsely : Prop := aluTrapsRow.holds Try.pinned (OpenSpec.ofChange aluTrapsWrong)

/- THE SECOND FORM. 'bulk': how many values and letters a reading holds, each counted each time it is reached (what is shared counts as often as it is met; a slice's spare places count too). A statement '..UptoSaid' is the law's where the arguments, and the package variables that the reading takes, are together of bulk at most 1048576: NARROWER than '..Said'. Prove '..Said' where nothing that the law and all that it calls make is longer than what came in: it says more and counts as full. Else prove '..UptoSaid'. A law counts once. -/
mutual
def uptoBulk {H : Type} : DataW H → Nat
  | .lit (.string bytes) => bytes.length + 1
  | .lit _ => 1
  | .nil => 1
  | .ptr d => uptoBulk d + 1
  | .slice elems spare => uptoBulkAll elems + uptoBulkAll spare + 1
  | .agg parts => uptoBulkAll parts + 1
  | .iface _ d => uptoBulk d + 1
  | .map entries => uptoBulkEntries entries + 1
  | .held _ => 1
def uptoBulkAll {H : Type} : List (DataW H) → Nat
  | [] => 0
  | d :: r => uptoBulk d + uptoBulkAll r
def uptoBulkEntries {H : Type} : List (Lit × DataW H) → Nat
  | [] => 0
  | x :: r => uptoBulkEntry x + uptoBulkEntries r
def uptoBulkEntry {H : Type} : Lit × DataW H → Nat
  | (.string bytes, d) => bytes.length + uptoBulk d + 1
  | (_, d) => uptoBulk d + 1
 end
def uptoSmall : (H : Type) → List (DataW H) → Bool := fun _ ds => decide (uptoBulkAll ds ≤ 1048576)
def OpenSpec.upto (s : _root_.Go.ChangeSpec) : _root_.Go.OpenSpec := { _root_.Go.OpenSpec.ofChange s with cond := some uptoSmall }

/-- 'redundancylaw09.AluDoes', WHERE WHAT IT READS IS OF BULK AT MOST 1048576: true; the input reads as it did. -/
def aluDoesUptoRow : OpenClaim := { program := "ytfcimpfhfbkgbaa", sum := "785e63c0f174367c7e7be54e8c6edb4bef510d41941ed048c34108913ac8968f", func := "redundancy/redundancylaw09.AluDoes", spec := "aluDoes", apart := false, narrowed := true }
def AluDoesUptoSaid : Prop := aluDoesUptoRow.holds Try.pinned (OpenSpec.upto aluDoesSpec)

/-- 'redundancylaw09.AluLayouts', WHERE WHAT IT READS IS OF BULK AT MOST 1048576: true; the input reads as it did. -/
def aluLayoutsUptoRow : OpenClaim := { program := "ytfcimpfhfbkgbaa", sum := "785e63c0f174367c7e7be54e8c6edb4bef510d41941ed048c34108913ac8968f", func := "redundancy/redundancylaw09.AluLayouts", spec := "aluLayouts", apart := false, narrowed := true }
def AluLayoutsUptoSaid : Prop := aluLayoutsUptoRow.holds Try.pinned (OpenSpec.upto aluLayoutsSpec)

/-- 'redundancylaw09.AluPointers', WHERE WHAT IT READS IS OF BULK AT MOST 1048576: true; the input reads as it did. -/
def aluPointersUptoRow : OpenClaim := { program := "ytfcimpfhfbkgbaa", sum := "785e63c0f174367c7e7be54e8c6edb4bef510d41941ed048c34108913ac8968f", func := "redundancy/redundancylaw09.AluPointers", spec := "aluPointers", apart := false, narrowed := true }
def AluPointersUptoSaid : Prop := aluPointersUptoRow.holds Try.pinned (OpenSpec.upto aluPointersSpec)

/-- 'redundancylaw09.AluNumbers', WHERE WHAT IT READS IS OF BULK AT MOST 1048576: true; the input reads as it did. -/
def aluNumbersUptoRow : OpenClaim := { program := "ytfcimpfhfbkgbaa", sum := "785e63c0f174367c7e7be54e8c6edb4bef510d41941ed048c34108913ac8968f", func := "redundancy/redundancylaw09.AluNumbers", spec := "aluNumbers", apart := false, narrowed := true }
def AluNumbersUptoSaid : Prop := aluNumbersUptoRow.holds Try.pinned (OpenSpec.upto aluNumbersSpec)

/-- 'redundancylaw09.AluOrder', WHERE WHAT IT READS IS OF BULK AT MOST 1048576: true; the input reads as it did. -/
def aluOrderUptoRow : OpenClaim := { program := "ytfcimpfhfbkgbaa", sum := "785e63c0f174367c7e7be54e8c6edb4bef510d41941ed048c34108913ac8968f", func := "redundancy/redundancylaw09.AluOrder", spec := "aluOrder", apart := false, narrowed := true }
def AluOrderUptoSaid : Prop := aluOrderUptoRow.holds Try.pinned (OpenSpec.upto aluOrderSpec)

/-- 'redundancylaw09.AluTraps', WHERE WHAT IT READS IS OF BULK AT MOST 1048576: true; the input reads as it did. -/
def aluTrapsUptoRow : OpenClaim := { program := "ytfcimpfhfbkgbaa", sum := "785e63c0f174367c7e7be54e8c6edb4bef510d41941ed048c34108913ac8968f", func := "redundancy/redundancylaw09.AluTraps", spec := "aluTraps", apart := false, narrowed := true }
def AluTrapsUptoSaid : Prop := aluTrapsUptoRow.holds Try.pinned (OpenSpec.upto aluTrapsSpec)

end Rows
end Go.Proofs.Ytfcimpfhfbkgbaa
