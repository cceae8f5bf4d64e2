/-
  No cell of these rows narrows 'for every input' (looked for: loops, veiled, ifaces, maps, wideKeys, modest, calm, conditions, laid).
  DERIVED. THE GIVEN ROWS OF THIS SEAT. 3 by the template 'for every input the law returns true; each argument reads behind the call as it read before'; 0 by the template 'total and deterministic' (their statements: YtbjffoojenpmfaaGreatTotals.lean).
  GIVEN WITH THE SEED: the statements are not yours to turn. If you find one false, say at which input.
  Laid BY PROGRAM, IN A SANDBOX (cutbox-rows.mjs): the forced cells as the released guide's own fill.sh prints them over the translation b912ec4c7a01bab5… (all of the seat's roots in one cut). By AI agents, Wed Nov 11 2026. No macro, syntax, notation, axiom, sorry.
-/
import Derived.Test.YtbjffoojenpmfaaGreatChecked
import GoSem.Claim
import GoSem.ClaimJoined
import GoSem.ClaimMapViews
import Derived.JoinedTies
import Derived.KernelRfl
namespace Go.Proofs.YtbjffoojenpmfaaGreat
/- THE CELL 'sum', in the pinned program and in every row, IS THE sha256 OF THE DUMP (.gsa) THAT YtbjffoojenpmfaaGreatProg.lean LOADS. Nothing in Lean hashes anything: it is a label: what it is worth is what the hold of that sum in a sandbox is worth. -/
noncomputable def Tryz.pinned : Pinned := { name := "ytbjffoojenpmfaagreat", sum := "b912ec4c7a01bab59c5dc1332c317816a324bfb54d6ad2c628692f9d623e18e1", checked := Tryz.checked }
namespace Rows
def none {H : Type} : Left H := { results := [], args := [] }

/-- 'redundancylaw16.SignalDelivers': WHATEVER THE INPUT: true; the input reads as it did. -/
def signalDeliversSpec : ChangeSpec := { name := "signalDelivers", fn := fun _ => fun
  | [d1, d2, d3] => { results := [.lit (.bool true)], args := [d1, d2, d3] }
  | _ => none }
def signalDeliversRow : OpenClaim := { program := "ytbjffoojenpmfaagreat", sum := "b912ec4c7a01bab59c5dc1332c317816a324bfb54d6ad2c628692f9d623e18e1", func := "redundancy/redundancylaw16.SignalDelivers", spec := "signalDelivers", apart := false }
def SignalDeliversSaid : Prop := signalDeliversRow.holds Tryz.pinned (OpenSpec.ofChange signalDeliversSpec)

/-- ITS FALSE NEIGHBOUR: 'it returns false'. Refute it at one input. -/
def signalDeliversWrong : ChangeSpec := { name := "signalDelivers", fn := fun _ => fun
  | [d1, d2, d3] => { results := [.lit (.bool false)], args := [d1, d2, d3] }
  | _ => none }
def SignalDeliversWrongFalsely : Prop := signalDeliversRow.holds Tryz.pinned (OpenSpec.ofChange signalDeliversWrong)

/-- 'redundancylaw16.SignalReturns': WHATEVER THE INPUT: true; the input reads as it did. -/
def signalReturnsSpec : ChangeSpec := { name := "signalReturns", fn := fun _ => fun
  | [d1, d2] => { results := [.lit (.bool true)], args := [d1, d2] }
  | _ => none }
def signalReturnsRow : OpenClaim := { program := "ytbjffoojenpmfaagreat", sum := "b912ec4c7a01bab59c5dc1332c317816a324bfb54d6ad2c628692f9d623e18e1", func := "redundancy/redundancylaw16.SignalReturns", spec := "signalReturns", apart := false }
def SignalReturnsSaid : Prop := signalReturnsRow.holds Tryz.pinned (OpenSpec.ofChange signalReturnsSpec)

/-- ITS FALSE NEIGHBOUR: 'it returns false'. Refute it at one input. -/
def signalReturnsWrong : ChangeSpec := { name := "signalReturns", fn := fun _ => fun
  | [d1, d2] => { results := [.lit (.bool false)], args := [d1, d2] }
  | _ => none }
def SignalReturnsWrongFalsely : Prop := signalReturnsRow.holds Tryz.pinned (OpenSpec.ofChange signalReturnsWrong)

/-- 'redundancylaw16.SignalOthers': WHATEVER THE INPUT: true; the input reads as it did. -/
def signalOthersSpec : ChangeSpec := { name := "signalOthers", fn := fun _ => fun
  | [d1, d2] => { results := [.lit (.bool true)], args := [d1, d2] }
  | _ => none }
def signalOthersRow : OpenClaim := { program := "ytbjffoojenpmfaagreat", sum := "b912ec4c7a01bab59c5dc1332c317816a324bfb54d6ad2c628692f9d623e18e1", func := "redundancy/redundancylaw16.SignalOthers", spec := "signalOthers", apart := false }
def SignalOthersSaid : Prop := signalOthersRow.holds Tryz.pinned (OpenSpec.ofChange signalOthersSpec)

/-- ITS FALSE NEIGHBOUR: 'it returns false'. Refute it at one input. -/
def signalOthersWrong : ChangeSpec := { name := "signalOthers", fn := fun _ => fun
  | [d1, d2] => { results := [.lit (.bool false)], args := [d1, d2] }
  | _ => none }
def SignalOthersWrongFalsely : Prop := signalOthersRow.holds Tryz.pinned (OpenSpec.ofChange signalOthersWrong)

/- THE SECOND FORM. 'bulk': how many values and letters a reading holds, each counted each time it is reached (what is shared counts as often as it is met; a slice's spare places count too). A statement '..UptoSaid' is the law's where the arguments, and the package variables that the reading takes, are together of bulk at most 1048576: NARROWER than '..Said'. Prove '..Said' where nothing that the law and all that it calls make is longer than what came in: it says more and counts as full. Else prove '..UptoSaid'. A law counts once. -/
mutual
def uptoBulk {H : Type} : DataW H → Nat
  | .lit (.string bytes) => bytes.length + 1
  | .lit _ => 1
  | .nil => 1
  | .ptr d => uptoBulk d + 1
  | .slice elems spare => uptoBulkAll elems + uptoBulkAll spare + 1
  | .agg parts => uptoBulkAll parts + 1
  | .iface _ d => uptoBulk d + 1
  | .map entries => uptoBulkEntries entries + 1
  | .held _ => 1
def uptoBulkAll {H : Type} : List (DataW H) → Nat
  | [] => 0
  | d :: r => uptoBulk d + uptoBulkAll r
def uptoBulkEntries {H : Type} : List (Lit × DataW H) → Nat
  | [] => 0
  | x :: r => uptoBulkEntry x + uptoBulkEntries r
def uptoBulkEntry {H : Type} : Lit × DataW H → Nat
  | (.string bytes, d) => bytes.length + uptoBulk d + 1
  | (_, d) => uptoBulk d + 1
 end
def uptoSmall : (H : Type) → List (DataW H) → Bool := fun _ ds => decide (uptoBulkAll ds ≤ 1048576)
def OpenSpec.upto (s : _root_.Go.ChangeSpec) : _root_.Go.OpenSpec := { _root_.Go.OpenSpec.ofChange s with cond := some uptoSmall }

/-- 'redundancylaw16.SignalDelivers', WHERE WHAT IT READS IS OF BULK AT MOST 1048576: true; the input reads as it did. -/
def signalDeliversUptoRow : OpenClaim := { program := "ytbjffoojenpmfaagreat", sum := "b912ec4c7a01bab59c5dc1332c317816a324bfb54d6ad2c628692f9d623e18e1", func := "redundancy/redundancylaw16.SignalDelivers", spec := "signalDelivers", apart := false, narrowed := true }
def SignalDeliversUptoSaid : Prop := signalDeliversUptoRow.holds Tryz.pinned (OpenSpec.upto signalDeliversSpec)

/-- 'redundancylaw16.SignalReturns', WHERE WHAT IT READS IS OF BULK AT MOST 1048576: true; the input reads as it did. -/
def signalReturnsUptoRow : OpenClaim := { program := "ytbjffoojenpmfaagreat", sum := "b912ec4c7a01bab59c5dc1332c317816a324bfb54d6ad2c628692f9d623e18e1", func := "redundancy/redundancylaw16.SignalReturns", spec := "signalReturns", apart := false, narrowed := true }
def SignalReturnsUptoSaid : Prop := signalReturnsUptoRow.holds Tryz.pinned (OpenSpec.upto signalReturnsSpec)

/-- 'redundancylaw16.SignalOthers', WHERE WHAT IT READS IS OF BULK AT MOST 1048576: true; the input reads as it did. -/
def signalOthersUptoRow : OpenClaim := { program := "ytbjffoojenpmfaagreat", sum := "b912ec4c7a01bab59c5dc1332c317816a324bfb54d6ad2c628692f9d623e18e1", func := "redundancy/redundancylaw16.SignalOthers", spec := "signalOthers", apart := false, narrowed := true }
def SignalOthersUptoSaid : Prop := signalOthersUptoRow.holds Tryz.pinned (OpenSpec.upto signalOthersSpec)

end Rows
end Go.Proofs.YtbjffoojenpmfaaGreat
