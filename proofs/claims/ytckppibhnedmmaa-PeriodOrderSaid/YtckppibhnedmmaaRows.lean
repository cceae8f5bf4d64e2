/-
  No cell of these rows narrows 'for every input' (looked for: loops, veiled, ifaces, maps, wideKeys, modest, calm, conditions, laid).
  DERIVED. THE GIVEN ROWS OF THIS SEAT. 4 by the template 'for every input the law returns true; each argument reads behind the call as it read before'; 0 by the template 'total and deterministic' (their statements: YtckppibhnedmmaaTotals.lean).
  GIVEN WITH THE SEED: the statements are not yours to turn. If you find one false, say at which input.
  Laid BY PROGRAM, IN A SANDBOX (cutbox-rows.mjs): the forced cells as the released guide's own fill.sh prints them over the translation 7e94ed8d78bf96f5… (all of the seat's roots in one cut). By AI agents, Wed Nov 11 2026. No macro, syntax, notation, axiom, sorry.
-/
import Derived.Test.YtckppibhnedmmaaChecked
import GoSem.Claim
import GoSem.ClaimJoined
import GoSem.ClaimMapViews
import Derived.JoinedTies
import Derived.KernelRfl
namespace Go.Proofs.Ytckppibhnedmmaa
/- THE CELL 'sum', in the pinned program and in every row, IS THE sha256 OF THE DUMP (.gsa) THAT YtckppibhnedmmaaProg.lean LOADS. Nothing in Lean hashes anything: it is a label: what it is worth is what the hold of that sum in a sandbox is worth. -/
noncomputable def Try.pinned : Pinned := { name := "ytckppibhnedmmaa", sum := "7e94ed8d78bf96f570d88a4eb67c7dd844eaffd8a966d79af333ec63aac1b3b1", checked := Try.checked }
namespace Rows
def none {H : Type} : Left H := { results := [], args := [] }

/-- 'redundancylaw37.PeriodOrder': WHATEVER THE INPUT: true; the input reads as it did. -/
def periodOrderSpec : ChangeSpec := { name := "periodOrder", fn := fun _ => fun
  | [d1, d2, d3, d4] => { results := [.lit (.bool true)], args := [d1, d2, d3, d4] }
  | _ => none }
def periodOrderRow : OpenClaim := { program := "ytckppibhnedmmaa", sum := "7e94ed8d78bf96f570d88a4eb67c7dd844eaffd8a966d79af333ec63aac1b3b1", func := "redundancy/redundancylaw37.PeriodOrder", spec := "periodOrder", apart := false }
def PeriodOrderSaid : Prop := periodOrderRow.holds Try.pinned (OpenSpec.ofChange periodOrderSpec)

/-- ITS FALSE NEIGHBOUR: 'it returns false'. Refute it at one input. -/
def periodOrderWrong : ChangeSpec := { name := "periodOrder", fn := fun _ => fun
  | [d1, d2, d3, d4] => { results := [.lit (.bool false)], args := [d1, d2, d3, d4] }
  | _ => none }
def PeriodOrderWrongFalsely : Prop := periodOrderRow.holds Try.pinned (OpenSpec.ofChange periodOrderWrong)

/-- 'redundancylaw37.PeriodRaw': WHATEVER THE INPUT: true; the input reads as it did. -/
def periodRawSpec : ChangeSpec := { name := "periodRaw", fn := fun _ => fun
  | [d1, d2, d3, d4] => { results := [.lit (.bool true)], args := [d1, d2, d3, d4] }
  | _ => none }
def periodRawRow : OpenClaim := { program := "ytckppibhnedmmaa", sum := "7e94ed8d78bf96f570d88a4eb67c7dd844eaffd8a966d79af333ec63aac1b3b1", func := "redundancy/redundancylaw37.PeriodRaw", spec := "periodRaw", apart := false }
def PeriodRawSaid : Prop := periodRawRow.holds Try.pinned (OpenSpec.ofChange periodRawSpec)

/-- ITS FALSE NEIGHBOUR: 'it returns false'. Refute it at one input. -/
def periodRawWrong : ChangeSpec := { name := "periodRaw", fn := fun _ => fun
  | [d1, d2, d3, d4] => { results := [.lit (.bool false)], args := [d1, d2, d3, d4] }
  | _ => none }
def PeriodRawWrongFalsely : Prop := periodRawRow.holds Try.pinned (OpenSpec.ofChange periodRawWrong)

/-- 'redundancylaw37.PeriodBest': WHATEVER THE INPUT: true; the input reads as it did. -/
def periodBestSpec : ChangeSpec := { name := "periodBest", fn := fun _ => fun
  | [d1, d2, d3] => { results := [.lit (.bool true)], args := [d1, d2, d3] }
  | _ => none }
def periodBestRow : OpenClaim := { program := "ytckppibhnedmmaa", sum := "7e94ed8d78bf96f570d88a4eb67c7dd844eaffd8a966d79af333ec63aac1b3b1", func := "redundancy/redundancylaw37.PeriodBest", spec := "periodBest", apart := false }
def PeriodBestSaid : Prop := periodBestRow.holds Try.pinned (OpenSpec.ofChange periodBestSpec)

/-- ITS FALSE NEIGHBOUR: 'it returns false'. Refute it at one input. -/
def periodBestWrong : ChangeSpec := { name := "periodBest", fn := fun _ => fun
  | [d1, d2, d3] => { results := [.lit (.bool false)], args := [d1, d2, d3] }
  | _ => none }
def PeriodBestWrongFalsely : Prop := periodBestRow.holds Try.pinned (OpenSpec.ofChange periodBestWrong)

/-- 'redundancylaw37.PeriodMoves': WHATEVER THE INPUT: true; the input reads as it did. -/
def periodMovesSpec : ChangeSpec := { name := "periodMoves", fn := fun _ => fun
  | [d1, d2, d3, d4] => { results := [.lit (.bool true)], args := [d1, d2, d3, d4] }
  | _ => none }
def periodMovesRow : OpenClaim := { program := "ytckppibhnedmmaa", sum := "7e94ed8d78bf96f570d88a4eb67c7dd844eaffd8a966d79af333ec63aac1b3b1", func := "redundancy/redundancylaw37.PeriodMoves", spec := "periodMoves", apart := false }
def PeriodMovesSaid : Prop := periodMovesRow.holds Try.pinned (OpenSpec.ofChange periodMovesSpec)

/-- ITS FALSE NEIGHBOUR: 'it returns false'. Refute it at one input. -/
def periodMovesWrong : ChangeSpec := { name := "periodMoves", fn := fun _ => fun
  | [d1, d2, d3, d4] => { results := [.lit (.bool false)], args := [d1, d2, d3, d4] }
  | _ => none }
def PeriodMovesWrongFalsely : Prop := periodMovesRow.holds Try.pinned (OpenSpec.ofChange periodMovesWrong)

/- THE SECOND FORM. 'bulk': how many values and letters a reading holds, each counted each time it is reached (what is shared counts as often as it is met; a slice's spare places count too). A statement '..UptoSaid' is the law's where the arguments, and the package variables that the reading takes, are together of bulk at most 1048576: NARROWER than '..Said'. Prove '..Said' where nothing that the law and all that it calls make is longer than what came in: it says more and counts as full. Else prove '..UptoSaid'. A law counts once. -/
mutual
def uptoBulk {H : Type} : DataW H → Nat
  | .lit (.string bytes) => bytes.length + 1
  | .lit _ => 1
  | .nil => 1
  | .ptr d => uptoBulk d + 1
  | .slice elems spare => uptoBulkAll elems + uptoBulkAll spare + 1
  | .agg parts => uptoBulkAll parts + 1
  | .iface _ d => uptoBulk d + 1
  | .map entries => uptoBulkEntries entries + 1
  | .held _ => 1
def uptoBulkAll {H : Type} : List (DataW H) → Nat
  | [] => 0
  | d :: r => uptoBulk d + uptoBulkAll r
def uptoBulkEntries {H : Type} : List (Lit × DataW H) → Nat
  | [] => 0
  | x :: r => uptoBulkEntry x + uptoBulkEntries r
def uptoBulkEntry {H : Type} : Lit × DataW H → Nat
  | (.string bytes, d) => bytes.length + uptoBulk d + 1
  | (_, d) => uptoBulk d + 1
 end
def uptoSmall : (H : Type) → List (DataW H) → Bool := fun _ ds => decide (uptoBulkAll ds ≤ 1048576)
def OpenSpec.upto (s : _root_.Go.ChangeSpec) : _root_.Go.OpenSpec := { _root_.Go.OpenSpec.ofChange s with cond := some uptoSmall }

/-- 'redundancylaw37.PeriodOrder', WHERE WHAT IT READS IS OF BULK AT MOST 1048576: true; the input reads as it did. -/
def periodOrderUptoRow : OpenClaim := { program := "ytckppibhnedmmaa", sum := "7e94ed8d78bf96f570d88a4eb67c7dd844eaffd8a966d79af333ec63aac1b3b1", func := "redundancy/redundancylaw37.PeriodOrder", spec := "periodOrder", apart := false, narrowed := true }
def PeriodOrderUptoSaid : Prop := periodOrderUptoRow.holds Try.pinned (OpenSpec.upto periodOrderSpec)

/-- 'redundancylaw37.PeriodRaw', WHERE WHAT IT READS IS OF BULK AT MOST 1048576: true; the input reads as it did. -/
def periodRawUptoRow : OpenClaim := { program := "ytckppibhnedmmaa", sum := "7e94ed8d78bf96f570d88a4eb67c7dd844eaffd8a966d79af333ec63aac1b3b1", func := "redundancy/redundancylaw37.PeriodRaw", spec := "periodRaw", apart := false, narrowed := true }
def PeriodRawUptoSaid : Prop := periodRawUptoRow.holds Try.pinned (OpenSpec.upto periodRawSpec)

/-- 'redundancylaw37.PeriodBest', WHERE WHAT IT READS IS OF BULK AT MOST 1048576: true; the input reads as it did. -/
def periodBestUptoRow : OpenClaim := { program := "ytckppibhnedmmaa", sum := "7e94ed8d78bf96f570d88a4eb67c7dd844eaffd8a966d79af333ec63aac1b3b1", func := "redundancy/redundancylaw37.PeriodBest", spec := "periodBest", apart := false, narrowed := true }
def PeriodBestUptoSaid : Prop := periodBestUptoRow.holds Try.pinned (OpenSpec.upto periodBestSpec)

/-- 'redundancylaw37.PeriodMoves', WHERE WHAT IT READS IS OF BULK AT MOST 1048576: true; the input reads as it did. -/
def periodMovesUptoRow : OpenClaim := { program := "ytckppibhnedmmaa", sum := "7e94ed8d78bf96f570d88a4eb67c7dd844eaffd8a966d79af333ec63aac1b3b1", func := "redundancy/redundancylaw37.PeriodMoves", spec := "periodMoves", apart := false, narrowed := true }
def PeriodMovesUptoSaid : Prop := periodMovesUptoRow.holds Try.pinned (OpenSpec.upto periodMovesSpec)

end Rows
end Go.Proofs.Ytckppibhnedmmaa
