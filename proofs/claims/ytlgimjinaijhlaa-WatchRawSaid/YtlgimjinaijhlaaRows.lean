/-
  No cell of these rows narrows 'for every input' (looked for: loops, veiled, ifaces, maps, wideKeys, modest, calm, conditions, laid).
  DERIVED. THE GIVEN ROWS OF THIS SEAT. 4 by the template 'for every input the law returns true; each argument reads behind the call as it read before'; 0 by the template 'total and deterministic' (their statements: YtlgimjinaijhlaaTotals.lean).
  GIVEN WITH THE SEED: the statements are not yours to turn. If you find one false, say at which input.
  Laid BY PROGRAM, IN A SANDBOX (cutbox-rows.mjs): the forced cells as the released guide's own fill.sh prints them over the translation 9752ab873b4425c3… (all of the seat's roots in one cut). By AI agents, Wed Nov 11 2026. No macro, syntax, notation, axiom, sorry.
-/
import Derived.Test.YtlgimjinaijhlaaChecked
import GoSem.Claim
import GoSem.ClaimJoined
import GoSem.ClaimMapViews
import Derived.JoinedTies
import Derived.KernelRfl
namespace Go.Proofs.Ytlgimjinaijhlaa
/- THE CELL 'sum', in the pinned program and in every row, IS THE sha256 OF THE DUMP (.gsa) THAT YtlgimjinaijhlaaProg.lean LOADS. Nothing in Lean hashes anything: it is a label: what it is worth is what the hold of that sum in a sandbox is worth. -/
noncomputable def Try.pinned : Pinned := { name := "ytlgimjinaijhlaa", sum := "9752ab873b4425c376f777426ce4803eef823179aa947b17c4a4c481213d5170", checked := Try.checked }
namespace Rows
def none {H : Type} : Left H := { results := [], args := [] }

/-- 'redundancylaw32.WatchRaw': WHATEVER THE INPUT: true; the input reads as it did. -/
def watchRawSpec : ChangeSpec := { name := "watchRaw", fn := fun _ => fun
  | [d1, d2, d3, d4, d5, d6, d7, d8] => { results := [.lit (.bool true)], args := [d1, d2, d3, d4, d5, d6, d7, d8] }
  | _ => none }
def watchRawRow : OpenClaim := { program := "ytlgimjinaijhlaa", sum := "9752ab873b4425c376f777426ce4803eef823179aa947b17c4a4c481213d5170", func := "redundancy/redundancylaw32.WatchRaw", spec := "watchRaw", unfollowed := true, recurses := true, apart := false }
def WatchRawSaid : Prop := watchRawRow.holds Try.pinned (OpenSpec.ofChange watchRawSpec)

/-- ITS FALSE NEIGHBOUR: 'it returns false'. Refute it at one input. -/
def watchRawWrong : ChangeSpec := { name := "watchRaw", fn := fun _ => fun
  | [d1, d2, d3, d4, d5, d6, d7, d8] => { results := [.lit (.bool false)], args := [d1, d2, d3, d4, d5, d6, d7, d8] }
  | _ => none }
def WatchRawWrongFalsely : Prop := watchRawRow.holds Try.pinned (OpenSpec.ofChange watchRawWrong)

/-- 'redundancylaw32.WatchRuns': WHATEVER THE INPUT: true; the input reads as it did. -/
def watchRunsSpec : ChangeSpec := { name := "watchRuns", fn := fun _ => fun
  | [d1, d2, d3, d4] => { results := [.lit (.bool true)], args := [d1, d2, d3, d4] }
  | _ => none }
def watchRunsRow : OpenClaim := { program := "ytlgimjinaijhlaa", sum := "9752ab873b4425c376f777426ce4803eef823179aa947b17c4a4c481213d5170", func := "redundancy/redundancylaw32.WatchRuns", spec := "watchRuns", unfollowed := true, recurses := true, apart := false }
def WatchRunsSaid : Prop := watchRunsRow.holds Try.pinned (OpenSpec.ofChange watchRunsSpec)

/-- ITS FALSE NEIGHBOUR: 'it returns false'. Refute it at one input. -/
def watchRunsWrong : ChangeSpec := { name := "watchRuns", fn := fun _ => fun
  | [d1, d2, d3, d4] => { results := [.lit (.bool false)], args := [d1, d2, d3, d4] }
  | _ => none }
def WatchRunsWrongFalsely : Prop := watchRunsRow.holds Try.pinned (OpenSpec.ofChange watchRunsWrong)

/-- 'redundancylaw32.WatchSilent': WHATEVER THE INPUT: true; the input reads as it did. -/
def watchSilentSpec : ChangeSpec := { name := "watchSilent", fn := fun _ => fun
  | [d1, d2, d3, d4] => { results := [.lit (.bool true)], args := [d1, d2, d3, d4] }
  | _ => none }
def watchSilentRow : OpenClaim := { program := "ytlgimjinaijhlaa", sum := "9752ab873b4425c376f777426ce4803eef823179aa947b17c4a4c481213d5170", func := "redundancy/redundancylaw32.WatchSilent", spec := "watchSilent", unfollowed := true, recurses := true, apart := false }
def WatchSilentSaid : Prop := watchSilentRow.holds Try.pinned (OpenSpec.ofChange watchSilentSpec)

/-- ITS FALSE NEIGHBOUR: 'it returns false'. Refute it at one input. -/
def watchSilentWrong : ChangeSpec := { name := "watchSilent", fn := fun _ => fun
  | [d1, d2, d3, d4] => { results := [.lit (.bool false)], args := [d1, d2, d3, d4] }
  | _ => none }
def WatchSilentWrongFalsely : Prop := watchSilentRow.holds Try.pinned (OpenSpec.ofChange watchSilentWrong)

/-- 'redundancylaw32.WatchNever': WHATEVER THE INPUT: true; the input reads as it did. -/
def watchNeverSpec : ChangeSpec := { name := "watchNever", fn := fun _ => fun
  | [d1, d2, d3] => { results := [.lit (.bool true)], args := [d1, d2, d3] }
  | _ => none }
def watchNeverRow : OpenClaim := { program := "ytlgimjinaijhlaa", sum := "9752ab873b4425c376f777426ce4803eef823179aa947b17c4a4c481213d5170", func := "redundancy/redundancylaw32.WatchNever", spec := "watchNever", unfollowed := true, recurses := true, apart := false }
def WatchNeverSaid : Prop := watchNeverRow.holds Try.pinned (OpenSpec.ofChange watchNeverSpec)

/-- ITS FALSE NEIGHBOUR: 'it returns false'. Refute it at one input. -/
def watchNeverWrong : ChangeSpec := { name := "watchNever", fn := fun _ => fun
  | [d1, d2, d3] => { results := [.lit (.bool false)], args := [d1, d2, d3] }
  | _ => none }
def WatchNeverWrongFalsely : Prop := watchNeverRow.holds Try.pinned (OpenSpec.ofChange watchNeverWrong)

/- THE SECOND FORM. 'bulk': how many values and letters a reading holds, each counted each time it is reached (what is shared counts as often as it is met; a slice's spare places count too). A statement '..UptoSaid' is the law's where the arguments, and the package variables that the reading takes, are together of bulk at most 1048576: NARROWER than '..Said'. Prove '..Said' where nothing that the law and all that it calls make is longer than what came in: it says more and counts as full. Else prove '..UptoSaid'. A law counts once. -/
mutual
def uptoBulk {H : Type} : DataW H → Nat
  | .lit (.string bytes) => bytes.length + 1
  | .lit _ => 1
  | .nil => 1
  | .ptr d => uptoBulk d + 1
  | .slice elems spare => uptoBulkAll elems + uptoBulkAll spare + 1
  | .agg parts => uptoBulkAll parts + 1
  | .iface _ d => uptoBulk d + 1
  | .map entries => uptoBulkEntries entries + 1
  | .held _ => 1
def uptoBulkAll {H : Type} : List (DataW H) → Nat
  | [] => 0
  | d :: r => uptoBulk d + uptoBulkAll r
def uptoBulkEntries {H : Type} : List (Lit × DataW H) → Nat
  | [] => 0
  | x :: r => uptoBulkEntry x + uptoBulkEntries r
def uptoBulkEntry {H : Type} : Lit × DataW H → Nat
  | (.string bytes, d) => bytes.length + uptoBulk d + 1
  | (_, d) => uptoBulk d + 1
 end
def uptoSmall : (H : Type) → List (DataW H) → Bool := fun _ ds => decide (uptoBulkAll ds ≤ 1048576)
def OpenSpec.upto (s : _root_.Go.ChangeSpec) : _root_.Go.OpenSpec := { _root_.Go.OpenSpec.ofChange s with cond := some uptoSmall }

/-- 'redundancylaw32.WatchRaw', WHERE WHAT IT READS IS OF BULK AT MOST 1048576: true; the input reads as it did. -/
def watchRawUptoRow : OpenClaim := { program := "ytlgimjinaijhlaa", sum := "9752ab873b4425c376f777426ce4803eef823179aa947b17c4a4c481213d5170", func := "redundancy/redundancylaw32.WatchRaw", spec := "watchRaw", unfollowed := true, recurses := true, apart := false, narrowed := true }
def WatchRawUptoSaid : Prop := watchRawUptoRow.holds Try.pinned (OpenSpec.upto watchRawSpec)

/-- 'redundancylaw32.WatchRuns', WHERE WHAT IT READS IS OF BULK AT MOST 1048576: true; the input reads as it did. -/
def watchRunsUptoRow : OpenClaim := { program := "ytlgimjinaijhlaa", sum := "9752ab873b4425c376f777426ce4803eef823179aa947b17c4a4c481213d5170", func := "redundancy/redundancylaw32.WatchRuns", spec := "watchRuns", unfollowed := true, recurses := true, apart := false, narrowed := true }
def WatchRunsUptoSaid : Prop := watchRunsUptoRow.holds Try.pinned (OpenSpec.upto watchRunsSpec)

/-- 'redundancylaw32.WatchSilent', WHERE WHAT IT READS IS OF BULK AT MOST 1048576: true; the input reads as it did. -/
def watchSilentUptoRow : OpenClaim := { program := "ytlgimjinaijhlaa", sum := "9752ab873b4425c376f777426ce4803eef823179aa947b17c4a4c481213d5170", func := "redundancy/redundancylaw32.WatchSilent", spec := "watchSilent", unfollowed := true, recurses := true, apart := false, narrowed := true }
def WatchSilentUptoSaid : Prop := watchSilentUptoRow.holds Try.pinned (OpenSpec.upto watchSilentSpec)

/-- 'redundancylaw32.WatchNever', WHERE WHAT IT READS IS OF BULK AT MOST 1048576: true; the input reads as it did. -/
def watchNeverUptoRow : OpenClaim := { program := "ytlgimjinaijhlaa", sum := "9752ab873b4425c376f777426ce4803eef823179aa947b17c4a4c481213d5170", func := "redundancy/redundancylaw32.WatchNever", spec := "watchNever", unfollowed := true, recurses := true, apart := false, narrowed := true }
def WatchNeverUptoSaid : Prop := watchNeverUptoRow.holds Try.pinned (OpenSpec.upto watchNeverSpec)

end Rows
end Go.Proofs.Ytlgimjinaijhlaa
