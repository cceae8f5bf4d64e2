/-
  No cell of these rows narrows 'for every input' (looked for: loops, veiled, ifaces, maps, wideKeys, modest, calm, conditions, laid).
  DERIVED. THE GIVEN ROWS OF THIS SEAT. 3 by the template 'for every input the law returns true; each argument reads behind the call as it read before'; 0 by the template 'total and deterministic' (their statements: YtngjacppogdhoaaTotals.lean).
  GIVEN WITH THE SEED: the statements are not yours to turn. If you find one false, say at which input.
  Laid BY PROGRAM, IN A SANDBOX (cutbox-rows.mjs): the forced cells as the released guide's own fill.sh prints them over the translation 64a1b5329a336c52… (all of the seat's roots in one cut). By AI agents, Wed Nov 11 2026. No macro, syntax, notation, axiom, sorry.
-/
import Derived.Test.YtngjacppogdhoaaChecked
import GoSem.Claim
import GoSem.ClaimJoined
import GoSem.ClaimMapViews
import Derived.JoinedTies
import Derived.KernelRfl
namespace Go.Proofs.Ytngjacppogdhoaa
/- THE CELL 'sum', in the pinned program and in every row, IS THE sha256 OF THE DUMP (.gsa) THAT YtngjacppogdhoaaProg.lean LOADS. Nothing in Lean hashes anything: it is a label: what it is worth is what the hold of that sum in a sandbox is worth. -/
noncomputable def Try.pinned : Pinned := { name := "ytngjacppogdhoaa", sum := "64a1b5329a336c52bc0af3e7a0c86f3226bfba7cc9d3c67094eee34becb8a2b1", checked := Try.checked }
namespace Rows
def none {H : Type} : Left H := { results := [], args := [] }

/-- 'redundancylaw33.MemberRaw': WHATEVER THE INPUT: true; the input reads as it did. -/
def memberRawSpec : ChangeSpec := { name := "memberRaw", fn := fun _ => fun
  | [d1, d2, d3, d4, d5] => { results := [.lit (.bool true)], args := [d1, d2, d3, d4, d5] }
  | _ => none }
def memberRawRow : OpenClaim := { program := "ytngjacppogdhoaa", sum := "64a1b5329a336c52bc0af3e7a0c86f3226bfba7cc9d3c67094eee34becb8a2b1", func := "redundancy/redundancylaw33.MemberRaw", spec := "memberRaw", unfollowed := true, recurses := true, apart := false }
def MemberRawSaid : Prop := memberRawRow.holds Try.pinned (OpenSpec.ofChange memberRawSpec)

/-- ITS FALSE NEIGHBOUR: 'it returns false'. Refute it at one input. -/
def memberRawWrong : ChangeSpec := { name := "memberRaw", fn := fun _ => fun
  | [d1, d2, d3, d4, d5] => { results := [.lit (.bool false)], args := [d1, d2, d3, d4, d5] }
  | _ => none }
def MemberRawWrongFalsely : Prop := memberRawRow.holds Try.pinned (OpenSpec.ofChange memberRawWrong)

/-- 'redundancylaw33.MemberRuns': WHATEVER THE INPUT: true; the input reads as it did. -/
def memberRunsSpec : ChangeSpec := { name := "memberRuns", fn := fun _ => fun
  | [d1, d2, d3] => { results := [.lit (.bool true)], args := [d1, d2, d3] }
  | _ => none }
def memberRunsRow : OpenClaim := { program := "ytngjacppogdhoaa", sum := "64a1b5329a336c52bc0af3e7a0c86f3226bfba7cc9d3c67094eee34becb8a2b1", func := "redundancy/redundancylaw33.MemberRuns", spec := "memberRuns", unfollowed := true, recurses := true, apart := false }
def MemberRunsSaid : Prop := memberRunsRow.holds Try.pinned (OpenSpec.ofChange memberRunsSpec)

/-- ITS FALSE NEIGHBOUR: 'it returns false'. Refute it at one input. -/
def memberRunsWrong : ChangeSpec := { name := "memberRuns", fn := fun _ => fun
  | [d1, d2, d3] => { results := [.lit (.bool false)], args := [d1, d2, d3] }
  | _ => none }
def MemberRunsWrongFalsely : Prop := memberRunsRow.holds Try.pinned (OpenSpec.ofChange memberRunsWrong)

/-- 'redundancylaw33.MemberNext': WHATEVER THE INPUT: true; the input reads as it did. -/
def memberNextSpec : ChangeSpec := { name := "memberNext", fn := fun _ => fun
  | [d1, d2] => { results := [.lit (.bool true)], args := [d1, d2] }
  | _ => none }
def memberNextRow : OpenClaim := { program := "ytngjacppogdhoaa", sum := "64a1b5329a336c52bc0af3e7a0c86f3226bfba7cc9d3c67094eee34becb8a2b1", func := "redundancy/redundancylaw33.MemberNext", spec := "memberNext", unfollowed := true, recurses := true, apart := false }
def MemberNextSaid : Prop := memberNextRow.holds Try.pinned (OpenSpec.ofChange memberNextSpec)

/-- ITS FALSE NEIGHBOUR: 'it returns false'. Refute it at one input. -/
def memberNextWrong : ChangeSpec := { name := "memberNext", fn := fun _ => fun
  | [d1, d2] => { results := [.lit (.bool false)], args := [d1, d2] }
  | _ => none }
def MemberNextWrongFalsely : Prop := memberNextRow.holds Try.pinned (OpenSpec.ofChange memberNextWrong)

/- THE SECOND FORM. 'bulk': how many values and letters a reading holds, each counted each time it is reached (what is shared counts as often as it is met; a slice's spare places count too). A statement '..UptoSaid' is the law's where the arguments, and the package variables that the reading takes, are together of bulk at most 1048576: NARROWER than '..Said'. Prove '..Said' where nothing that the law and all that it calls make is longer than what came in: it says more and counts as full. Else prove '..UptoSaid'. A law counts once. -/
mutual
def uptoBulk {H : Type} : DataW H → Nat
  | .lit (.string bytes) => bytes.length + 1
  | .lit _ => 1
  | .nil => 1
  | .ptr d => uptoBulk d + 1
  | .slice elems spare => uptoBulkAll elems + uptoBulkAll spare + 1
  | .agg parts => uptoBulkAll parts + 1
  | .iface _ d => uptoBulk d + 1
  | .map entries => uptoBulkEntries entries + 1
  | .held _ => 1
def uptoBulkAll {H : Type} : List (DataW H) → Nat
  | [] => 0
  | d :: r => uptoBulk d + uptoBulkAll r
def uptoBulkEntries {H : Type} : List (Lit × DataW H) → Nat
  | [] => 0
  | x :: r => uptoBulkEntry x + uptoBulkEntries r
def uptoBulkEntry {H : Type} : Lit × DataW H → Nat
  | (.string bytes, d) => bytes.length + uptoBulk d + 1
  | (_, d) => uptoBulk d + 1
 end
def uptoSmall : (H : Type) → List (DataW H) → Bool := fun _ ds => decide (uptoBulkAll ds ≤ 1048576)
def OpenSpec.upto (s : _root_.Go.ChangeSpec) : _root_.Go.OpenSpec := { _root_.Go.OpenSpec.ofChange s with cond := some uptoSmall }

/-- 'redundancylaw33.MemberRaw', WHERE WHAT IT READS IS OF BULK AT MOST 1048576: true; the input reads as it did. -/
def memberRawUptoRow : OpenClaim := { program := "ytngjacppogdhoaa", sum := "64a1b5329a336c52bc0af3e7a0c86f3226bfba7cc9d3c67094eee34becb8a2b1", func := "redundancy/redundancylaw33.MemberRaw", spec := "memberRaw", unfollowed := true, recurses := true, apart := false, narrowed := true }
def MemberRawUptoSaid : Prop := memberRawUptoRow.holds Try.pinned (OpenSpec.upto memberRawSpec)

/-- 'redundancylaw33.MemberRuns', WHERE WHAT IT READS IS OF BULK AT MOST 1048576: true; the input reads as it did. -/
def memberRunsUptoRow : OpenClaim := { program := "ytngjacppogdhoaa", sum := "64a1b5329a336c52bc0af3e7a0c86f3226bfba7cc9d3c67094eee34becb8a2b1", func := "redundancy/redundancylaw33.MemberRuns", spec := "memberRuns", unfollowed := true, recurses := true, apart := false, narrowed := true }
def MemberRunsUptoSaid : Prop := memberRunsUptoRow.holds Try.pinned (OpenSpec.upto memberRunsSpec)

/-- 'redundancylaw33.MemberNext', WHERE WHAT IT READS IS OF BULK AT MOST 1048576: true; the input reads as it did. -/
def memberNextUptoRow : OpenClaim := { program := "ytngjacppogdhoaa", sum := "64a1b5329a336c52bc0af3e7a0c86f3226bfba7cc9d3c67094eee34becb8a2b1", func := "redundancy/redundancylaw33.MemberNext", spec := "memberNext", unfollowed := true, recurses := true, apart := false, narrowed := true }
def MemberNextUptoSaid : Prop := memberNextUptoRow.holds Try.pinned (OpenSpec.upto memberNextSpec)

end Rows
end Go.Proofs.Ytngjacppogdhoaa
