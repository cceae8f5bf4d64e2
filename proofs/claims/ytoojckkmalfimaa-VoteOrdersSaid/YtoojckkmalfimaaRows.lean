/-
  No cell of these rows narrows 'for every input' (looked for: loops, veiled, ifaces, maps, wideKeys, modest, calm, conditions, laid).
  DERIVED. THE GIVEN ROWS OF THIS SEAT. 5 by the template 'for every input the law returns true; each argument reads behind the call as it read before'; 0 by the template 'total and deterministic' (their statements: YtoojckkmalfimaaTotals.lean).
  GIVEN WITH THE SEED: the statements are not yours to turn. If you find one false, say at which input.
  Laid BY PROGRAM, IN A SANDBOX (cutbox-rows.mjs): the forced cells as the released guide's own fill.sh prints them over the translation 854c3ce02079920b… (all of the seat's roots in one cut). By AI agents, Wed Nov 11 2026. No macro, syntax, notation, axiom, sorry.
-/
import Derived.Test.YtoojckkmalfimaaChecked
import GoSem.Claim
import GoSem.ClaimJoined
import GoSem.ClaimMapViews
import Derived.JoinedTies
import Derived.KernelRfl
namespace Go.Proofs.Ytoojckkmalfimaa
/- THE CELL 'sum', in the pinned program and in every row, IS THE sha256 OF THE DUMP (.gsa) THAT YtoojckkmalfimaaProg.lean LOADS. Nothing in Lean hashes anything: it is a label: what it is worth is what the hold of that sum in a sandbox is worth. -/
noncomputable def Try.pinned : Pinned := { name := "ytoojckkmalfimaa", sum := "854c3ce02079920b18f9e33727a5c0750e7afd4f4f6a14b80dfe7eb81cad53ff", checked := Try.checked }
namespace Rows
def none {H : Type} : Left H := { results := [], args := [] }

/-- 'redundancylaw31.VoteRaw': WHATEVER THE INPUT: true; the input reads as it did. -/
def voteRawSpec : ChangeSpec := { name := "voteRaw", fn := fun _ => fun
  | [d1, d2, d3, d4] => { results := [.lit (.bool true)], args := [d1, d2, d3, d4] }
  | _ => none }
def voteRawRow : OpenClaim := { program := "ytoojckkmalfimaa", sum := "854c3ce02079920b18f9e33727a5c0750e7afd4f4f6a14b80dfe7eb81cad53ff", func := "redundancy/redundancylaw31.VoteRaw", spec := "voteRaw", unfollowed := true, recurses := true, apart := false }
def VoteRawSaid : Prop := voteRawRow.holds Try.pinned (OpenSpec.ofChange voteRawSpec)

/-- ITS FALSE NEIGHBOUR: 'it returns false'. Refute it at one input. -/
def voteRawWrong : ChangeSpec := { name := "voteRaw", fn := fun _ => fun
  | [d1, d2, d3, d4] => { results := [.lit (.bool false)], args := [d1, d2, d3, d4] }
  | _ => none }
def VoteRawWrongFalsely : Prop := voteRawRow.holds Try.pinned (OpenSpec.ofChange voteRawWrong)

/-- 'redundancylaw31.VoteMade': WHATEVER THE INPUT: true; the input reads as it did. -/
def voteMadeSpec : ChangeSpec := { name := "voteMade", fn := fun _ => fun
  | [d1, d2, d3] => { results := [.lit (.bool true)], args := [d1, d2, d3] }
  | _ => none }
def voteMadeRow : OpenClaim := { program := "ytoojckkmalfimaa", sum := "854c3ce02079920b18f9e33727a5c0750e7afd4f4f6a14b80dfe7eb81cad53ff", func := "redundancy/redundancylaw31.VoteMade", spec := "voteMade", unfollowed := true, recurses := true, apart := false }
def VoteMadeSaid : Prop := voteMadeRow.holds Try.pinned (OpenSpec.ofChange voteMadeSpec)

/-- ITS FALSE NEIGHBOUR: 'it returns false'. Refute it at one input. -/
def voteMadeWrong : ChangeSpec := { name := "voteMade", fn := fun _ => fun
  | [d1, d2, d3] => { results := [.lit (.bool false)], args := [d1, d2, d3] }
  | _ => none }
def VoteMadeWrongFalsely : Prop := voteMadeRow.holds Try.pinned (OpenSpec.ofChange voteMadeWrong)

/-- 'redundancylaw31.VoteMinority': WHATEVER THE INPUT: true; the input reads as it did. -/
def voteMinoritySpec : ChangeSpec := { name := "voteMinority", fn := fun _ => fun
  | [d1, d2, d3, d4] => { results := [.lit (.bool true)], args := [d1, d2, d3, d4] }
  | _ => none }
def voteMinorityRow : OpenClaim := { program := "ytoojckkmalfimaa", sum := "854c3ce02079920b18f9e33727a5c0750e7afd4f4f6a14b80dfe7eb81cad53ff", func := "redundancy/redundancylaw31.VoteMinority", spec := "voteMinority", unfollowed := true, recurses := true, apart := false }
def VoteMinoritySaid : Prop := voteMinorityRow.holds Try.pinned (OpenSpec.ofChange voteMinoritySpec)

/-- ITS FALSE NEIGHBOUR: 'it returns false'. Refute it at one input. -/
def voteMinorityWrong : ChangeSpec := { name := "voteMinority", fn := fun _ => fun
  | [d1, d2, d3, d4] => { results := [.lit (.bool false)], args := [d1, d2, d3, d4] }
  | _ => none }
def VoteMinorityWrongFalsely : Prop := voteMinorityRow.holds Try.pinned (OpenSpec.ofChange voteMinorityWrong)

/-- 'redundancylaw31.VoteOrders': WHATEVER THE INPUT: true; the input reads as it did. -/
def voteOrdersSpec : ChangeSpec := { name := "voteOrders", fn := fun _ => fun
  | [d1, d2, d3] => { results := [.lit (.bool true)], args := [d1, d2, d3] }
  | _ => none }
def voteOrdersRow : OpenClaim := { program := "ytoojckkmalfimaa", sum := "854c3ce02079920b18f9e33727a5c0750e7afd4f4f6a14b80dfe7eb81cad53ff", func := "redundancy/redundancylaw31.VoteOrders", spec := "voteOrders", unfollowed := true, recurses := true, apart := false }
def VoteOrdersSaid : Prop := voteOrdersRow.holds Try.pinned (OpenSpec.ofChange voteOrdersSpec)

/-- ITS FALSE NEIGHBOUR: 'it returns false'. Refute it at one input. -/
def voteOrdersWrong : ChangeSpec := { name := "voteOrders", fn := fun _ => fun
  | [d1, d2, d3] => { results := [.lit (.bool false)], args := [d1, d2, d3] }
  | _ => none }
def VoteOrdersWrongFalsely : Prop := voteOrdersRow.holds Try.pinned (OpenSpec.ofChange voteOrdersWrong)

/-- 'redundancylaw31.VoteNumbers': WHATEVER THE INPUT: true; the input reads as it did. -/
def voteNumbersSpec : ChangeSpec := { name := "voteNumbers", fn := fun _ => fun
  | [d1, d2] => { results := [.lit (.bool true)], args := [d1, d2] }
  | _ => none }
def voteNumbersRow : OpenClaim := { program := "ytoojckkmalfimaa", sum := "854c3ce02079920b18f9e33727a5c0750e7afd4f4f6a14b80dfe7eb81cad53ff", func := "redundancy/redundancylaw31.VoteNumbers", spec := "voteNumbers", unfollowed := true, recurses := true, apart := false }
def VoteNumbersSaid : Prop := voteNumbersRow.holds Try.pinned (OpenSpec.ofChange voteNumbersSpec)

/-- ITS FALSE NEIGHBOUR: 'it returns false'. Refute it at one input. -/
def voteNumbersWrong : ChangeSpec := { name := "voteNumbers", fn := fun _ => fun
  | [d1, d2] => { results := [.lit (.bool false)], args := [d1, d2] }
  | _ => none }
def VoteNumbersWrongFalsely : Prop := voteNumbersRow.holds Try.pinned (OpenSpec.ofChange voteNumbersWrong)

/- THE SECOND FORM. 'bulk': how many values and letters a reading holds, each counted each time it is reached (what is shared counts as often as it is met; a slice's spare places count too). A statement '..UptoSaid' is the law's where the arguments, and the package variables that the reading takes, are together of bulk at most 1048576: NARROWER than '..Said'. Prove '..Said' where nothing that the law and all that it calls make is longer than what came in: it says more and counts as full. Else prove '..UptoSaid'. A law counts once. -/
mutual
def uptoBulk {H : Type} : DataW H → Nat
  | .lit (.string bytes) => bytes.length + 1
  | .lit _ => 1
  | .nil => 1
  | .ptr d => uptoBulk d + 1
  | .slice elems spare => uptoBulkAll elems + uptoBulkAll spare + 1
  | .agg parts => uptoBulkAll parts + 1
  | .iface _ d => uptoBulk d + 1
  | .map entries => uptoBulkEntries entries + 1
  | .held _ => 1
def uptoBulkAll {H : Type} : List (DataW H) → Nat
  | [] => 0
  | d :: r => uptoBulk d + uptoBulkAll r
def uptoBulkEntries {H : Type} : List (Lit × DataW H) → Nat
  | [] => 0
  | x :: r => uptoBulkEntry x + uptoBulkEntries r
def uptoBulkEntry {H : Type} : Lit × DataW H → Nat
  | (.string bytes, d) => bytes.length + uptoBulk d + 1
  | (_, d) => uptoBulk d + 1
 end
def uptoSmall : (H : Type) → List (DataW H) → Bool := fun _ ds => decide (uptoBulkAll ds ≤ 1048576)
def OpenSpec.upto (s : _root_.Go.ChangeSpec) : _root_.Go.OpenSpec := { _root_.Go.OpenSpec.ofChange s with cond := some uptoSmall }

/-- 'redundancylaw31.VoteRaw', WHERE WHAT IT READS IS OF BULK AT MOST 1048576: true; the input reads as it did. -/
def voteRawUptoRow : OpenClaim := { program := "ytoojckkmalfimaa", sum := "854c3ce02079920b18f9e33727a5c0750e7afd4f4f6a14b80dfe7eb81cad53ff", func := "redundancy/redundancylaw31.VoteRaw", spec := "voteRaw", unfollowed := true, recurses := true, apart := false, narrowed := true }
def VoteRawUptoSaid : Prop := voteRawUptoRow.holds Try.pinned (OpenSpec.upto voteRawSpec)

/-- 'redundancylaw31.VoteMade', WHERE WHAT IT READS IS OF BULK AT MOST 1048576: true; the input reads as it did. -/
def voteMadeUptoRow : OpenClaim := { program := "ytoojckkmalfimaa", sum := "854c3ce02079920b18f9e33727a5c0750e7afd4f4f6a14b80dfe7eb81cad53ff", func := "redundancy/redundancylaw31.VoteMade", spec := "voteMade", unfollowed := true, recurses := true, apart := false, narrowed := true }
def VoteMadeUptoSaid : Prop := voteMadeUptoRow.holds Try.pinned (OpenSpec.upto voteMadeSpec)

/-- 'redundancylaw31.VoteMinority', WHERE WHAT IT READS IS OF BULK AT MOST 1048576: true; the input reads as it did. -/
def voteMinorityUptoRow : OpenClaim := { program := "ytoojckkmalfimaa", sum := "854c3ce02079920b18f9e33727a5c0750e7afd4f4f6a14b80dfe7eb81cad53ff", func := "redundancy/redundancylaw31.VoteMinority", spec := "voteMinority", unfollowed := true, recurses := true, apart := false, narrowed := true }
def VoteMinorityUptoSaid : Prop := voteMinorityUptoRow.holds Try.pinned (OpenSpec.upto voteMinoritySpec)

/-- 'redundancylaw31.VoteOrders', WHERE WHAT IT READS IS OF BULK AT MOST 1048576: true; the input reads as it did. -/
def voteOrdersUptoRow : OpenClaim := { program := "ytoojckkmalfimaa", sum := "854c3ce02079920b18f9e33727a5c0750e7afd4f4f6a14b80dfe7eb81cad53ff", func := "redundancy/redundancylaw31.VoteOrders", spec := "voteOrders", unfollowed := true, recurses := true, apart := false, narrowed := true }
def VoteOrdersUptoSaid : Prop := voteOrdersUptoRow.holds Try.pinned (OpenSpec.upto voteOrdersSpec)

/-- 'redundancylaw31.VoteNumbers', WHERE WHAT IT READS IS OF BULK AT MOST 1048576: true; the input reads as it did. -/
def voteNumbersUptoRow : OpenClaim := { program := "ytoojckkmalfimaa", sum := "854c3ce02079920b18f9e33727a5c0750e7afd4f4f6a14b80dfe7eb81cad53ff", func := "redundancy/redundancylaw31.VoteNumbers", spec := "voteNumbers", unfollowed := true, recurses := true, apart := false, narrowed := true }
def VoteNumbersUptoSaid : Prop := voteNumbersUptoRow.holds Try.pinned (OpenSpec.upto voteNumbersSpec)

end Rows
end Go.Proofs.Ytoojckkmalfimaa
