/-
  No cell of these rows narrows 'for every input' (looked for: loops, veiled, ifaces, maps, wideKeys, modest, calm, conditions, laid).
  DERIVED. THE GIVEN ROWS OF THIS SEAT. 4 by the template 'for every input the law returns true; each argument reads behind the call as it read before'; 0 by the template 'total and deterministic' (their statements: YtfcmejcmijjnpaaTotals.lean).
  GIVEN WITH THE SEED: the statements are not yours to turn. If you find one false, say at which input.
  Laid BY PROGRAM, IN A SANDBOX (cutbox-rows.mjs): the forced cells as the released guide's own fill.sh prints them over the translation 79fce37ae758e33c… (all of the seat's roots in one cut). By AI agents, Wed Nov 11 2026. No macro, syntax, notation, axiom, sorry.
-/
import Derived.Test.YtfcmejcmijjnpaaChecked
import GoSem.Claim
import GoSem.ClaimJoined
import GoSem.ClaimMapViews
import Derived.JoinedTies
import Derived.KernelRfl
namespace Go.Proofs.Ytfcmejcmijjnpaa
/- THE CELL 'sum', in the pinned program and in every row, IS THE sha256 OF THE DUMP (.gsa) THAT YtfcmejcmijjnpaaProg.lean LOADS. Nothing in Lean hashes anything: it is a label: what it is worth is what the hold of that sum in a sandbox is worth. -/
noncomputable def Try.pinned : Pinned := { name := "ytfcmejcmijjnpaa", sum := "79fce37ae758e33c37c05631a6a98af8a003db6551a6c5972992541617c1327c", checked := Try.checked }
namespace Rows
def none {H : Type} : Left H := { results := [], args := [] }

/-- 'redundancylaw15.LockOrder': WHATEVER THE INPUT: true; the input reads as it did. -/
def lockOrderSpec : ChangeSpec := { name := "lockOrder", fn := fun _ => fun
  | [d] => { results := [.lit (.bool true)], args := [d] }
  | _ => none }
def lockOrderRow : OpenClaim := { program := "ytfcmejcmijjnpaa", sum := "79fce37ae758e33c37c05631a6a98af8a003db6551a6c5972992541617c1327c", func := "redundancy/redundancylaw15.LockOrder", spec := "lockOrder", unfollowed := true, recurses := true, apart := false }
def LockOrderSaid : Prop := lockOrderRow.holds Try.pinned (OpenSpec.ofChange lockOrderSpec)

/-- ITS FALSE NEIGHBOUR: 'it returns false'. Refute it at one input. -/
def lockOrderWrong : ChangeSpec := { name := "lockOrder", fn := fun _ => fun
  | [d] => { results := [.lit (.bool false)], args := [d] }
  | _ => none }
def LockOrderWrongFalsely : Prop := lockOrderRow.holds Try.pinned (OpenSpec.ofChange lockOrderWrong)

/-- 'redundancylaw15.LockBack': WHATEVER THE INPUT: true; the input reads as it did. -/
def lockBackSpec : ChangeSpec := { name := "lockBack", fn := fun _ => fun
  | [d1, d2, d3] => { results := [.lit (.bool true)], args := [d1, d2, d3] }
  | _ => none }
def lockBackRow : OpenClaim := { program := "ytfcmejcmijjnpaa", sum := "79fce37ae758e33c37c05631a6a98af8a003db6551a6c5972992541617c1327c", func := "redundancy/redundancylaw15.LockBack", spec := "lockBack", unfollowed := true, recurses := true, apart := false }
def LockBackSaid : Prop := lockBackRow.holds Try.pinned (OpenSpec.ofChange lockBackSpec)

/-- ITS FALSE NEIGHBOUR: 'it returns false'. Refute it at one input. -/
def lockBackWrong : ChangeSpec := { name := "lockBack", fn := fun _ => fun
  | [d1, d2, d3] => { results := [.lit (.bool false)], args := [d1, d2, d3] }
  | _ => none }
def LockBackWrongFalsely : Prop := lockBackRow.holds Try.pinned (OpenSpec.ofChange lockBackWrong)

/-- 'redundancylaw15.LockApart': WHATEVER THE INPUT: true; the input reads as it did. -/
def lockApartSpec : ChangeSpec := { name := "lockApart", fn := fun _ => fun
  | [d1, d2, d3] => { results := [.lit (.bool true)], args := [d1, d2, d3] }
  | _ => none }
def lockApartRow : OpenClaim := { program := "ytfcmejcmijjnpaa", sum := "79fce37ae758e33c37c05631a6a98af8a003db6551a6c5972992541617c1327c", func := "redundancy/redundancylaw15.LockApart", spec := "lockApart", unfollowed := true, recurses := true, apart := false }
def LockApartSaid : Prop := lockApartRow.holds Try.pinned (OpenSpec.ofChange lockApartSpec)

/-- ITS FALSE NEIGHBOUR: 'it returns false'. Refute it at one input. -/
def lockApartWrong : ChangeSpec := { name := "lockApart", fn := fun _ => fun
  | [d1, d2, d3] => { results := [.lit (.bool false)], args := [d1, d2, d3] }
  | _ => none }
def LockApartWrongFalsely : Prop := lockApartRow.holds Try.pinned (OpenSpec.ofChange lockApartWrong)

/-- 'redundancylaw15.LockDrops': WHATEVER THE INPUT: true; the input reads as it did. -/
def lockDropsSpec : ChangeSpec := { name := "lockDrops", fn := fun _ => fun
  | [d1, d2] => { results := [.lit (.bool true)], args := [d1, d2] }
  | _ => none }
def lockDropsRow : OpenClaim := { program := "ytfcmejcmijjnpaa", sum := "79fce37ae758e33c37c05631a6a98af8a003db6551a6c5972992541617c1327c", func := "redundancy/redundancylaw15.LockDrops", spec := "lockDrops", unfollowed := true, recurses := true, apart := false }
def LockDropsSaid : Prop := lockDropsRow.holds Try.pinned (OpenSpec.ofChange lockDropsSpec)

/-- ITS FALSE NEIGHBOUR: 'it returns false'. Refute it at one input. -/
def lockDropsWrong : ChangeSpec := { name := "lockDrops", fn := fun _ => fun
  | [d1, d2] => { results := [.lit (.bool false)], args := [d1, d2] }
  | _ => none }
def LockDropsWrongFalsely : Prop := lockDropsRow.holds Try.pinned (OpenSpec.ofChange lockDropsWrong)

/- THE SECOND FORM. 'bulk': how many values and letters a reading holds, each counted each time it is reached (what is shared counts as often as it is met; a slice's spare places count too). A statement '..UptoSaid' is the law's where the arguments, and the package variables that the reading takes, are together of bulk at most 1048576: NARROWER than '..Said'. Prove '..Said' where nothing that the law and all that it calls make is longer than what came in: it says more and counts as full. Else prove '..UptoSaid'. A law counts once. -/
mutual
def uptoBulk {H : Type} : DataW H → Nat
  | .lit (.string bytes) => bytes.length + 1
  | .lit _ => 1
  | .nil => 1
  | .ptr d => uptoBulk d + 1
  | .slice elems spare => uptoBulkAll elems + uptoBulkAll spare + 1
  | .agg parts => uptoBulkAll parts + 1
  | .iface _ d => uptoBulk d + 1
  | .map entries => uptoBulkEntries entries + 1
  | .held _ => 1
def uptoBulkAll {H : Type} : List (DataW H) → Nat
  | [] => 0
  | d :: r => uptoBulk d + uptoBulkAll r
def uptoBulkEntries {H : Type} : List (Lit × DataW H) → Nat
  | [] => 0
  | x :: r => uptoBulkEntry x + uptoBulkEntries r
def uptoBulkEntry {H : Type} : Lit × DataW H → Nat
  | (.string bytes, d) => bytes.length + uptoBulk d + 1
  | (_, d) => uptoBulk d + 1
 end
def uptoSmall : (H : Type) → List (DataW H) → Bool := fun _ ds => decide (uptoBulkAll ds ≤ 1048576)
def OpenSpec.upto (s : _root_.Go.ChangeSpec) : _root_.Go.OpenSpec := { _root_.Go.OpenSpec.ofChange s with cond := some uptoSmall }

/-- 'redundancylaw15.LockOrder', WHERE WHAT IT READS IS OF BULK AT MOST 1048576: true; the input reads as it did. -/
def lockOrderUptoRow : OpenClaim := { program := "ytfcmejcmijjnpaa", sum := "79fce37ae758e33c37c05631a6a98af8a003db6551a6c5972992541617c1327c", func := "redundancy/redundancylaw15.LockOrder", spec := "lockOrder", unfollowed := true, recurses := true, apart := false, narrowed := true }
def LockOrderUptoSaid : Prop := lockOrderUptoRow.holds Try.pinned (OpenSpec.upto lockOrderSpec)

/-- 'redundancylaw15.LockBack', WHERE WHAT IT READS IS OF BULK AT MOST 1048576: true; the input reads as it did. -/
def lockBackUptoRow : OpenClaim := { program := "ytfcmejcmijjnpaa", sum := "79fce37ae758e33c37c05631a6a98af8a003db6551a6c5972992541617c1327c", func := "redundancy/redundancylaw15.LockBack", spec := "lockBack", unfollowed := true, recurses := true, apart := false, narrowed := true }
def LockBackUptoSaid : Prop := lockBackUptoRow.holds Try.pinned (OpenSpec.upto lockBackSpec)

/-- 'redundancylaw15.LockApart', WHERE WHAT IT READS IS OF BULK AT MOST 1048576: true; the input reads as it did. -/
def lockApartUptoRow : OpenClaim := { program := "ytfcmejcmijjnpaa", sum := "79fce37ae758e33c37c05631a6a98af8a003db6551a6c5972992541617c1327c", func := "redundancy/redundancylaw15.LockApart", spec := "lockApart", unfollowed := true, recurses := true, apart := false, narrowed := true }
def LockApartUptoSaid : Prop := lockApartUptoRow.holds Try.pinned (OpenSpec.upto lockApartSpec)

/-- 'redundancylaw15.LockDrops', WHERE WHAT IT READS IS OF BULK AT MOST 1048576: true; the input reads as it did. -/
def lockDropsUptoRow : OpenClaim := { program := "ytfcmejcmijjnpaa", sum := "79fce37ae758e33c37c05631a6a98af8a003db6551a6c5972992541617c1327c", func := "redundancy/redundancylaw15.LockDrops", spec := "lockDrops", unfollowed := true, recurses := true, apart := false, narrowed := true }
def LockDropsUptoSaid : Prop := lockDropsUptoRow.holds Try.pinned (OpenSpec.upto lockDropsSpec)

end Rows
end Go.Proofs.Ytfcmejcmijjnpaa
