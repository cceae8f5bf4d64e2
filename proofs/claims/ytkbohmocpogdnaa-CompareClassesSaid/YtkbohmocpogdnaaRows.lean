/-
  No cell of these rows narrows 'for every input' (looked for: loops, veiled, ifaces, maps, wideKeys, modest, calm, conditions, laid).
  DERIVED. THE GIVEN ROWS OF THIS SEAT. 4 by the template 'for every input the law returns true; each argument reads behind the call as it read before'; 0 by the template 'total and deterministic' (their statements: YtkbohmocpogdnaaTotals.lean).
  GIVEN WITH THE SEED: the statements are not yours to turn. If you find one false, say at which input.
  Laid BY PROGRAM, IN A SANDBOX (cutbox-rows.mjs): the forced cells as the released guide's own fill.sh prints them over the translation 3d5b1bf527e6671c… (all of the seat's roots in one cut). By AI agents, Wed Nov 11 2026. No macro, syntax, notation, axiom, sorry.
-/
import Derived.Test.YtkbohmocpogdnaaChecked
import GoSem.Claim
import GoSem.ClaimJoined
import GoSem.ClaimMapViews
import Derived.JoinedTies
import Derived.KernelRfl
namespace Go.Proofs.Ytkbohmocpogdnaa
/- THE CELL 'sum', in the pinned program and in every row, IS THE sha256 OF THE DUMP (.gsa) THAT YtkbohmocpogdnaaProg.lean LOADS. Nothing in Lean hashes anything: it is a label: what it is worth is what the hold of that sum in a sandbox is worth. -/
noncomputable def Try.pinned : Pinned := { name := "ytkbohmocpogdnaa", sum := "3d5b1bf527e6671cebc4f8b858f7c9a6969c9f3bdc6f66966f621b4917703ed8", checked := Try.checked }
namespace Rows
def none {H : Type} : Left H := { results := [], args := [] }

/-- 'redundancylaw30.CompareRaw': WHATEVER THE INPUT: true; the input reads as it did. -/
def compareRawSpec : ChangeSpec := { name := "compareRaw", fn := fun _ => fun
  | [d1, d2, d3, d4] => { results := [.lit (.bool true)], args := [d1, d2, d3, d4] }
  | _ => none }
def compareRawRow : OpenClaim := { program := "ytkbohmocpogdnaa", sum := "3d5b1bf527e6671cebc4f8b858f7c9a6969c9f3bdc6f66966f621b4917703ed8", func := "redundancy/redundancylaw30.CompareRaw", spec := "compareRaw", unfollowed := true, recurses := true, apart := false }
def CompareRawSaid : Prop := compareRawRow.holds Try.pinned (OpenSpec.ofChange compareRawSpec)

/-- ITS FALSE NEIGHBOUR: 'it returns false'. Refute it at one input. -/
def compareRawWrong : ChangeSpec := { name := "compareRaw", fn := fun _ => fun
  | [d1, d2, d3, d4] => { results := [.lit (.bool false)], args := [d1, d2, d3, d4] }
  | _ => none }
def CompareRawWrongFalsely : Prop := compareRawRow.holds Try.pinned (OpenSpec.ofChange compareRawWrong)

/-- 'redundancylaw30.CompareClasses': WHATEVER THE INPUT: true; the input reads as it did. -/
def compareClassesSpec : ChangeSpec := { name := "compareClasses", fn := fun _ => fun
  | [d1, d2] => { results := [.lit (.bool true)], args := [d1, d2] }
  | _ => none }
def compareClassesRow : OpenClaim := { program := "ytkbohmocpogdnaa", sum := "3d5b1bf527e6671cebc4f8b858f7c9a6969c9f3bdc6f66966f621b4917703ed8", func := "redundancy/redundancylaw30.CompareClasses", spec := "compareClasses", unfollowed := true, recurses := true, apart := false }
def CompareClassesSaid : Prop := compareClassesRow.holds Try.pinned (OpenSpec.ofChange compareClassesSpec)

/-- ITS FALSE NEIGHBOUR: 'it returns false'. Refute it at one input. -/
def compareClassesWrong : ChangeSpec := { name := "compareClasses", fn := fun _ => fun
  | [d1, d2] => { results := [.lit (.bool false)], args := [d1, d2] }
  | _ => none }
def CompareClassesWrongFalsely : Prop := compareClassesRow.holds Try.pinned (OpenSpec.ofChange compareClassesWrong)

/-- 'redundancylaw30.CompareFirst': WHATEVER THE INPUT: true; the input reads as it did. -/
def compareFirstSpec : ChangeSpec := { name := "compareFirst", fn := fun _ => fun
  | [d1, d2, d3, d4] => { results := [.lit (.bool true)], args := [d1, d2, d3, d4] }
  | _ => none }
def compareFirstRow : OpenClaim := { program := "ytkbohmocpogdnaa", sum := "3d5b1bf527e6671cebc4f8b858f7c9a6969c9f3bdc6f66966f621b4917703ed8", func := "redundancy/redundancylaw30.CompareFirst", spec := "compareFirst", unfollowed := true, recurses := true, apart := false }
def CompareFirstSaid : Prop := compareFirstRow.holds Try.pinned (OpenSpec.ofChange compareFirstSpec)

/-- ITS FALSE NEIGHBOUR: 'it returns false'. Refute it at one input. -/
def compareFirstWrong : ChangeSpec := { name := "compareFirst", fn := fun _ => fun
  | [d1, d2, d3, d4] => { results := [.lit (.bool false)], args := [d1, d2, d3, d4] }
  | _ => none }
def CompareFirstWrongFalsely : Prop := compareFirstRow.holds Try.pinned (OpenSpec.ofChange compareFirstWrong)

/-- 'redundancylaw30.CompareSame': WHATEVER THE INPUT: true; the input reads as it did. -/
def compareSameSpec : ChangeSpec := { name := "compareSame", fn := fun _ => fun
  | [d1, d2, d3] => { results := [.lit (.bool true)], args := [d1, d2, d3] }
  | _ => none }
def compareSameRow : OpenClaim := { program := "ytkbohmocpogdnaa", sum := "3d5b1bf527e6671cebc4f8b858f7c9a6969c9f3bdc6f66966f621b4917703ed8", func := "redundancy/redundancylaw30.CompareSame", spec := "compareSame", unfollowed := true, recurses := true, apart := false }
def CompareSameSaid : Prop := compareSameRow.holds Try.pinned (OpenSpec.ofChange compareSameSpec)

/-- ITS FALSE NEIGHBOUR: 'it returns false'. Refute it at one input. -/
def compareSameWrong : ChangeSpec := { name := "compareSame", fn := fun _ => fun
  | [d1, d2, d3] => { results := [.lit (.bool false)], args := [d1, d2, d3] }
  | _ => none }
def CompareSameWrongFalsely : Prop := compareSameRow.holds Try.pinned (OpenSpec.ofChange compareSameWrong)

/- THE SECOND FORM. 'bulk': how many values and letters a reading holds, each counted each time it is reached (what is shared counts as often as it is met; a slice's spare places count too). A statement '..UptoSaid' is the law's where the arguments, and the package variables that the reading takes, are together of bulk at most 1048576: NARROWER than '..Said'. Prove '..Said' where nothing that the law and all that it calls make is longer than what came in: it says more and counts as full. Else prove '..UptoSaid'. A law counts once. -/
mutual
def uptoBulk {H : Type} : DataW H → Nat
  | .lit (.string bytes) => bytes.length + 1
  | .lit _ => 1
  | .nil => 1
  | .ptr d => uptoBulk d + 1
  | .slice elems spare => uptoBulkAll elems + uptoBulkAll spare + 1
  | .agg parts => uptoBulkAll parts + 1
  | .iface _ d => uptoBulk d + 1
  | .map entries => uptoBulkEntries entries + 1
  | .held _ => 1
def uptoBulkAll {H : Type} : List (DataW H) → Nat
  | [] => 0
  | d :: r => uptoBulk d + uptoBulkAll r
def uptoBulkEntries {H : Type} : List (Lit × DataW H) → Nat
  | [] => 0
  | x :: r => uptoBulkEntry x + uptoBulkEntries r
def uptoBulkEntry {H : Type} : Lit × DataW H → Nat
  | (.string bytes, d) => bytes.length + uptoBulk d + 1
  | (_, d) => uptoBulk d + 1
 end
def uptoSmall : (H : Type) → List (DataW H) → Bool := fun _ ds => decide (uptoBulkAll ds ≤ 1048576)
def OpenSpec.upto (s : _root_.Go.ChangeSpec) : _root_.Go.OpenSpec := { _root_.Go.OpenSpec.ofChange s with cond := some uptoSmall }

/-- 'redundancylaw30.CompareRaw', WHERE WHAT IT READS IS OF BULK AT MOST 1048576: true; the input reads as it did. -/
def compareRawUptoRow : OpenClaim := { program := "ytkbohmocpogdnaa", sum := "3d5b1bf527e6671cebc4f8b858f7c9a6969c9f3bdc6f66966f621b4917703ed8", func := "redundancy/redundancylaw30.CompareRaw", spec := "compareRaw", unfollowed := true, recurses := true, apart := false, narrowed := true }
def CompareRawUptoSaid : Prop := compareRawUptoRow.holds Try.pinned (OpenSpec.upto compareRawSpec)

/-- 'redundancylaw30.CompareClasses', WHERE WHAT IT READS IS OF BULK AT MOST 1048576: true; the input reads as it did. -/
def compareClassesUptoRow : OpenClaim := { program := "ytkbohmocpogdnaa", sum := "3d5b1bf527e6671cebc4f8b858f7c9a6969c9f3bdc6f66966f621b4917703ed8", func := "redundancy/redundancylaw30.CompareClasses", spec := "compareClasses", unfollowed := true, recurses := true, apart := false, narrowed := true }
def CompareClassesUptoSaid : Prop := compareClassesUptoRow.holds Try.pinned (OpenSpec.upto compareClassesSpec)

/-- 'redundancylaw30.CompareFirst', WHERE WHAT IT READS IS OF BULK AT MOST 1048576: true; the input reads as it did. -/
def compareFirstUptoRow : OpenClaim := { program := "ytkbohmocpogdnaa", sum := "3d5b1bf527e6671cebc4f8b858f7c9a6969c9f3bdc6f66966f621b4917703ed8", func := "redundancy/redundancylaw30.CompareFirst", spec := "compareFirst", unfollowed := true, recurses := true, apart := false, narrowed := true }
def CompareFirstUptoSaid : Prop := compareFirstUptoRow.holds Try.pinned (OpenSpec.upto compareFirstSpec)

/-- 'redundancylaw30.CompareSame', WHERE WHAT IT READS IS OF BULK AT MOST 1048576: true; the input reads as it did. -/
def compareSameUptoRow : OpenClaim := { program := "ytkbohmocpogdnaa", sum := "3d5b1bf527e6671cebc4f8b858f7c9a6969c9f3bdc6f66966f621b4917703ed8", func := "redundancy/redundancylaw30.CompareSame", spec := "compareSame", unfollowed := true, recurses := true, apart := false, narrowed := true }
def CompareSameUptoSaid : Prop := compareSameUptoRow.holds Try.pinned (OpenSpec.upto compareSameSpec)

end Rows
end Go.Proofs.Ytkbohmocpogdnaa
