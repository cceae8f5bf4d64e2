/-
  No cell of these rows narrows 'for every input' (looked for: loops, veiled, ifaces, maps, wideKeys, modest, calm, conditions, laid).
  DERIVED. THE GIVEN ROWS OF THIS SEAT. 5 by the template 'for every input the law returns true; each argument reads behind the call as it read before'; 0 by the template 'total and deterministic' (their statements: YtgjmndpkjenchaaTotals.lean).
  GIVEN WITH THE SEED: the statements are not yours to turn. If you find one false, say at which input.
  Laid BY PROGRAM, IN A SANDBOX (cutbox-rows.mjs): the forced cells as the released guide's own fill.sh prints them over the translation bec22b89faf793ec… (all of the seat's roots in one cut). By AI agents, Wed Nov 11 2026. No macro, syntax, notation, axiom, sorry.
-/
import Derived.Test.YtgjmndpkjenchaaChecked
import GoSem.Claim
import GoSem.ClaimJoined
import GoSem.ClaimMapViews
import Derived.JoinedTies
import Derived.KernelRfl
namespace Go.Proofs.Ytgjmndpkjenchaa
/- THE CELL 'sum', in the pinned program and in every row, IS THE sha256 OF THE DUMP (.gsa) THAT YtgjmndpkjenchaaProg.lean LOADS. Nothing in Lean hashes anything: it is a label: what it is worth is what the hold of that sum in a sandbox is worth. -/
noncomputable def Try.pinned : Pinned := { name := "ytgjmndpkjenchaa", sum := "bec22b89faf793ecedc6462c1df6b4e31e20d16cd745c99652663ad21e3235e8", checked := Try.checked }
namespace Rows
def none {H : Type} : Left H := { results := [], args := [] }

/-- 'redundancylaw02.RegionShapes': WHATEVER THE INPUT: true; the input reads as it did. -/
def regionShapesSpec : ChangeSpec := { name := "regionShapes", fn := fun _ => fun
  | [d1, d2, d3, d4] => { results := [.lit (.bool true)], args := [d1, d2, d3, d4] }
  | _ => none }
def regionShapesRow : OpenClaim := { program := "ytgjmndpkjenchaa", sum := "bec22b89faf793ecedc6462c1df6b4e31e20d16cd745c99652663ad21e3235e8", func := "redundancy/redundancylaw02.RegionShapes", spec := "regionShapes", apart := false }
def RegionShapesSaid : Prop := regionShapesRow.holds Try.pinned (OpenSpec.ofChange regionShapesSpec)

/-- ITS FALSE NEIGHBOUR: 'it returns false'. Refute it at one input. -/
def regionShapesWrong : ChangeSpec := { name := "regionShapes", fn := fun _ => fun
  | [d1, d2, d3, d4] => { results := [.lit (.bool false)], args := [d1, d2, d3, d4] }
  | _ => none }
def RegionShapesWrongFalsely : Prop := regionShapesRow.holds Try.pinned (OpenSpec.ofChange regionShapesWrong)

/-- 'redundancylaw02.RegionCounts': WHATEVER THE INPUT: true; the input reads as it did. -/
def regionCountsSpec : ChangeSpec := { name := "regionCounts", fn := fun _ => fun
  | [d] => { results := [.lit (.bool true)], args := [d] }
  | _ => none }
def regionCountsRow : OpenClaim := { program := "ytgjmndpkjenchaa", sum := "bec22b89faf793ecedc6462c1df6b4e31e20d16cd745c99652663ad21e3235e8", func := "redundancy/redundancylaw02.RegionCounts", spec := "regionCounts", apart := false }
def RegionCountsSaid : Prop := regionCountsRow.holds Try.pinned (OpenSpec.ofChange regionCountsSpec)

/-- ITS FALSE NEIGHBOUR: 'it returns false'. Refute it at one input. -/
def regionCountsWrong : ChangeSpec := { name := "regionCounts", fn := fun _ => fun
  | [d] => { results := [.lit (.bool false)], args := [d] }
  | _ => none }
def RegionCountsWrongFalsely : Prop := regionCountsRow.holds Try.pinned (OpenSpec.ofChange regionCountsWrong)

/-- 'redundancylaw02.RegionInside': WHATEVER THE INPUT: true; the input reads as it did. -/
def regionInsideSpec : ChangeSpec := { name := "regionInside", fn := fun _ => fun
  | [d1, d2, d3] => { results := [.lit (.bool true)], args := [d1, d2, d3] }
  | _ => none }
def regionInsideRow : OpenClaim := { program := "ytgjmndpkjenchaa", sum := "bec22b89faf793ecedc6462c1df6b4e31e20d16cd745c99652663ad21e3235e8", func := "redundancy/redundancylaw02.RegionInside", spec := "regionInside", apart := false }
def RegionInsideSaid : Prop := regionInsideRow.holds Try.pinned (OpenSpec.ofChange regionInsideSpec)

/-- ITS FALSE NEIGHBOUR: 'it returns false'. Refute it at one input. -/
def regionInsideWrong : ChangeSpec := { name := "regionInside", fn := fun _ => fun
  | [d1, d2, d3] => { results := [.lit (.bool false)], args := [d1, d2, d3] }
  | _ => none }
def RegionInsideWrongFalsely : Prop := regionInsideRow.holds Try.pinned (OpenSpec.ofChange regionInsideWrong)

/-- 'redundancylaw02.RegionPages': WHATEVER THE INPUT: true; the input reads as it did. -/
def regionPagesSpec : ChangeSpec := { name := "regionPages", fn := fun _ => fun
  | [d] => { results := [.lit (.bool true)], args := [d] }
  | _ => none }
def regionPagesRow : OpenClaim := { program := "ytgjmndpkjenchaa", sum := "bec22b89faf793ecedc6462c1df6b4e31e20d16cd745c99652663ad21e3235e8", func := "redundancy/redundancylaw02.RegionPages", spec := "regionPages", apart := false }
def RegionPagesSaid : Prop := regionPagesRow.holds Try.pinned (OpenSpec.ofChange regionPagesSpec)

/-- ITS FALSE NEIGHBOUR: 'it returns false'. Refute it at one input. -/
def regionPagesWrong : ChangeSpec := { name := "regionPages", fn := fun _ => fun
  | [d] => { results := [.lit (.bool false)], args := [d] }
  | _ => none }
def RegionPagesWrongFalsely : Prop := regionPagesRow.holds Try.pinned (OpenSpec.ofChange regionPagesWrong)

/-- 'redundancylaw02.RegionPlaces': WHATEVER THE INPUT: true; the input reads as it did. -/
def regionPlacesSpec : ChangeSpec := { name := "regionPlaces", fn := fun _ => fun
  | [d1, d2, d3] => { results := [.lit (.bool true)], args := [d1, d2, d3] }
  | _ => none }
def regionPlacesRow : OpenClaim := { program := "ytgjmndpkjenchaa", sum := "bec22b89faf793ecedc6462c1df6b4e31e20d16cd745c99652663ad21e3235e8", func := "redundancy/redundancylaw02.RegionPlaces", spec := "regionPlaces", apart := false }
def RegionPlacesSaid : Prop := regionPlacesRow.holds Try.pinned (OpenSpec.ofChange regionPlacesSpec)

/-- ITS FALSE NEIGHBOUR: 'it returns false'. Refute it at one input. -/
def regionPlacesWrong : ChangeSpec := { name := "regionPlaces", fn := fun _ => fun
  | [d1, d2, d3] => { results := [.lit (.bool false)], args := [d1, d2, d3] }
  | _ => none }
def RegionPlacesWrongFalsely : Prop := regionPlacesRow.holds Try.pinned (OpenSpec.ofChange regionPlacesWrong)

/- THE SECOND FORM. 'bulk': how many values and letters a reading holds, each counted each time it is reached (what is shared counts as often as it is met; a slice's spare places count too). A statement '..UptoSaid' is the law's where the arguments, and the package variables that the reading takes, are together of bulk at most 1048576: NARROWER than '..Said'. Prove '..Said' where nothing that the law and all that it calls make is longer than what came in: it says more and counts as full. Else prove '..UptoSaid'. A law counts once. -/
mutual
def uptoBulk {H : Type} : DataW H → Nat
  | .lit (.string bytes) => bytes.length + 1
  | .lit _ => 1
  | .nil => 1
  | .ptr d => uptoBulk d + 1
  | .slice elems spare => uptoBulkAll elems + uptoBulkAll spare + 1
  | .agg parts => uptoBulkAll parts + 1
  | .iface _ d => uptoBulk d + 1
  | .map entries => uptoBulkEntries entries + 1
  | .held _ => 1
def uptoBulkAll {H : Type} : List (DataW H) → Nat
  | [] => 0
  | d :: r => uptoBulk d + uptoBulkAll r
def uptoBulkEntries {H : Type} : List (Lit × DataW H) → Nat
  | [] => 0
  | x :: r => uptoBulkEntry x + uptoBulkEntries r
def uptoBulkEntry {H : Type} : Lit × DataW H → Nat
  | (.string bytes, d) => bytes.length + uptoBulk d + 1
  | (_, d) => uptoBulk d + 1
 end
def uptoSmall : (H : Type) → List (DataW H) → Bool := fun _ ds => decide (uptoBulkAll ds ≤ 1048576)
def OpenSpec.upto (s : _root_.Go.ChangeSpec) : _root_.Go.OpenSpec := { _root_.Go.OpenSpec.ofChange s with cond := some uptoSmall }

/-- 'redundancylaw02.RegionShapes', WHERE WHAT IT READS IS OF BULK AT MOST 1048576: true; the input reads as it did. -/
def regionShapesUptoRow : OpenClaim := { program := "ytgjmndpkjenchaa", sum := "bec22b89faf793ecedc6462c1df6b4e31e20d16cd745c99652663ad21e3235e8", func := "redundancy/redundancylaw02.RegionShapes", spec := "regionShapes", apart := false, narrowed := true }
def RegionShapesUptoSaid : Prop := regionShapesUptoRow.holds Try.pinned (OpenSpec.upto regionShapesSpec)

/-- 'redundancylaw02.RegionCounts', WHERE WHAT IT READS IS OF BULK AT MOST 1048576: true; the input reads as it did. -/
def regionCountsUptoRow : OpenClaim := { program := "ytgjmndpkjenchaa", sum := "bec22b89faf793ecedc6462c1df6b4e31e20d16cd745c99652663ad21e3235e8", func := "redundancy/redundancylaw02.RegionCounts", spec := "regionCounts", apart := false, narrowed := true }
def RegionCountsUptoSaid : Prop := regionCountsUptoRow.holds Try.pinned (OpenSpec.upto regionCountsSpec)

/-- 'redundancylaw02.RegionInside', WHERE WHAT IT READS IS OF BULK AT MOST 1048576: true; the input reads as it did. -/
def regionInsideUptoRow : OpenClaim := { program := "ytgjmndpkjenchaa", sum := "bec22b89faf793ecedc6462c1df6b4e31e20d16cd745c99652663ad21e3235e8", func := "redundancy/redundancylaw02.RegionInside", spec := "regionInside", apart := false, narrowed := true }
def RegionInsideUptoSaid : Prop := regionInsideUptoRow.holds Try.pinned (OpenSpec.upto regionInsideSpec)

/-- 'redundancylaw02.RegionPages', WHERE WHAT IT READS IS OF BULK AT MOST 1048576: true; the input reads as it did. -/
def regionPagesUptoRow : OpenClaim := { program := "ytgjmndpkjenchaa", sum := "bec22b89faf793ecedc6462c1df6b4e31e20d16cd745c99652663ad21e3235e8", func := "redundancy/redundancylaw02.RegionPages", spec := "regionPages", apart := false, narrowed := true }
def RegionPagesUptoSaid : Prop := regionPagesUptoRow.holds Try.pinned (OpenSpec.upto regionPagesSpec)

/-- 'redundancylaw02.RegionPlaces', WHERE WHAT IT READS IS OF BULK AT MOST 1048576: true; the input reads as it did. -/
def regionPlacesUptoRow : OpenClaim := { program := "ytgjmndpkjenchaa", sum := "bec22b89faf793ecedc6462c1df6b4e31e20d16cd745c99652663ad21e3235e8", func := "redundancy/redundancylaw02.RegionPlaces", spec := "regionPlaces", apart := false, narrowed := true }
def RegionPlacesUptoSaid : Prop := regionPlacesUptoRow.holds Try.pinned (OpenSpec.upto regionPlacesSpec)

end Rows
end Go.Proofs.Ytgjmndpkjenchaa
