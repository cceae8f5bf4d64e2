/-
  No cell of these rows narrows 'for every input' (looked for: loops, veiled, ifaces, maps, wideKeys, modest, calm, conditions, laid).
  DERIVED. THE GIVEN ROWS OF THIS SEAT. 2 by the template 'for every input the law returns true; each argument reads behind the call as it read before'; 0 by the template 'total and deterministic' (their statements: YtmaikkanfhbiaaaTotals.lean).
  GIVEN WITH THE SEED: the statements are not yours to turn. If you find one false, say at which input.
  Laid BY PROGRAM, IN A SANDBOX (cutbox-rows.mjs): the forced cells as the released guide's own fill.sh prints them over the translation 87b3153e9a3f3714… (all of the seat's roots in one cut). By AI agents, Wed Nov 11 2026. No macro, syntax, notation, axiom, sorry.
-/
import Derived.Test.YtmaikkanfhbiaaaChecked
import GoSem.Claim
import GoSem.ClaimJoined
import GoSem.ClaimMapViews
import Derived.JoinedTies
import Derived.KernelRfl
namespace Go.Proofs.Ytmaikkanfhbiaaa
/- THE CELL 'sum', in the pinned program and in every row, IS THE sha256 OF THE DUMP (.gsa) THAT YtmaikkanfhbiaaaProg.lean LOADS. Nothing in Lean hashes anything: it is a label: what it is worth is what the hold of that sum in a sandbox is worth. -/
noncomputable def Try.pinned : Pinned := { name := "ytmaikkanfhbiaaa", sum := "87b3153e9a3f371447431bc79731dbc115e9dd102e749d4d83b24956fce98705", checked := Try.checked }
namespace Rows
def none {H : Type} : Left H := { results := [], args := [] }

/-- 'redundancylaw43.RatesAdd': WHATEVER THE INPUT: true; the input reads as it did. -/
def ratesAddSpec : ChangeSpec := { name := "ratesAdd", fn := fun _ => fun
  | [d1, d2, d3] => { results := [.lit (.bool true)], args := [d1, d2, d3] }
  | _ => none }
def ratesAddRow : OpenClaim := { program := "ytmaikkanfhbiaaa", sum := "87b3153e9a3f371447431bc79731dbc115e9dd102e749d4d83b24956fce98705", func := "redundancy/redundancylaw43.RatesAdd", spec := "ratesAdd", apart := false }
def RatesAddSaid : Prop := ratesAddRow.holds Try.pinned (OpenSpec.ofChange ratesAddSpec)

/-- ITS FALSE NEIGHBOUR: 'it returns false'. Refute it at one input. -/
def ratesAddWrong : ChangeSpec := { name := "ratesAdd", fn := fun _ => fun
  | [d1, d2, d3] => { results := [.lit (.bool false)], args := [d1, d2, d3] }
  | _ => none }
def RatesAddWrongFalsely : Prop := ratesAddRow.holds Try.pinned (OpenSpec.ofChange ratesAddWrong)

/-- 'redundancylaw43.RatesAdvise': WHATEVER THE INPUT: true; the input reads as it did. -/
def ratesAdviseSpec : ChangeSpec := { name := "ratesAdvise", fn := fun _ => fun
  | [d1, d2, d3, d4, d5] => { results := [.lit (.bool true)], args := [d1, d2, d3, d4, d5] }
  | _ => none }
def ratesAdviseRow : OpenClaim := { program := "ytmaikkanfhbiaaa", sum := "87b3153e9a3f371447431bc79731dbc115e9dd102e749d4d83b24956fce98705", func := "redundancy/redundancylaw43.RatesAdvise", spec := "ratesAdvise", apart := false }
def RatesAdviseSaid : Prop := ratesAdviseRow.holds Try.pinned (OpenSpec.ofChange ratesAdviseSpec)

/-- ITS FALSE NEIGHBOUR: 'it returns false'. Refute it at one input. -/
def ratesAdviseWrong : ChangeSpec := { name := "ratesAdvise", fn := fun _ => fun
  | [d1, d2, d3, d4, d5] => { results := [.lit (.bool false)], args := [d1, d2, d3, d4, d5] }
  | _ => none }
def RatesAdviseWrongFalsely : Prop := ratesAdviseRow.holds Try.pinned (OpenSpec.ofChange ratesAdviseWrong)

/- THE SECOND FORM. 'bulk': how many values and letters a reading holds, each counted each time it is reached (what is shared counts as often as it is met; a slice's spare places count too). A statement '..UptoSaid' is the law's where the arguments, and the package variables that the reading takes, are together of bulk at most 1048576: NARROWER than '..Said'. Prove '..Said' where nothing that the law and all that it calls make is longer than what came in: it says more and counts as full. Else prove '..UptoSaid'. A law counts once. -/
mutual
def uptoBulk {H : Type} : DataW H → Nat
  | .lit (.string bytes) => bytes.length + 1
  | .lit _ => 1
  | .nil => 1
  | .ptr d => uptoBulk d + 1
  | .slice elems spare => uptoBulkAll elems + uptoBulkAll spare + 1
  | .agg parts => uptoBulkAll parts + 1
  | .iface _ d => uptoBulk d + 1
  | .map entries => uptoBulkEntries entries + 1
  | .held _ => 1
def uptoBulkAll {H : Type} : List (DataW H) → Nat
  | [] => 0
  | d :: r => uptoBulk d + uptoBulkAll r
def uptoBulkEntries {H : Type} : List (Lit × DataW H) → Nat
  | [] => 0
  | x :: r => uptoBulkEntry x + uptoBulkEntries r
def uptoBulkEntry {H : Type} : Lit × DataW H → Nat
  | (.string bytes, d) => bytes.length + uptoBulk d + 1
  | (_, d) => uptoBulk d + 1
 end
def uptoSmall : (H : Type) → List (DataW H) → Bool := fun _ ds => decide (uptoBulkAll ds ≤ 1048576)
def OpenSpec.upto (s : _root_.Go.ChangeSpec) : _root_.Go.OpenSpec := { _root_.Go.OpenSpec.ofChange s with cond := some uptoSmall }

/-- 'redundancylaw43.RatesAdd', WHERE WHAT IT READS IS OF BULK AT MOST 1048576: true; the input reads as it did. -/
def ratesAddUptoRow : OpenClaim := { program := "ytmaikkanfhbiaaa", sum := "87b3153e9a3f371447431bc79731dbc115e9dd102e749d4d83b24956fce98705", func := "redundancy/redundancylaw43.RatesAdd", spec := "ratesAdd", apart := false, narrowed := true }
def RatesAddUptoSaid : Prop := ratesAddUptoRow.holds Try.pinned (OpenSpec.upto ratesAddSpec)

/-- 'redundancylaw43.RatesAdvise', WHERE WHAT IT READS IS OF BULK AT MOST 1048576: true; the input reads as it did. -/
def ratesAdviseUptoRow : OpenClaim := { program := "ytmaikkanfhbiaaa", sum := "87b3153e9a3f371447431bc79731dbc115e9dd102e749d4d83b24956fce98705", func := "redundancy/redundancylaw43.RatesAdvise", spec := "ratesAdvise", apart := false, narrowed := true }
def RatesAdviseUptoSaid : Prop := ratesAdviseUptoRow.holds Try.pinned (OpenSpec.upto ratesAdviseSpec)

end Rows
end Go.Proofs.Ytmaikkanfhbiaaa
