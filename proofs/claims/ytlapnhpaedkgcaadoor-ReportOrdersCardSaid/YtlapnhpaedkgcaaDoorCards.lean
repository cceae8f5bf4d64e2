/-
  DERIVED. GIVEN WITH THE SEED: THE CARDS: each row of YtlapnhpaedkgcaaDoorRows.lean that lists a variable, with what it lists TIED to the program's text (the seventh form; the later family's looks); each row that meets fmt, with fmt's text TOLD by the authors' own Lean function (tested against real Go, not proved from fmt's source: count such statements apart). THE CARD IS WHAT COUNTS. Prove the row's statement (the work); the ties are given (YtlapnhpaedkgcaaDoorTie.lean); close each card by the builder's one call (the guide's Derived/Test/ToyasCard.lean, 'card_holds'). Laid BY PROGRAM, IN A SANDBOX (cutbox-door.mjs). By AI agents, Wed Nov 11 2026. No macro, syntax, notation, axiom, sorry.
-/
import Derived.Test.YtlapnhpaedkgcaaDoorRows
import GoSem.ClaimSeven
namespace Go.Proofs.YtlapnhpaedkgcaaDoor
namespace Rows

/-- THE TIED CARD OF 'redundancylaw42.ReportOrders'. -/
def reportOrdersCard : Claim7 := { stood := { row := reportOrdersRow, standIns := [], harness := (true, "38cf456ddcfc624a34bcbff31187ee9464339fbaf52d0753972483ba14256483"), looks := false }, kinds := [], alts := [], laidByText := true, laidKinds := [.data, .data, .data], laidTests := true, laidLooks := .later }
def ReportOrdersCardSaid : Prop := Claim7.holds Tryd.pinned (.plain (OpenSpec.ofChange reportOrdersSpec)) reportOrdersCard

/-- THE TIED CARD OF 'redundancylaw42.ReportLines'. -/
def reportLinesCard : Claim7 := { stood := { row := reportLinesRow, standIns := [], harness := (true, "38cf456ddcfc624a34bcbff31187ee9464339fbaf52d0753972483ba14256483"), looks := false }, kinds := [], alts := [], laidByText := true, laidKinds := [.data, .data, .data], laidTests := true, laidLooks := .later }
def ReportLinesCardSaid : Prop := Claim7.holds Tryd.pinned (.plain (OpenSpec.ofChange reportLinesSpec)) reportLinesCard

/-- THE SECOND FORM's CARD OF 'redundancylaw42.ReportOrders'. -/
def reportOrdersUptoCard : Claim7 := { stood := { row := reportOrdersUptoRow, standIns := [], harness := (true, "38cf456ddcfc624a34bcbff31187ee9464339fbaf52d0753972483ba14256483"), looks := false }, kinds := [], alts := [], laidByText := true, laidKinds := [.data, .data, .data], laidTests := true, laidLooks := .later }
def ReportOrdersUptoCardSaid : Prop := Claim7.holds Tryd.pinned (.plain (OpenSpec.upto reportOrdersSpec)) reportOrdersUptoCard

/-- THE SECOND FORM's CARD OF 'redundancylaw42.ReportLines'. -/
def reportLinesUptoCard : Claim7 := { stood := { row := reportLinesUptoRow, standIns := [], harness := (true, "38cf456ddcfc624a34bcbff31187ee9464339fbaf52d0753972483ba14256483"), looks := false }, kinds := [], alts := [], laidByText := true, laidKinds := [.data, .data, .data], laidTests := true, laidLooks := .later }
def ReportLinesUptoCardSaid : Prop := Claim7.holds Tryd.pinned (.plain (OpenSpec.upto reportLinesSpec)) reportLinesUptoCard
end Rows
end Go.Proofs.YtlapnhpaedkgcaaDoor
