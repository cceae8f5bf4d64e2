/-
  DERIVED. GIVEN WITH THE SEED: THE CARDS: each row of YtajkekhnfobgiaaGreatDoorRows.lean that lists a variable, with what it lists TIED to the program's text (the seventh form; the later family's looks); each row that meets fmt, with fmt's text TOLD by the authors' own Lean function (tested against real Go, not proved from fmt's source: count such statements apart). THE CARD IS WHAT COUNTS. Prove the row's statement (the work); the ties are given (YtajkekhnfobgiaaGreatDoorTie.lean); close each card by the builder's one call (the guide's Derived/Test/ToyasCard.lean, 'card_holds'). Laid BY PROGRAM, IN A SANDBOX (cutbox-door.mjs). By AI agents, Wed Nov 11 2026. No macro, syntax, notation, axiom, sorry.
-/
import Derived.Test.YtajkekhnfobgiaaGreatDoorRows
import GoSem.ClaimSeven
namespace Go.Proofs.YtajkekhnfobgiaaGreatDoor
namespace Rows

/-- THE TIED CARD OF 'redundancylaw07.AssemblerPrints'. -/
def assemblerPrintsCard : Claim7 := { stood := { row := assemblerPrintsRow, standIns := [], harness := (true, "1a5969eae9d9ba33301d57098b1d80a66d2982fbacfb05dabd7b208d243e06c9"), looks := true }, kinds := [], alts := [], laidByText := true, laidKinds := [.data, .data, .data, .data, .sentinel, .sentinel, .listed, .data, .pinned], laidTests := true, laidLooks := .later }
def AssemblerPrintsCardSaid : Prop := Claim7.holds Tryz.pinned (.plain (OpenSpec.ofChange assemblerPrintsSpec)) assemblerPrintsCard

/-- THE TIED CARD OF 'redundancylaw07.AssemblerReads'. -/
def assemblerReadsCard : Claim7 := { stood := { row := assemblerReadsRow, standIns := [], harness := (true, "1a5969eae9d9ba33301d57098b1d80a66d2982fbacfb05dabd7b208d243e06c9"), looks := true }, kinds := [], alts := [], laidByText := true, laidKinds := [.data, .data, .data, .data, .sentinel, .sentinel, .listed, .data, .pinned], laidTests := true, laidLooks := .later }
def AssemblerReadsCardSaid : Prop := Claim7.holds Tryz.pinned (.plain (OpenSpec.ofChange assemblerReadsSpec)) assemblerReadsCard

/-- THE TIED CARD OF 'redundancylaw07.AssemblerBack'. -/
def assemblerBackCard : Claim7 := { stood := { row := assemblerBackRow, standIns := [], harness := (true, "1a5969eae9d9ba33301d57098b1d80a66d2982fbacfb05dabd7b208d243e06c9"), looks := true }, kinds := [], alts := [], laidByText := true, laidKinds := [.data, .data, .data, .data, .sentinel, .sentinel, .listed, .data, .pinned], laidTests := true, laidLooks := .later }
def AssemblerBackCardSaid : Prop := Claim7.holds Tryz.pinned (.plain (OpenSpec.ofChange assemblerBackSpec)) assemblerBackCard

/-- THE TIED CARD OF 'redundancylaw07.AssemblerNames'. -/
def assemblerNamesCard : Claim7 := { stood := { row := assemblerNamesRow, standIns := [], harness := (true, "1a5969eae9d9ba33301d57098b1d80a66d2982fbacfb05dabd7b208d243e06c9"), looks := true }, kinds := [], alts := [], laidByText := true, laidKinds := [.data, .data, .data, .data, .sentinel, .sentinel, .listed, .data, .pinned], laidTests := true, laidLooks := .later }
def AssemblerNamesCardSaid : Prop := Claim7.holds Tryz.pinned (.plain (OpenSpec.ofChange assemblerNamesSpec)) assemblerNamesCard

/-- THE TIED CARD OF 'redundancylaw07.AssemblerLines'. -/
def assemblerLinesCard : Claim7 := { stood := { row := assemblerLinesRow, standIns := [], harness := (true, "1a5969eae9d9ba33301d57098b1d80a66d2982fbacfb05dabd7b208d243e06c9"), looks := true }, kinds := [], alts := [], laidByText := true, laidKinds := [.data, .data, .data, .data, .sentinel, .sentinel, .listed, .data, .pinned], laidTests := true, laidLooks := .later }
def AssemblerLinesCardSaid : Prop := Claim7.holds Tryz.pinned (.plain (OpenSpec.ofChange assemblerLinesSpec)) assemblerLinesCard

/-- THE SECOND FORM's CARD OF 'redundancylaw07.AssemblerPrints'. -/
def assemblerPrintsUptoCard : Claim7 := { stood := { row := assemblerPrintsUptoRow, standIns := [], harness := (true, "1a5969eae9d9ba33301d57098b1d80a66d2982fbacfb05dabd7b208d243e06c9"), looks := true }, kinds := [], alts := [], laidByText := true, laidKinds := [.data, .data, .data, .data, .sentinel, .sentinel, .listed, .data, .pinned], laidTests := true, laidLooks := .later }
def AssemblerPrintsUptoCardSaid : Prop := Claim7.holds Tryz.pinned (.plain (OpenSpec.upto assemblerPrintsSpec)) assemblerPrintsUptoCard

/-- THE SECOND FORM's CARD OF 'redundancylaw07.AssemblerReads'. -/
def assemblerReadsUptoCard : Claim7 := { stood := { row := assemblerReadsUptoRow, standIns := [], harness := (true, "1a5969eae9d9ba33301d57098b1d80a66d2982fbacfb05dabd7b208d243e06c9"), looks := true }, kinds := [], alts := [], laidByText := true, laidKinds := [.data, .data, .data, .data, .sentinel, .sentinel, .listed, .data, .pinned], laidTests := true, laidLooks := .later }
def AssemblerReadsUptoCardSaid : Prop := Claim7.holds Tryz.pinned (.plain (OpenSpec.upto assemblerReadsSpec)) assemblerReadsUptoCard

/-- THE SECOND FORM's CARD OF 'redundancylaw07.AssemblerBack'. -/
def assemblerBackUptoCard : Claim7 := { stood := { row := assemblerBackUptoRow, standIns := [], harness := (true, "1a5969eae9d9ba33301d57098b1d80a66d2982fbacfb05dabd7b208d243e06c9"), looks := true }, kinds := [], alts := [], laidByText := true, laidKinds := [.data, .data, .data, .data, .sentinel, .sentinel, .listed, .data, .pinned], laidTests := true, laidLooks := .later }
def AssemblerBackUptoCardSaid : Prop := Claim7.holds Tryz.pinned (.plain (OpenSpec.upto assemblerBackSpec)) assemblerBackUptoCard

/-- THE SECOND FORM's CARD OF 'redundancylaw07.AssemblerNames'. -/
def assemblerNamesUptoCard : Claim7 := { stood := { row := assemblerNamesUptoRow, standIns := [], harness := (true, "1a5969eae9d9ba33301d57098b1d80a66d2982fbacfb05dabd7b208d243e06c9"), looks := true }, kinds := [], alts := [], laidByText := true, laidKinds := [.data, .data, .data, .data, .sentinel, .sentinel, .listed, .data, .pinned], laidTests := true, laidLooks := .later }
def AssemblerNamesUptoCardSaid : Prop := Claim7.holds Tryz.pinned (.plain (OpenSpec.upto assemblerNamesSpec)) assemblerNamesUptoCard

/-- THE SECOND FORM's CARD OF 'redundancylaw07.AssemblerLines'. -/
def assemblerLinesUptoCard : Claim7 := { stood := { row := assemblerLinesUptoRow, standIns := [], harness := (true, "1a5969eae9d9ba33301d57098b1d80a66d2982fbacfb05dabd7b208d243e06c9"), looks := true }, kinds := [], alts := [], laidByText := true, laidKinds := [.data, .data, .data, .data, .sentinel, .sentinel, .listed, .data, .pinned], laidTests := true, laidLooks := .later }
def AssemblerLinesUptoCardSaid : Prop := Claim7.holds Tryz.pinned (.plain (OpenSpec.upto assemblerLinesSpec)) assemblerLinesUptoCard
end Rows
end Go.Proofs.YtajkekhnfobgiaaGreatDoor
