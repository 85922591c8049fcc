/-
  DERIVED. GIVEN WITH THE SEED: THE CARDS: each row of YtcbmeklhmajglaaDoorRows.lean that lists a variable, with what it lists TIED to the program's text (the seventh form; the later family's looks); each row that meets fmt, with fmt's text TOLD by the authors' own Lean function (tested against real Go, not proved from fmt's source: count such statements apart). THE CARD IS WHAT COUNTS. Prove the row's statement (the work); the ties are given (YtcbmeklhmajglaaDoorTie.lean); close each card by the builder's one call (the guide's Derived/Test/ToyasCard.lean, 'card_holds'). Laid BY PROGRAM, IN A SANDBOX (cutbox-door.mjs). By AI agents, Wed Nov 11 2026. No macro, syntax, notation, axiom, sorry.
-/
import Derived.Test.YtcbmeklhmajglaaDoorRows
import GoSem.ClaimSeven
namespace Go.Proofs.YtcbmeklhmajglaaDoor
namespace Rows

/-- THE TIED CARD OF 'correctorlaw18.ConfigReads'. -/
def configReadsCard : Claim7 := { stood := { row := configReadsRow, standIns := [], harness := (true, "f46b92663623f6b3f39fdc60e263bf241bf09af023ece41d3d974f55b14c8549"), looks := true }, kinds := [], alts := [], laidByText := true, laidKinds := [.data, .data, .data, .data, .sentinel, .sentinel, .pinned], laidTests := true, laidLooks := .later }
def ConfigReadsCardSaid : Prop := Claim7.holds Tryd.pinned (.plain (OpenSpec.ofChange configReadsSpec)) configReadsCard

/-- THE TIED CARD OF 'correctorlaw18.ConfigLast'. -/
def configLastCard : Claim7 := { stood := { row := configLastRow, standIns := [], harness := (true, "f46b92663623f6b3f39fdc60e263bf241bf09af023ece41d3d974f55b14c8549"), looks := true }, kinds := [], alts := [], laidByText := true, laidKinds := [.data, .data, .data, .data, .sentinel, .sentinel, .pinned], laidTests := true, laidLooks := .later }
def ConfigLastCardSaid : Prop := Claim7.holds Tryd.pinned (.plain (OpenSpec.ofChange configLastSpec)) configLastCard

/-- THE TIED CARD OF 'correctorlaw18.ConfigOrder'. -/
def configOrderCard : Claim7 := { stood := { row := configOrderRow, standIns := [], harness := (true, "f46b92663623f6b3f39fdc60e263bf241bf09af023ece41d3d974f55b14c8549"), looks := true }, kinds := [], alts := [], laidByText := true, laidKinds := [.data, .data, .data, .data, .sentinel, .sentinel, .pinned], laidTests := true, laidLooks := .later }
def ConfigOrderCardSaid : Prop := Claim7.holds Tryd.pinned (.plain (OpenSpec.ofChange configOrderSpec)) configOrderCard

/-- THE TIED CARD OF 'correctorlaw18.ConfigPrints'. -/
def configPrintsCard : Claim7 := { stood := { row := configPrintsRow, standIns := [], harness := (true, "f46b92663623f6b3f39fdc60e263bf241bf09af023ece41d3d974f55b14c8549"), looks := true }, kinds := [], alts := [], laidByText := true, laidKinds := [.data, .data, .data, .data, .sentinel, .sentinel, .pinned], laidTests := true, laidLooks := .later }
def ConfigPrintsCardSaid : Prop := Claim7.holds Tryd.pinned (.plain (OpenSpec.ofChange configPrintsSpec)) configPrintsCard

/-- THE SECOND FORM's CARD OF 'correctorlaw18.ConfigReads'. -/
def configReadsUptoCard : Claim7 := { stood := { row := configReadsUptoRow, standIns := [], harness := (true, "f46b92663623f6b3f39fdc60e263bf241bf09af023ece41d3d974f55b14c8549"), looks := true }, kinds := [], alts := [], laidByText := true, laidKinds := [.data, .data, .data, .data, .sentinel, .sentinel, .pinned], laidTests := true, laidLooks := .later }
def ConfigReadsUptoCardSaid : Prop := Claim7.holds Tryd.pinned (.plain (OpenSpec.upto configReadsSpec)) configReadsUptoCard

/-- THE SECOND FORM's CARD OF 'correctorlaw18.ConfigLast'. -/
def configLastUptoCard : Claim7 := { stood := { row := configLastUptoRow, standIns := [], harness := (true, "f46b92663623f6b3f39fdc60e263bf241bf09af023ece41d3d974f55b14c8549"), looks := true }, kinds := [], alts := [], laidByText := true, laidKinds := [.data, .data, .data, .data, .sentinel, .sentinel, .pinned], laidTests := true, laidLooks := .later }
def ConfigLastUptoCardSaid : Prop := Claim7.holds Tryd.pinned (.plain (OpenSpec.upto configLastSpec)) configLastUptoCard

/-- THE SECOND FORM's CARD OF 'correctorlaw18.ConfigOrder'. -/
def configOrderUptoCard : Claim7 := { stood := { row := configOrderUptoRow, standIns := [], harness := (true, "f46b92663623f6b3f39fdc60e263bf241bf09af023ece41d3d974f55b14c8549"), looks := true }, kinds := [], alts := [], laidByText := true, laidKinds := [.data, .data, .data, .data, .sentinel, .sentinel, .pinned], laidTests := true, laidLooks := .later }
def ConfigOrderUptoCardSaid : Prop := Claim7.holds Tryd.pinned (.plain (OpenSpec.upto configOrderSpec)) configOrderUptoCard

/-- THE SECOND FORM's CARD OF 'correctorlaw18.ConfigPrints'. -/
def configPrintsUptoCard : Claim7 := { stood := { row := configPrintsUptoRow, standIns := [], harness := (true, "f46b92663623f6b3f39fdc60e263bf241bf09af023ece41d3d974f55b14c8549"), looks := true }, kinds := [], alts := [], laidByText := true, laidKinds := [.data, .data, .data, .data, .sentinel, .sentinel, .pinned], laidTests := true, laidLooks := .later }
def ConfigPrintsUptoCardSaid : Prop := Claim7.holds Tryd.pinned (.plain (OpenSpec.upto configPrintsSpec)) configPrintsUptoCard
end Rows
end Go.Proofs.YtcbmeklhmajglaaDoor
