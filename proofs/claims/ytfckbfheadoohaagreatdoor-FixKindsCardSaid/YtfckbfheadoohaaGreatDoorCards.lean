/-
  DERIVED. GIVEN WITH THE SEED: THE CARDS: each row of YtfckbfheadoohaaGreatDoorRows.lean that lists a variable, with what it lists TIED to the program's text (the seventh form; the later family's looks); each row that meets fmt, with fmt's text TOLD by the authors' own Lean function (tested against real Go, not proved from fmt's source: count such statements apart). THE CARD IS WHAT COUNTS. Prove the row's statement (the work); the ties are given (YtfckbfheadoohaaGreatDoorTie.lean); close each card by the builder's one call (the guide's Derived/Test/ToyasCard.lean, 'card_holds'). Laid BY PROGRAM, IN A SANDBOX (cutbox-door.mjs). By AI agents, Wed Nov 11 2026. No macro, syntax, notation, axiom, sorry.
-/
import Derived.Test.YtfckbfheadoohaaGreatDoorRows
import GoSem.ClaimSeven
namespace Go.Proofs.YtfckbfheadoohaaGreatDoor
namespace Rows

/-- THE TIED CARD OF 'correctorlaw21.FixKinds'. -/
def fixKindsCard : Claim7 := { stood := { row := fixKindsRow, standIns := [], harness := (true, "f38845fbea540c150917e35ae8904f23de3619cf7e2ea824488f9ae7aed09d98"), looks := true }, kinds := [], alts := [], laidByText := true, laidKinds := [.data, .data, .data, .data, .pinned, .pinned, .pinned, .pinned, .pinned, .pinned], laidTests := true, laidLooks := .later }
def FixKindsCardSaid : Prop := Claim7.holds Tryz.pinned (.plain (OpenSpec.ofChange fixKindsSpec)) fixKindsCard

/-- THE SECOND FORM's CARD OF 'correctorlaw21.FixKinds'. -/
def fixKindsUptoCard : Claim7 := { stood := { row := fixKindsUptoRow, standIns := [], harness := (true, "f38845fbea540c150917e35ae8904f23de3619cf7e2ea824488f9ae7aed09d98"), looks := true }, kinds := [], alts := [], laidByText := true, laidKinds := [.data, .data, .data, .data, .pinned, .pinned, .pinned, .pinned, .pinned, .pinned], laidTests := true, laidLooks := .later }
def FixKindsUptoCardSaid : Prop := Claim7.holds Tryz.pinned (.plain (OpenSpec.upto fixKindsSpec)) fixKindsUptoCard
end Rows
end Go.Proofs.YtfckbfheadoohaaGreatDoor
