/-
  DERIVED. GIVEN WITH THE SEED: THE CARDS: each row of YtjecgapnlnmloaaDoorRows.lean that lists a variable, with what it lists TIED to the program's text (the seventh form; the later family's looks); each row that meets fmt, with fmt's text TOLD by the authors' own Lean function (tested against real Go, not proved from fmt's source: count such statements apart). THE CARD IS WHAT COUNTS. Prove the row's statement (the work); the ties are given (YtjecgapnlnmloaaDoorTie.lean); close each card by the builder's one call (the guide's Derived/Test/ToyasCard.lean, 'card_holds'). Laid BY PROGRAM, IN A SANDBOX (cutbox-door.mjs). By AI agents, Wed Nov 11 2026. No macro, syntax, notation, axiom, sorry.
-/
import Derived.Test.YtjecgapnlnmloaaDoorRows
import GoSem.ClaimSeven
namespace Go.Proofs.YtjecgapnlnmloaaDoor
namespace Rows

/-- THE TIED CARD OF 'correctorlaw14.DiagRenders'. -/
def diagRendersCard : Claim7 := { stood := { row := diagRendersRow, standIns := [], harness := (true, "72a9b7a6de94b5db29aef41d5c0f52ed68ac68a8f776acf2f1b9530a82407358"), looks := false }, kinds := [], alts := [], laidByText := true, laidKinds := [.data, .data, .data], laidTests := true, laidLooks := .later }
def DiagRendersCardSaid : Prop := Claim7.holds Tryd.pinned (.plain (OpenSpec.ofChange diagRendersSpec)) diagRendersCard

/-- THE SECOND FORM's CARD OF 'correctorlaw14.DiagRenders'. -/
def diagRendersUptoCard : Claim7 := { stood := { row := diagRendersUptoRow, standIns := [], harness := (true, "72a9b7a6de94b5db29aef41d5c0f52ed68ac68a8f776acf2f1b9530a82407358"), looks := false }, kinds := [], alts := [], laidByText := true, laidKinds := [.data, .data, .data], laidTests := true, laidLooks := .later }
def DiagRendersUptoCardSaid : Prop := Claim7.holds Tryd.pinned (.plain (OpenSpec.upto diagRendersSpec)) diagRendersUptoCard
end Rows
end Go.Proofs.YtjecgapnlnmloaaDoor
