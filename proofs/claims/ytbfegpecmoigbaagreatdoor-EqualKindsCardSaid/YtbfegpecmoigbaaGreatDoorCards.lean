/-
  DERIVED. GIVEN WITH THE SEED: THE CARDS: each row of YtbfegpecmoigbaaGreatDoorRows.lean that lists a variable, with what it lists TIED to the program's text (the seventh form; the later family's looks); each row that meets fmt, with fmt's text TOLD by the authors' own Lean function (tested against real Go, not proved from fmt's source: count such statements apart). THE CARD IS WHAT COUNTS. Prove the row's statement (the work); the ties are given (YtbfegpecmoigbaaGreatDoorTie.lean); close each card by the builder's one call (the guide's Derived/Test/ToyasCard.lean, 'card_holds'). Laid BY PROGRAM, IN A SANDBOX (cutbox-door.mjs). By AI agents, Wed Nov 11 2026. No macro, syntax, notation, axiom, sorry.
-/
import Derived.Test.YtbfegpecmoigbaaGreatDoorRows
import GoSem.ClaimSeven
namespace Go.Proofs.YtbfegpecmoigbaaGreatDoor
namespace Rows

/-- THE TIED CARD OF 'correctorlaw17.EqualKinds'. -/
def equalKindsCard : Claim7 := { stood := { row := equalKindsRow, standIns := [], harness := (true, "3840ddf95978c7bb8975e43f6579b637b9a77a5e0445a697ff4b9d9cf1dd2f81"), looks := true }, kinds := [], alts := [], laidByText := true, laidKinds := [.data, .data, .data, .data, .pinned, .pinned, .pinned, .pinned, .pinned, .pinned], laidTests := true, laidLooks := .later }
def EqualKindsCardSaid : Prop := Claim7.holds Tryz.pinned (.plain (OpenSpec.ofChange equalKindsSpec)) equalKindsCard

/-- THE SECOND FORM's CARD OF 'correctorlaw17.EqualKinds'. -/
def equalKindsUptoCard : Claim7 := { stood := { row := equalKindsUptoRow, standIns := [], harness := (true, "3840ddf95978c7bb8975e43f6579b637b9a77a5e0445a697ff4b9d9cf1dd2f81"), looks := true }, kinds := [], alts := [], laidByText := true, laidKinds := [.data, .data, .data, .data, .pinned, .pinned, .pinned, .pinned, .pinned, .pinned], laidTests := true, laidLooks := .later }
def EqualKindsUptoCardSaid : Prop := Claim7.holds Tryz.pinned (.plain (OpenSpec.upto equalKindsSpec)) equalKindsUptoCard
end Rows
end Go.Proofs.YtbfegpecmoigbaaGreatDoor
