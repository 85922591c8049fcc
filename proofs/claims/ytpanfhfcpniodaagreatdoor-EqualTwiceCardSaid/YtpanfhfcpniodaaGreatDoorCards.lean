/-
  DERIVED. GIVEN WITH THE SEED: THE CARDS: each row of YtpanfhfcpniodaaGreatDoorRows.lean that lists a variable, with what it lists TIED to the program's text (the seventh form; the later family's looks); each row that meets fmt, with fmt's text TOLD by the authors' own Lean function (tested against real Go, not proved from fmt's source: count such statements apart). THE CARD IS WHAT COUNTS. Prove the row's statement (the work); the ties are given (YtpanfhfcpniodaaGreatDoorTie.lean); close each card by the builder's one call (the guide's Derived/Test/ToyasCard.lean, 'card_holds'). Laid BY PROGRAM, IN A SANDBOX (cutbox-door.mjs). By AI agents, Wed Nov 11 2026. No macro, syntax, notation, axiom, sorry.
-/
import Derived.Test.YtpanfhfcpniodaaGreatDoorRows
import GoSem.ClaimSeven
namespace Go.Proofs.YtpanfhfcpniodaaGreatDoor
namespace Rows

/-- THE TIED CARD OF 'correctorlaw17.EqualShared'. -/
def equalSharedCard : Claim7 := { stood := { row := equalSharedRow, standIns := [], harness := (true, "da3a4d4df6fa5369a2bee946db19a369f46778105a9c69224a55a8847e222fa3"), looks := true }, kinds := [], alts := [], laidByText := true, laidKinds := [.data, .data, .data, .data, .pinned, .pinned, .pinned, .pinned, .pinned, .pinned], laidTests := true, laidLooks := .later }
def EqualSharedCardSaid : Prop := Claim7.holds Tryz.pinned (.plain (OpenSpec.ofChange equalSharedSpec)) equalSharedCard

/-- THE TIED CARD OF 'correctorlaw17.EqualTwice'. -/
def equalTwiceCard : Claim7 := { stood := { row := equalTwiceRow, standIns := [], harness := (true, "da3a4d4df6fa5369a2bee946db19a369f46778105a9c69224a55a8847e222fa3"), looks := true }, kinds := [], alts := [], laidByText := true, laidKinds := [.data, .data, .data, .data, .pinned, .pinned, .pinned, .pinned, .pinned, .pinned], laidTests := true, laidLooks := .later }
def EqualTwiceCardSaid : Prop := Claim7.holds Tryz.pinned (.plain (OpenSpec.ofChange equalTwiceSpec)) equalTwiceCard

/-- THE SECOND FORM's CARD OF 'correctorlaw17.EqualShared'. -/
def equalSharedUptoCard : Claim7 := { stood := { row := equalSharedUptoRow, standIns := [], harness := (true, "da3a4d4df6fa5369a2bee946db19a369f46778105a9c69224a55a8847e222fa3"), looks := true }, kinds := [], alts := [], laidByText := true, laidKinds := [.data, .data, .data, .data, .pinned, .pinned, .pinned, .pinned, .pinned, .pinned], laidTests := true, laidLooks := .later }
def EqualSharedUptoCardSaid : Prop := Claim7.holds Tryz.pinned (.plain (OpenSpec.upto equalSharedSpec)) equalSharedUptoCard

/-- THE SECOND FORM's CARD OF 'correctorlaw17.EqualTwice'. -/
def equalTwiceUptoCard : Claim7 := { stood := { row := equalTwiceUptoRow, standIns := [], harness := (true, "da3a4d4df6fa5369a2bee946db19a369f46778105a9c69224a55a8847e222fa3"), looks := true }, kinds := [], alts := [], laidByText := true, laidKinds := [.data, .data, .data, .data, .pinned, .pinned, .pinned, .pinned, .pinned, .pinned], laidTests := true, laidLooks := .later }
def EqualTwiceUptoCardSaid : Prop := Claim7.holds Tryz.pinned (.plain (OpenSpec.upto equalTwiceSpec)) equalTwiceUptoCard
end Rows
end Go.Proofs.YtpanfhfcpniodaaGreatDoor
