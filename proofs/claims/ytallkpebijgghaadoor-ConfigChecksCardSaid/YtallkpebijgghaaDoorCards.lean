/-
  DERIVED. GIVEN WITH THE SEED: THE CARDS: each row of YtallkpebijgghaaDoorRows.lean that lists a variable, with what it lists TIED to the program's text (the seventh form; the later family's looks); each row that meets fmt, with fmt's text TOLD by the authors' own Lean function (tested against real Go, not proved from fmt's source: count such statements apart). THE CARD IS WHAT COUNTS. Prove the row's statement (the work); the ties are given (YtallkpebijgghaaDoorTie.lean); close each card by the builder's one call (the guide's Derived/Test/ToyasCard.lean, 'card_holds'). Laid BY PROGRAM, IN A SANDBOX (cutbox-door.mjs). By AI agents, Wed Nov 11 2026. No macro, syntax, notation, axiom, sorry.
-/
import Derived.Test.YtallkpebijgghaaDoorRows
import GoSem.ClaimSeven
namespace Go.Proofs.YtallkpebijgghaaDoor
namespace Rows

/-- THE TIED CARD OF 'correctorlaw18.ConfigChecks'. -/
def configChecksCard : Claim7 := { stood := { row := configChecksRow, standIns := [], harness := (true, "182cabd1982734a6098edaa7c318454e3098f48c59ad1b7464855861ae6f2184"), looks := true }, kinds := [], alts := [], laidByText := true, laidKinds := [.data, .data, .data, .data, .sentinel, .sentinel, .pinned], laidTests := true, laidLooks := .later }
def ConfigChecksCardSaid : Prop := Claim7.holds Tryd.pinned (.plain (OpenSpec.ofChange configChecksSpec)) configChecksCard

/-- THE TIED CARD OF 'correctorlaw18.ConfigLong'. -/
def configLongCard : Claim7 := { stood := { row := configLongRow, standIns := [], harness := (true, "182cabd1982734a6098edaa7c318454e3098f48c59ad1b7464855861ae6f2184"), looks := true }, kinds := [], alts := [], laidByText := true, laidKinds := [.data, .data, .data, .data, .sentinel, .sentinel, .pinned], laidTests := true, laidLooks := .later }
def ConfigLongCardSaid : Prop := Claim7.holds Tryd.pinned (.plain (OpenSpec.ofChange configLongSpec)) configLongCard

/-- THE SECOND FORM's CARD OF 'correctorlaw18.ConfigChecks'. -/
def configChecksUptoCard : Claim7 := { stood := { row := configChecksUptoRow, standIns := [], harness := (true, "182cabd1982734a6098edaa7c318454e3098f48c59ad1b7464855861ae6f2184"), looks := true }, kinds := [], alts := [], laidByText := true, laidKinds := [.data, .data, .data, .data, .sentinel, .sentinel, .pinned], laidTests := true, laidLooks := .later }
def ConfigChecksUptoCardSaid : Prop := Claim7.holds Tryd.pinned (.plain (OpenSpec.upto configChecksSpec)) configChecksUptoCard

/-- THE SECOND FORM's CARD OF 'correctorlaw18.ConfigLong'. -/
def configLongUptoCard : Claim7 := { stood := { row := configLongUptoRow, standIns := [], harness := (true, "182cabd1982734a6098edaa7c318454e3098f48c59ad1b7464855861ae6f2184"), looks := true }, kinds := [], alts := [], laidByText := true, laidKinds := [.data, .data, .data, .data, .sentinel, .sentinel, .pinned], laidTests := true, laidLooks := .later }
def ConfigLongUptoCardSaid : Prop := Claim7.holds Tryd.pinned (.plain (OpenSpec.upto configLongSpec)) configLongUptoCard
end Rows
end Go.Proofs.YtallkpebijgghaaDoor
