/-
  No cell of these rows narrows 'for every input' (looked for: loops, veiled, ifaces, maps, wideKeys, modest, calm, conditions, laid).
  DERIVED. THE GIVEN ROWS OF THIS SEAT. 8 by the template 'for every input the law returns true; each argument reads behind the call as it read before'; 0 by the template 'total and deterministic' (their statements: YtoaeeiocgmiojaaGreatTotals.lean).
  GIVEN WITH THE SEED: the statements are not yours to turn. If you find one false, say at which input.
  Laid BY PROGRAM, IN A SANDBOX (cutbox-rows.mjs): the forced cells as the released guide's own fill.sh prints them over the translation 07336c0c4ece811f… (all of the seat's roots in one cut). By AI agents, Wed Nov 11 2026. No macro, syntax, notation, axiom, sorry.
-/
import Derived.Test.YtoaeeiocgmiojaaGreatChecked
import GoSem.Claim
import GoSem.ClaimJoined
import GoSem.ClaimMapViews
import Derived.JoinedTies
import Derived.KernelRfl
namespace Go.Proofs.YtoaeeiocgmiojaaGreat
/- THE CELL 'sum', in the pinned program and in every row, IS THE sha256 OF THE DUMP (.gsa) THAT YtoaeeiocgmiojaaGreatProg.lean LOADS. Nothing in Lean hashes anything: it is a label: what it is worth is what the hold of that sum in a sandbox is worth. -/
noncomputable def Tryz.pinned : Pinned := { name := "ytoaeeiocgmiojaagreat", sum := "07336c0c4ece811fe724beeaf9eccc87fb3f251ea0e715ae8572184a2dd110af", checked := Tryz.checked }
namespace Rows
def none {H : Type} : Left H := { results := [], args := [] }

/-- 'correctorlaw12.ParseKinds': WHATEVER THE INPUT: true; the input reads as it did. -/
def parseKindsSpec : ChangeSpec := { name := "parseKinds", fn := fun _ => fun
  | [d] => { results := [.lit (.bool true)], args := [d] }
  | _ => none }
def parseKindsRow : OpenClaim := { program := "ytoaeeiocgmiojaagreat", sum := "07336c0c4ece811fe724beeaf9eccc87fb3f251ea0e715ae8572184a2dd110af", func := "corrector/correctorlaw12.ParseKinds", spec := "parseKinds", unfollowed := true, recurses := true, apart := false }
def ParseKindsSaid : Prop := parseKindsRow.holds Tryz.pinned (OpenSpec.ofChange parseKindsSpec)

/-- ITS FALSE NEIGHBOUR: 'it returns false'. Refute it at one input. -/
def parseKindsWrong : ChangeSpec := { name := "parseKinds", fn := fun _ => fun
  | [d] => { results := [.lit (.bool false)], args := [d] }
  | _ => none }
def ParseKindsWrongFalsely : Prop := parseKindsRow.holds Tryz.pinned (OpenSpec.ofChange parseKindsWrong)

/-- 'correctorlaw12.ParseBounds': WHATEVER THE INPUT: true; the input reads as it did. -/
def parseBoundsSpec : ChangeSpec := { name := "parseBounds", fn := fun _ => fun
  | [d1, d2] => { results := [.lit (.bool true)], args := [d1, d2] }
  | _ => none }
def parseBoundsRow : OpenClaim := { program := "ytoaeeiocgmiojaagreat", sum := "07336c0c4ece811fe724beeaf9eccc87fb3f251ea0e715ae8572184a2dd110af", func := "corrector/correctorlaw12.ParseBounds", spec := "parseBounds", unfollowed := true, recurses := true, apart := false }
def ParseBoundsSaid : Prop := parseBoundsRow.holds Tryz.pinned (OpenSpec.ofChange parseBoundsSpec)

/-- ITS FALSE NEIGHBOUR: 'it returns false'. Refute it at one input. -/
def parseBoundsWrong : ChangeSpec := { name := "parseBounds", fn := fun _ => fun
  | [d1, d2] => { results := [.lit (.bool false)], args := [d1, d2] }
  | _ => none }
def ParseBoundsWrongFalsely : Prop := parseBoundsRow.holds Tryz.pinned (OpenSpec.ofChange parseBoundsWrong)

/-- 'correctorlaw12.ParseDeep': WHATEVER THE INPUT: true; the input reads as it did. -/
def parseDeepSpec : ChangeSpec := { name := "parseDeep", fn := fun _ => fun
  | [d1, d2] => { results := [.lit (.bool true)], args := [d1, d2] }
  | _ => none }
def parseDeepRow : OpenClaim := { program := "ytoaeeiocgmiojaagreat", sum := "07336c0c4ece811fe724beeaf9eccc87fb3f251ea0e715ae8572184a2dd110af", func := "corrector/correctorlaw12.ParseDeep", spec := "parseDeep", unfollowed := true, recurses := true, apart := false }
def ParseDeepSaid : Prop := parseDeepRow.holds Tryz.pinned (OpenSpec.ofChange parseDeepSpec)

/-- ITS FALSE NEIGHBOUR: 'it returns false'. Refute it at one input. -/
def parseDeepWrong : ChangeSpec := { name := "parseDeep", fn := fun _ => fun
  | [d1, d2] => { results := [.lit (.bool false)], args := [d1, d2] }
  | _ => none }
def ParseDeepWrongFalsely : Prop := parseDeepRow.holds Tryz.pinned (OpenSpec.ofChange parseDeepWrong)

/-- 'correctorlaw16.GraphPrints': WHATEVER THE INPUT: true; the input reads as it did. -/
def graphPrintsSpec : ChangeSpec := { name := "graphPrints", fn := fun _ => fun
  | [d] => { results := [.lit (.bool true)], args := [d] }
  | _ => none }
def graphPrintsRow : OpenClaim := { program := "ytoaeeiocgmiojaagreat", sum := "07336c0c4ece811fe724beeaf9eccc87fb3f251ea0e715ae8572184a2dd110af", func := "corrector/correctorlaw16.GraphPrints", spec := "graphPrints", inPlace := ["internal/bytealg.IndexByteString", "internal/bytealg.IndexString", "internal/abi.NoEscape", "internal/bytealg.MakeNoZero"], unfollowed := true, recurses := true, named := ["internal/bytealg.MaxLen"], apart := false }
def GraphPrintsSaid : Prop := graphPrintsRow.holds Tryz.pinned (OpenSpec.ofChange graphPrintsSpec)

/-- ITS FALSE NEIGHBOUR: 'it returns false'. Refute it at one input. -/
def graphPrintsWrong : ChangeSpec := { name := "graphPrints", fn := fun _ => fun
  | [d] => { results := [.lit (.bool false)], args := [d] }
  | _ => none }
def GraphPrintsWrongFalsely : Prop := graphPrintsRow.holds Tryz.pinned (OpenSpec.ofChange graphPrintsWrong)

/-- 'correctorlaw16.GraphRing': WHATEVER THE INPUT: true; the input reads as it did. -/
def graphRingSpec : ChangeSpec := { name := "graphRing", fn := fun _ => fun
  | [d] => { results := [.lit (.bool true)], args := [d] }
  | _ => none }
def graphRingRow : OpenClaim := { program := "ytoaeeiocgmiojaagreat", sum := "07336c0c4ece811fe724beeaf9eccc87fb3f251ea0e715ae8572184a2dd110af", func := "corrector/correctorlaw16.GraphRing", spec := "graphRing", inPlace := ["internal/bytealg.IndexByteString", "internal/bytealg.IndexString", "internal/abi.NoEscape", "internal/bytealg.MakeNoZero"], unfollowed := true, recurses := true, named := ["internal/bytealg.MaxLen"], apart := false }
def GraphRingSaid : Prop := graphRingRow.holds Tryz.pinned (OpenSpec.ofChange graphRingSpec)

/-- ITS FALSE NEIGHBOUR: 'it returns false'. Refute it at one input. -/
def graphRingWrong : ChangeSpec := { name := "graphRing", fn := fun _ => fun
  | [d] => { results := [.lit (.bool false)], args := [d] }
  | _ => none }
def GraphRingWrongFalsely : Prop := graphRingRow.holds Tryz.pinned (OpenSpec.ofChange graphRingWrong)

/-- 'correctorlaw16.GraphErrors': WHATEVER THE INPUT: true; the input reads as it did. -/
def graphErrorsSpec : ChangeSpec := { name := "graphErrors", fn := fun _ => fun
  | [d] => { results := [.lit (.bool true)], args := [d] }
  | _ => none }
def graphErrorsRow : OpenClaim := { program := "ytoaeeiocgmiojaagreat", sum := "07336c0c4ece811fe724beeaf9eccc87fb3f251ea0e715ae8572184a2dd110af", func := "corrector/correctorlaw16.GraphErrors", spec := "graphErrors", inPlace := ["internal/bytealg.IndexByteString", "internal/bytealg.IndexString", "internal/abi.NoEscape", "internal/bytealg.MakeNoZero"], unfollowed := true, recurses := true, named := ["internal/bytealg.MaxLen"], apart := false }
def GraphErrorsSaid : Prop := graphErrorsRow.holds Tryz.pinned (OpenSpec.ofChange graphErrorsSpec)

/-- ITS FALSE NEIGHBOUR: 'it returns false'. Refute it at one input. -/
def graphErrorsWrong : ChangeSpec := { name := "graphErrors", fn := fun _ => fun
  | [d] => { results := [.lit (.bool false)], args := [d] }
  | _ => none }
def GraphErrorsWrongFalsely : Prop := graphErrorsRow.holds Tryz.pinned (OpenSpec.ofChange graphErrorsWrong)

/-- 'correctorlaw16.GraphTags': WHATEVER THE INPUT: true; the input reads as it did. -/
def graphTagsSpec : ChangeSpec := { name := "graphTags", fn := fun _ => fun
  | [d1, d2] => { results := [.lit (.bool true)], args := [d1, d2] }
  | _ => none }
def graphTagsRow : OpenClaim := { program := "ytoaeeiocgmiojaagreat", sum := "07336c0c4ece811fe724beeaf9eccc87fb3f251ea0e715ae8572184a2dd110af", func := "corrector/correctorlaw16.GraphTags", spec := "graphTags", inPlace := ["internal/bytealg.IndexByteString", "internal/bytealg.IndexString", "internal/abi.NoEscape", "internal/bytealg.MakeNoZero"], unfollowed := true, recurses := true, named := ["internal/bytealg.MaxLen"], apart := false }
def GraphTagsSaid : Prop := graphTagsRow.holds Tryz.pinned (OpenSpec.ofChange graphTagsSpec)

/-- ITS FALSE NEIGHBOUR: 'it returns false'. Refute it at one input. -/
def graphTagsWrong : ChangeSpec := { name := "graphTags", fn := fun _ => fun
  | [d1, d2] => { results := [.lit (.bool false)], args := [d1, d2] }
  | _ => none }
def GraphTagsWrongFalsely : Prop := graphTagsRow.holds Tryz.pinned (OpenSpec.ofChange graphTagsWrong)

/-- 'correctorlaw16.GraphAliases': WHATEVER THE INPUT: true; the input reads as it did. -/
def graphAliasesSpec : ChangeSpec := { name := "graphAliases", fn := fun _ => fun
  | [d1, d2, d3] => { results := [.lit (.bool true)], args := [d1, d2, d3] }
  | _ => none }
def graphAliasesRow : OpenClaim := { program := "ytoaeeiocgmiojaagreat", sum := "07336c0c4ece811fe724beeaf9eccc87fb3f251ea0e715ae8572184a2dd110af", func := "corrector/correctorlaw16.GraphAliases", spec := "graphAliases", inPlace := ["internal/bytealg.IndexByteString", "internal/bytealg.IndexString", "internal/abi.NoEscape", "internal/bytealg.MakeNoZero"], unfollowed := true, recurses := true, named := ["internal/bytealg.MaxLen"], apart := false }
def GraphAliasesSaid : Prop := graphAliasesRow.holds Tryz.pinned (OpenSpec.ofChange graphAliasesSpec)

/-- ITS FALSE NEIGHBOUR: 'it returns false'. Refute it at one input. -/
def graphAliasesWrong : ChangeSpec := { name := "graphAliases", fn := fun _ => fun
  | [d1, d2, d3] => { results := [.lit (.bool false)], args := [d1, d2, d3] }
  | _ => none }
def GraphAliasesWrongFalsely : Prop := graphAliasesRow.holds Tryz.pinned (OpenSpec.ofChange graphAliasesWrong)

/- THE SECOND FORM. 'bulk': how many values and letters a reading holds, each counted each time it is reached (what is shared counts as often as it is met; a slice's spare places count too). A statement '..UptoSaid' is the law's where the arguments, and the package variables that the reading takes, are together of bulk at most 1048576: NARROWER than '..Said'. Prove '..Said' where nothing that the law and all that it calls make is longer than what came in: it says more and counts as full. Else prove '..UptoSaid'. A law counts once. -/
mutual
def uptoBulk {H : Type} : DataW H → Nat
  | .lit (.string bytes) => bytes.length + 1
  | .lit _ => 1
  | .nil => 1
  | .ptr d => uptoBulk d + 1
  | .slice elems spare => uptoBulkAll elems + uptoBulkAll spare + 1
  | .agg parts => uptoBulkAll parts + 1
  | .iface _ d => uptoBulk d + 1
  | .map entries => uptoBulkEntries entries + 1
  | .held _ => 1
def uptoBulkAll {H : Type} : List (DataW H) → Nat
  | [] => 0
  | d :: r => uptoBulk d + uptoBulkAll r
def uptoBulkEntries {H : Type} : List (Lit × DataW H) → Nat
  | [] => 0
  | x :: r => uptoBulkEntry x + uptoBulkEntries r
def uptoBulkEntry {H : Type} : Lit × DataW H → Nat
  | (.string bytes, d) => bytes.length + uptoBulk d + 1
  | (_, d) => uptoBulk d + 1
 end
def uptoSmall : (H : Type) → List (DataW H) → Bool := fun _ ds => decide (uptoBulkAll ds ≤ 1048576)
def OpenSpec.upto (s : _root_.Go.ChangeSpec) : _root_.Go.OpenSpec := { _root_.Go.OpenSpec.ofChange s with cond := some uptoSmall }

/-- 'correctorlaw12.ParseKinds', WHERE WHAT IT READS IS OF BULK AT MOST 1048576: true; the input reads as it did. -/
def parseKindsUptoRow : OpenClaim := { program := "ytoaeeiocgmiojaagreat", sum := "07336c0c4ece811fe724beeaf9eccc87fb3f251ea0e715ae8572184a2dd110af", func := "corrector/correctorlaw12.ParseKinds", spec := "parseKinds", unfollowed := true, recurses := true, apart := false, narrowed := true }
def ParseKindsUptoSaid : Prop := parseKindsUptoRow.holds Tryz.pinned (OpenSpec.upto parseKindsSpec)

/-- 'correctorlaw12.ParseBounds', WHERE WHAT IT READS IS OF BULK AT MOST 1048576: true; the input reads as it did. -/
def parseBoundsUptoRow : OpenClaim := { program := "ytoaeeiocgmiojaagreat", sum := "07336c0c4ece811fe724beeaf9eccc87fb3f251ea0e715ae8572184a2dd110af", func := "corrector/correctorlaw12.ParseBounds", spec := "parseBounds", unfollowed := true, recurses := true, apart := false, narrowed := true }
def ParseBoundsUptoSaid : Prop := parseBoundsUptoRow.holds Tryz.pinned (OpenSpec.upto parseBoundsSpec)

/-- 'correctorlaw12.ParseDeep', WHERE WHAT IT READS IS OF BULK AT MOST 1048576: true; the input reads as it did. -/
def parseDeepUptoRow : OpenClaim := { program := "ytoaeeiocgmiojaagreat", sum := "07336c0c4ece811fe724beeaf9eccc87fb3f251ea0e715ae8572184a2dd110af", func := "corrector/correctorlaw12.ParseDeep", spec := "parseDeep", unfollowed := true, recurses := true, apart := false, narrowed := true }
def ParseDeepUptoSaid : Prop := parseDeepUptoRow.holds Tryz.pinned (OpenSpec.upto parseDeepSpec)

/-- 'correctorlaw16.GraphPrints', WHERE WHAT IT READS IS OF BULK AT MOST 1048576: true; the input reads as it did. -/
def graphPrintsUptoRow : OpenClaim := { program := "ytoaeeiocgmiojaagreat", sum := "07336c0c4ece811fe724beeaf9eccc87fb3f251ea0e715ae8572184a2dd110af", func := "corrector/correctorlaw16.GraphPrints", spec := "graphPrints", inPlace := ["internal/bytealg.IndexByteString", "internal/bytealg.IndexString", "internal/abi.NoEscape", "internal/bytealg.MakeNoZero"], unfollowed := true, recurses := true, named := ["internal/bytealg.MaxLen"], apart := false, narrowed := true }
def GraphPrintsUptoSaid : Prop := graphPrintsUptoRow.holds Tryz.pinned (OpenSpec.upto graphPrintsSpec)

/-- 'correctorlaw16.GraphRing', WHERE WHAT IT READS IS OF BULK AT MOST 1048576: true; the input reads as it did. -/
def graphRingUptoRow : OpenClaim := { program := "ytoaeeiocgmiojaagreat", sum := "07336c0c4ece811fe724beeaf9eccc87fb3f251ea0e715ae8572184a2dd110af", func := "corrector/correctorlaw16.GraphRing", spec := "graphRing", inPlace := ["internal/bytealg.IndexByteString", "internal/bytealg.IndexString", "internal/abi.NoEscape", "internal/bytealg.MakeNoZero"], unfollowed := true, recurses := true, named := ["internal/bytealg.MaxLen"], apart := false, narrowed := true }
def GraphRingUptoSaid : Prop := graphRingUptoRow.holds Tryz.pinned (OpenSpec.upto graphRingSpec)

/-- 'correctorlaw16.GraphErrors', WHERE WHAT IT READS IS OF BULK AT MOST 1048576: true; the input reads as it did. -/
def graphErrorsUptoRow : OpenClaim := { program := "ytoaeeiocgmiojaagreat", sum := "07336c0c4ece811fe724beeaf9eccc87fb3f251ea0e715ae8572184a2dd110af", func := "corrector/correctorlaw16.GraphErrors", spec := "graphErrors", inPlace := ["internal/bytealg.IndexByteString", "internal/bytealg.IndexString", "internal/abi.NoEscape", "internal/bytealg.MakeNoZero"], unfollowed := true, recurses := true, named := ["internal/bytealg.MaxLen"], apart := false, narrowed := true }
def GraphErrorsUptoSaid : Prop := graphErrorsUptoRow.holds Tryz.pinned (OpenSpec.upto graphErrorsSpec)

/-- 'correctorlaw16.GraphTags', WHERE WHAT IT READS IS OF BULK AT MOST 1048576: true; the input reads as it did. -/
def graphTagsUptoRow : OpenClaim := { program := "ytoaeeiocgmiojaagreat", sum := "07336c0c4ece811fe724beeaf9eccc87fb3f251ea0e715ae8572184a2dd110af", func := "corrector/correctorlaw16.GraphTags", spec := "graphTags", inPlace := ["internal/bytealg.IndexByteString", "internal/bytealg.IndexString", "internal/abi.NoEscape", "internal/bytealg.MakeNoZero"], unfollowed := true, recurses := true, named := ["internal/bytealg.MaxLen"], apart := false, narrowed := true }
def GraphTagsUptoSaid : Prop := graphTagsUptoRow.holds Tryz.pinned (OpenSpec.upto graphTagsSpec)

/-- 'correctorlaw16.GraphAliases', WHERE WHAT IT READS IS OF BULK AT MOST 1048576: true; the input reads as it did. -/
def graphAliasesUptoRow : OpenClaim := { program := "ytoaeeiocgmiojaagreat", sum := "07336c0c4ece811fe724beeaf9eccc87fb3f251ea0e715ae8572184a2dd110af", func := "corrector/correctorlaw16.GraphAliases", spec := "graphAliases", inPlace := ["internal/bytealg.IndexByteString", "internal/bytealg.IndexString", "internal/abi.NoEscape", "internal/bytealg.MakeNoZero"], unfollowed := true, recurses := true, named := ["internal/bytealg.MaxLen"], apart := false, narrowed := true }
def GraphAliasesUptoSaid : Prop := graphAliasesUptoRow.holds Tryz.pinned (OpenSpec.upto graphAliasesSpec)

end Rows
end Go.Proofs.YtoaeeiocgmiojaaGreat
