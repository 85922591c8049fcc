/-
  No cell of these rows narrows 'for every input' (looked for: loops, veiled, ifaces, maps, wideKeys, modest, calm, conditions, laid).
  DERIVED. THE GIVEN ROWS OF THIS SEAT. 7 by the template 'for every input the law returns true; each argument reads behind the call as it read before'; 0 by the template 'total and deterministic' (their statements: YtjecgapnlnmloaaTotals.lean).
  GIVEN WITH THE SEED: the statements are not yours to turn. If you find one false, say at which input.
  Laid BY PROGRAM, IN A SANDBOX (cutbox-rows.mjs): the forced cells as the released guide's own fill.sh prints them over the translation e68e23eee01d8879… (all of the seat's roots in one cut). By AI agents, Wed Nov 11 2026. No macro, syntax, notation, axiom, sorry.
-/
import Derived.Test.YtjecgapnlnmloaaChecked
import GoSem.Claim
import GoSem.ClaimJoined
import GoSem.ClaimMapViews
import Derived.JoinedTies
import Derived.KernelRfl
namespace Go.Proofs.Ytjecgapnlnmloaa
/- THE CELL 'sum', in the pinned program and in every row, IS THE sha256 OF THE DUMP (.gsa) THAT YtjecgapnlnmloaaProg.lean LOADS. Nothing in Lean hashes anything: it is a label: what it is worth is what the hold of that sum in a sandbox is worth. -/
noncomputable def Try.pinned : Pinned := { name := "ytjecgapnlnmloaa", sum := "e68e23eee01d8879833b18a8bb768336ac5e7fe0a233c3bce6fd18e5b91458e1", checked := Try.checked }
namespace Rows
def none {H : Type} : Left H := { results := [], args := [] }

/-- 'correctorlaw3.SpanMeets': WHATEVER THE INPUT: true; the input reads as it did. -/
def spanMeetsSpec : ChangeSpec := { name := "spanMeets", fn := fun _ => fun
  | [d1, d2] => { results := [.lit (.bool true)], args := [d1, d2] }
  | _ => none }
def spanMeetsRow : OpenClaim := { program := "ytjecgapnlnmloaa", sum := "e68e23eee01d8879833b18a8bb768336ac5e7fe0a233c3bce6fd18e5b91458e1", func := "corrector/correctorlaw3.SpanMeets", spec := "spanMeets", plainKeys := false, apart := false }
def SpanMeetsSaid : Prop := spanMeetsRow.holds Try.pinned (OpenSpec.ofChange spanMeetsSpec)

/-- ITS FALSE NEIGHBOUR: 'it returns false'. Refute it at one input. -/
def spanMeetsWrong : ChangeSpec := { name := "spanMeets", fn := fun _ => fun
  | [d1, d2] => { results := [.lit (.bool false)], args := [d1, d2] }
  | _ => none }
def SpanMeetsWrongFalsely : Prop := spanMeetsRow.holds Try.pinned (OpenSpec.ofChange spanMeetsWrong)

/-- 'correctorlaw3.SpanTwo': WHATEVER THE INPUT: true; the input reads as it did. -/
def spanTwoSpec : ChangeSpec := { name := "spanTwo", fn := fun _ => fun
  | [d1, d2] => { results := [.lit (.bool true)], args := [d1, d2] }
  | _ => none }
def spanTwoRow : OpenClaim := { program := "ytjecgapnlnmloaa", sum := "e68e23eee01d8879833b18a8bb768336ac5e7fe0a233c3bce6fd18e5b91458e1", func := "corrector/correctorlaw3.SpanTwo", spec := "spanTwo", plainKeys := false, apart := false }
def SpanTwoSaid : Prop := spanTwoRow.holds Try.pinned (OpenSpec.ofChange spanTwoSpec)

/-- ITS FALSE NEIGHBOUR: 'it returns false'. Refute it at one input. -/
def spanTwoWrong : ChangeSpec := { name := "spanTwo", fn := fun _ => fun
  | [d1, d2] => { results := [.lit (.bool false)], args := [d1, d2] }
  | _ => none }
def SpanTwoWrongFalsely : Prop := spanTwoRow.holds Try.pinned (OpenSpec.ofChange spanTwoWrong)

/-- 'correctorlaw3.SpanJoins': WHATEVER THE INPUT: true; the input reads as it did. -/
def spanJoinsSpec : ChangeSpec := { name := "spanJoins", fn := fun _ => fun
  | [d1, d2, d3] => { results := [.lit (.bool true)], args := [d1, d2, d3] }
  | _ => none }
def spanJoinsRow : OpenClaim := { program := "ytjecgapnlnmloaa", sum := "e68e23eee01d8879833b18a8bb768336ac5e7fe0a233c3bce6fd18e5b91458e1", func := "corrector/correctorlaw3.SpanJoins", spec := "spanJoins", plainKeys := false, apart := false }
def SpanJoinsSaid : Prop := spanJoinsRow.holds Try.pinned (OpenSpec.ofChange spanJoinsSpec)

/-- ITS FALSE NEIGHBOUR: 'it returns false'. Refute it at one input. -/
def spanJoinsWrong : ChangeSpec := { name := "spanJoins", fn := fun _ => fun
  | [d1, d2, d3] => { results := [.lit (.bool false)], args := [d1, d2, d3] }
  | _ => none }
def SpanJoinsWrongFalsely : Prop := spanJoinsRow.holds Try.pinned (OpenSpec.ofChange spanJoinsWrong)

/-- 'correctorlaw14.DiagSorts': WHATEVER THE INPUT: true; the input reads as it did. -/
def diagSortsSpec : ChangeSpec := { name := "diagSorts", fn := fun _ => fun
  | [d] => { results := [.lit (.bool true)], args := [d] }
  | _ => none }
def diagSortsRow : OpenClaim := { program := "ytjecgapnlnmloaa", sum := "e68e23eee01d8879833b18a8bb768336ac5e7fe0a233c3bce6fd18e5b91458e1", func := "corrector/correctorlaw14.DiagSorts", spec := "diagSorts", unfollowed := true, recurses := true, plainKeys := false, apart := false }
def DiagSortsSaid : Prop := diagSortsRow.holds Try.pinned (OpenSpec.ofChange diagSortsSpec)

/-- ITS FALSE NEIGHBOUR: 'it returns false'. Refute it at one input. -/
def diagSortsWrong : ChangeSpec := { name := "diagSorts", fn := fun _ => fun
  | [d] => { results := [.lit (.bool false)], args := [d] }
  | _ => none }
def DiagSortsWrongFalsely : Prop := diagSortsRow.holds Try.pinned (OpenSpec.ofChange diagSortsWrong)

/-- 'correctorlaw14.DiagOrder': WHATEVER THE INPUT: true; the input reads as it did. -/
def diagOrderSpec : ChangeSpec := { name := "diagOrder", fn := fun _ => fun
  | [d] => { results := [.lit (.bool true)], args := [d] }
  | _ => none }
def diagOrderRow : OpenClaim := { program := "ytjecgapnlnmloaa", sum := "e68e23eee01d8879833b18a8bb768336ac5e7fe0a233c3bce6fd18e5b91458e1", func := "corrector/correctorlaw14.DiagOrder", spec := "diagOrder", unfollowed := true, recurses := true, plainKeys := false, apart := false }
def DiagOrderSaid : Prop := diagOrderRow.holds Try.pinned (OpenSpec.ofChange diagOrderSpec)

/-- ITS FALSE NEIGHBOUR: 'it returns false'. Refute it at one input. -/
def diagOrderWrong : ChangeSpec := { name := "diagOrder", fn := fun _ => fun
  | [d] => { results := [.lit (.bool false)], args := [d] }
  | _ => none }
def DiagOrderWrongFalsely : Prop := diagOrderRow.holds Try.pinned (OpenSpec.ofChange diagOrderWrong)

/-- 'correctorlaw3.SpanSorts': WHATEVER THE INPUT: true; the input reads as it did. -/
def spanSortsSpec : ChangeSpec := { name := "spanSorts", fn := fun _ => fun
  | [d] => { results := [.lit (.bool true)], args := [d] }
  | _ => none }
def spanSortsRow : OpenClaim := { program := "ytjecgapnlnmloaa", sum := "e68e23eee01d8879833b18a8bb768336ac5e7fe0a233c3bce6fd18e5b91458e1", func := "corrector/correctorlaw3.SpanSorts", spec := "spanSorts", unfollowed := true, recurses := true, plainKeys := false, apart := false }
def SpanSortsSaid : Prop := spanSortsRow.holds Try.pinned (OpenSpec.ofChange spanSortsSpec)

/-- ITS FALSE NEIGHBOUR: 'it returns false'. Refute it at one input. -/
def spanSortsWrong : ChangeSpec := { name := "spanSorts", fn := fun _ => fun
  | [d] => { results := [.lit (.bool false)], args := [d] }
  | _ => none }
def SpanSortsWrongFalsely : Prop := spanSortsRow.holds Try.pinned (OpenSpec.ofChange spanSortsWrong)

/-- 'correctorlaw3.SpanOrder': WHATEVER THE INPUT: true; the input reads as it did. -/
def spanOrderSpec : ChangeSpec := { name := "spanOrder", fn := fun _ => fun
  | [d] => { results := [.lit (.bool true)], args := [d] }
  | _ => none }
def spanOrderRow : OpenClaim := { program := "ytjecgapnlnmloaa", sum := "e68e23eee01d8879833b18a8bb768336ac5e7fe0a233c3bce6fd18e5b91458e1", func := "corrector/correctorlaw3.SpanOrder", spec := "spanOrder", unfollowed := true, recurses := true, plainKeys := false, apart := false }
def SpanOrderSaid : Prop := spanOrderRow.holds Try.pinned (OpenSpec.ofChange spanOrderSpec)

/-- ITS FALSE NEIGHBOUR: 'it returns false'. Refute it at one input. -/
def spanOrderWrong : ChangeSpec := { name := "spanOrder", fn := fun _ => fun
  | [d] => { results := [.lit (.bool false)], args := [d] }
  | _ => none }
def SpanOrderWrongFalsely : Prop := spanOrderRow.holds Try.pinned (OpenSpec.ofChange spanOrderWrong)

/- THE SECOND FORM. 'bulk': how many values and letters a reading holds, each counted each time it is reached (what is shared counts as often as it is met; a slice's spare places count too). A statement '..UptoSaid' is the law's where the arguments, and the package variables that the reading takes, are together of bulk at most 1048576: NARROWER than '..Said'. Prove '..Said' where nothing that the law and all that it calls make is longer than what came in: it says more and counts as full. Else prove '..UptoSaid'. A law counts once. -/
mutual
def uptoBulk {H : Type} : DataW H → Nat
  | .lit (.string bytes) => bytes.length + 1
  | .lit _ => 1
  | .nil => 1
  | .ptr d => uptoBulk d + 1
  | .slice elems spare => uptoBulkAll elems + uptoBulkAll spare + 1
  | .agg parts => uptoBulkAll parts + 1
  | .iface _ d => uptoBulk d + 1
  | .map entries => uptoBulkEntries entries + 1
  | .held _ => 1
def uptoBulkAll {H : Type} : List (DataW H) → Nat
  | [] => 0
  | d :: r => uptoBulk d + uptoBulkAll r
def uptoBulkEntries {H : Type} : List (Lit × DataW H) → Nat
  | [] => 0
  | x :: r => uptoBulkEntry x + uptoBulkEntries r
def uptoBulkEntry {H : Type} : Lit × DataW H → Nat
  | (.string bytes, d) => bytes.length + uptoBulk d + 1
  | (_, d) => uptoBulk d + 1
 end
def uptoSmall : (H : Type) → List (DataW H) → Bool := fun _ ds => decide (uptoBulkAll ds ≤ 1048576)
def OpenSpec.upto (s : _root_.Go.ChangeSpec) : _root_.Go.OpenSpec := { _root_.Go.OpenSpec.ofChange s with cond := some uptoSmall }

/-- 'correctorlaw3.SpanMeets', WHERE WHAT IT READS IS OF BULK AT MOST 1048576: true; the input reads as it did. -/
def spanMeetsUptoRow : OpenClaim := { program := "ytjecgapnlnmloaa", sum := "e68e23eee01d8879833b18a8bb768336ac5e7fe0a233c3bce6fd18e5b91458e1", func := "corrector/correctorlaw3.SpanMeets", spec := "spanMeets", plainKeys := false, apart := false, narrowed := true }
def SpanMeetsUptoSaid : Prop := spanMeetsUptoRow.holds Try.pinned (OpenSpec.upto spanMeetsSpec)

/-- 'correctorlaw3.SpanTwo', WHERE WHAT IT READS IS OF BULK AT MOST 1048576: true; the input reads as it did. -/
def spanTwoUptoRow : OpenClaim := { program := "ytjecgapnlnmloaa", sum := "e68e23eee01d8879833b18a8bb768336ac5e7fe0a233c3bce6fd18e5b91458e1", func := "corrector/correctorlaw3.SpanTwo", spec := "spanTwo", plainKeys := false, apart := false, narrowed := true }
def SpanTwoUptoSaid : Prop := spanTwoUptoRow.holds Try.pinned (OpenSpec.upto spanTwoSpec)

/-- 'correctorlaw3.SpanJoins', WHERE WHAT IT READS IS OF BULK AT MOST 1048576: true; the input reads as it did. -/
def spanJoinsUptoRow : OpenClaim := { program := "ytjecgapnlnmloaa", sum := "e68e23eee01d8879833b18a8bb768336ac5e7fe0a233c3bce6fd18e5b91458e1", func := "corrector/correctorlaw3.SpanJoins", spec := "spanJoins", plainKeys := false, apart := false, narrowed := true }
def SpanJoinsUptoSaid : Prop := spanJoinsUptoRow.holds Try.pinned (OpenSpec.upto spanJoinsSpec)

/-- 'correctorlaw14.DiagSorts', WHERE WHAT IT READS IS OF BULK AT MOST 1048576: true; the input reads as it did. -/
def diagSortsUptoRow : OpenClaim := { program := "ytjecgapnlnmloaa", sum := "e68e23eee01d8879833b18a8bb768336ac5e7fe0a233c3bce6fd18e5b91458e1", func := "corrector/correctorlaw14.DiagSorts", spec := "diagSorts", unfollowed := true, recurses := true, plainKeys := false, apart := false, narrowed := true }
def DiagSortsUptoSaid : Prop := diagSortsUptoRow.holds Try.pinned (OpenSpec.upto diagSortsSpec)

/-- 'correctorlaw14.DiagOrder', WHERE WHAT IT READS IS OF BULK AT MOST 1048576: true; the input reads as it did. -/
def diagOrderUptoRow : OpenClaim := { program := "ytjecgapnlnmloaa", sum := "e68e23eee01d8879833b18a8bb768336ac5e7fe0a233c3bce6fd18e5b91458e1", func := "corrector/correctorlaw14.DiagOrder", spec := "diagOrder", unfollowed := true, recurses := true, plainKeys := false, apart := false, narrowed := true }
def DiagOrderUptoSaid : Prop := diagOrderUptoRow.holds Try.pinned (OpenSpec.upto diagOrderSpec)

/-- 'correctorlaw3.SpanSorts', WHERE WHAT IT READS IS OF BULK AT MOST 1048576: true; the input reads as it did. -/
def spanSortsUptoRow : OpenClaim := { program := "ytjecgapnlnmloaa", sum := "e68e23eee01d8879833b18a8bb768336ac5e7fe0a233c3bce6fd18e5b91458e1", func := "corrector/correctorlaw3.SpanSorts", spec := "spanSorts", unfollowed := true, recurses := true, plainKeys := false, apart := false, narrowed := true }
def SpanSortsUptoSaid : Prop := spanSortsUptoRow.holds Try.pinned (OpenSpec.upto spanSortsSpec)

/-- 'correctorlaw3.SpanOrder', WHERE WHAT IT READS IS OF BULK AT MOST 1048576: true; the input reads as it did. -/
def spanOrderUptoRow : OpenClaim := { program := "ytjecgapnlnmloaa", sum := "e68e23eee01d8879833b18a8bb768336ac5e7fe0a233c3bce6fd18e5b91458e1", func := "corrector/correctorlaw3.SpanOrder", spec := "spanOrder", unfollowed := true, recurses := true, plainKeys := false, apart := false, narrowed := true }
def SpanOrderUptoSaid : Prop := spanOrderUptoRow.holds Try.pinned (OpenSpec.upto spanOrderSpec)

end Rows
end Go.Proofs.Ytjecgapnlnmloaa
