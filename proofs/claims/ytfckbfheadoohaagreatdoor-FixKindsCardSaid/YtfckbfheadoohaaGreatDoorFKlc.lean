/- FixKinds: the card holds: each of thirteen such texts is mended to just that. Conditions: none. -/
import Derived.Test.YtfckbfheadoohaaGreatDoorFKlb
import Derived.Test.YtfckbfheadoohaaGreatDoorFKg1
import Derived.Test.YtfckbfheadoohaaGreatDoorFKg2
namespace Go.Proofs.YtfckbfheadoohaaGreatDoor
open Go.ChangeShapes Go.WideShapes Go.ChangeAt Go.RowKit
set_option linter.unusedVariables false
/-- The card of FixKinds holds. -/
theorem fixKindsCard_holds : Rows.FixKindsCardSaid :=
  Claim7.holds_tied_plain_at .later [] [.data, .data, .data, .data, .pinned, .pinned, .pinned, .pinned, .pinned, .pinned] true (true, "f38845fbea540c150917e35ae8904f23de3619cf7e2ea824488f9ae7aed09d98") true
    fixKinds.over (fun _ h => by cases h) wft3 (fun _ h => by cases h) fixKinds_row_tie rfl ⟨rfl, rfl⟩ mainIs3 rfl
    (fun f fn hf hfn => by
      obtain rfl : f = 3 := Option.some.inj ((show Tryz.prog.funcNamed "corrector/correctorlaw21.FixKinds" = some 3 by kernel_rfl).symm.trans hf) |>.symm
      obtain rfl : fn = Tryz.f3 := (Option.some.inj (Tryz.func3.symm.trans hfn)).symm
      exact ⟨looks3, fun j t ht => by
        rw [Tryz.params3] at ht
        have hm : t ∈ [3] := by simpa using Array.mem_of_getElem? ht
        have hall : ([3].all fun u => !Tryz.prog.wantsStandIn u) = true := by kernel_rfl
        exact (show Tryz.prog.wantsStandIn t = false by simpa using List.all_eq_true.1 hall t hm)⟩)
    goes3
#print axioms fixKindsCard_holds
end Go.Proofs.YtfckbfheadoohaaGreatDoor
