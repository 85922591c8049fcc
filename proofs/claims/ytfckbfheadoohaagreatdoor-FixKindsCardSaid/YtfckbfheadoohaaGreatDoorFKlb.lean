/- FixKinds: the row. -/
import Derived.Test.YtfckbfheadoohaaGreatDoorFKla
import Derived.Test.YtfckbfheadoohaaGreatDoorFKf1
import Derived.Test.YtfckbfheadoohaaGreatDoorFKf2
import Derived.Test.YtfckbfheadoohaaGreatDoorFKf3
import Derived.Test.YtfckbfheadoohaaGreatDoorFKf4
import Derived.Test.YtfckbfheadoohaaGreatDoorFKf5
namespace Go.Proofs.YtfckbfheadoohaaGreatDoor
open Go.ChangeShapes Go.WideShapes Go.ChangeAt Go.RowKit
set_option linter.unusedVariables false
namespace fixKinds
theorem an {a b : Bool} (ha : a = true) (hb : b = true) : (a && b) = true := by rw [ha, hb]; rfl
set_option maxRecDepth 100000 in
theorem joined : joinedFacts Tryz.prog 3 Tryz.f3 Rows.fixKindsSpec Rows.fixKindsRow = true := by
  unfold joinedFacts
  exact an (an (an (an (an (an (an (an (an (an (an (an (an (an (an (an (an (an (an (an (an (an (an (an (an (an (an (an (an (an (an jf0 jf1) jf2) jf3) jf4) jf5) jf6) jf7) jf8) jf9) jf10) jf11) jf12) jf13) jf14) jf15) jf16) jf17) jf18) jf19) jf20) jf21) jf22) jf23) jf24) jf25) jf26) jf27) jf28) jf29) jf30) jf31
theorem over : Rows.fixKindsRow.holds Tryz.pinned (OpenSpec.ofChange Rows.fixKindsSpec) :=
  OpenClaim.holds_of_wide 3 Tryz.f3 rfl rfl rfl rfl rfl rfl rfl ⟨rfl, rfl, rfl, rfl, rfl⟩ rfl rfl rfl rfl rfl (by kernel_rfl) Tryz.func3 joined
    (of_decide_eq_true (by kernel_rfl)) (by unfold Func.isWrapper; first | (rw [if_pos (by decide +kernel)]; kernel_rfl) | (rw [if_neg (by decide +kernel)]; exact ⟨rfl, rfl⟩))
    (fun os started H enc _ => lifted os started H enc)
end fixKinds
end Go.Proofs.YtfckbfheadoohaaGreatDoor
