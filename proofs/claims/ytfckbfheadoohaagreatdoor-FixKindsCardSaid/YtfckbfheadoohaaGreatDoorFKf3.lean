/- A part of the proof: an interpreter of the program, shown right once, and the laws that it computes. -/
import Derived.Test.YtfckbfheadoohaaGreatDoorRows
import Derived.JoinedOf
import Derived.KernelRfl
namespace Go.Proofs.YtfckbfheadoohaaGreatDoor
set_option linter.unusedVariables false
theorem jf11 : ((Rows.fixKindsRow.recurses == Tryz.prog.recurses 3)) = true := by kernel_rfl
theorem jf24 : (Tryz.prog.stopsHeard) = true := by kernel_rfl
end Go.Proofs.YtfckbfheadoohaaGreatDoor
