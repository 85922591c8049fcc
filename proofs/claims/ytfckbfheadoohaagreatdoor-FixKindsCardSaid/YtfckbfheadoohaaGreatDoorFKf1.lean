/- A part of the proof: an interpreter of the program, shown right once, and the laws that it computes. -/
import Derived.Test.YtfckbfheadoohaaGreatDoorRows
import Derived.JoinedOf
import Derived.KernelRfl
namespace Go.Proofs.YtfckbfheadoohaaGreatDoor
set_option linter.unusedVariables false
theorem jf9 : ((Rows.fixKindsRow.inPlace == Tryz.prog.inPlace 3)) = true := by kernel_rfl
theorem jf1 : (laidOutB Tryz.prog) = true := by kernel_rfl
end Go.Proofs.YtfckbfheadoohaaGreatDoor
