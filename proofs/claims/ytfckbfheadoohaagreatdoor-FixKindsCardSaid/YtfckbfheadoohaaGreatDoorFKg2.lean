/- A part of the proof: an interpreter of the program, shown right once, and the laws that it computes. -/
import Derived.Test.YtfckbfheadoohaaGreatDoorRows
import Derived.Test.YtfckbfheadoohaaGreatDoorCards
import Derived.SevenTiedAt
import Derived.KernelRfl
namespace Go.Proofs.YtfckbfheadoohaaGreatDoor
theorem looks3 : true = Tryz.pinned.checked.prog.looks [] := by kernel_rfl
theorem mainIs3 : Tryz.pinned.checked.prog.mainIs = some (true, "f38845fbea540c150917e35ae8904f23de3619cf7e2ea824488f9ae7aed09d98".toList) := by kernel_rfl
theorem wft3 : Rows.fixKindsRow.wfByText (OpenSpec.ofChange Rows.fixKindsSpec) = true := by kernel_rfl
end Go.Proofs.YtfckbfheadoohaaGreatDoor
