/- A part of the proof: an interpreter of the program, shown right once, and the laws that it computes. -/
import Derived.Test.YtfckbfheadoohaaGreatDoorRows
import Derived.Test.YtfckbfheadoohaaGreatDoorCards
import Derived.SevenTiedAt
import Derived.KernelRfl
namespace Go.Proofs.YtfckbfheadoohaaGreatDoor
theorem goes3 : false = Rows.fixKindsRow.goesBy Tryz.pinned.checked.prog := by kernel_rfl
end Go.Proofs.YtfckbfheadoohaaGreatDoor
