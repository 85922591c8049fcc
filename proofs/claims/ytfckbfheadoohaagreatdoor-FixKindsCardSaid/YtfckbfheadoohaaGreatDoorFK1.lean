/- A part of the proof: an interpreter of the program, shown right once, and the laws that it computes. -/
import Derived.Test.YtfckbfheadoohaaGreatDoorFKr
namespace Go.Proofs.YtfckbfheadoohaaGreatDoor
open Go.Eng
theorem main1 : isTrue ((run Tryz.prog (orX (memo (rowsK 13 1)) XX) 10000).f 3 [.sym 0] s₀ .ok) = true := by kernel_rfl
end Go.Proofs.YtfckbfheadoohaaGreatDoor
