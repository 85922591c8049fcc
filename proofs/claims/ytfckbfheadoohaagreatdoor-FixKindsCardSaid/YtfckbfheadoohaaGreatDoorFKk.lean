/- A part of the proof: an interpreter of the program, shown right once, and the laws that it computes. -/
import Derived.Test.YtfckbfheadoohaaGreatDoorFKr
namespace Go.Proofs.YtfckbfheadoohaaGreatDoor
open Go.Eng
theorem known4k : isTrue ((run Tryz.prog XX 10000).f 4 [] s₀ .ok) = true := by kernel_rfl
end Go.Proofs.YtfckbfheadoohaaGreatDoor
