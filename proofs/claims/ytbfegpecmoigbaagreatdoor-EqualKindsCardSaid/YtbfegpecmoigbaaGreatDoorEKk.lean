/- A part of the proof: an interpreter of the program, shown right once, and the laws that it computes. -/
import Derived.Test.YtbfegpecmoigbaaGreatDoorEKr
namespace Go.Proofs.YtbfegpecmoigbaaGreatDoor
open Go.Eng
theorem known4k : isTrue ((run Tryz.prog noExt 10000).f 4 [] s₀ .ok) = true := by kernel_rfl
end Go.Proofs.YtbfegpecmoigbaaGreatDoor
