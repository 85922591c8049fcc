/- A part of the proof: an interpreter of the program, shown right once, and the laws that it computes. -/
import Derived.Test.YtallkpebijgghaaDoorCLr
namespace Go.Proofs.YtallkpebijgghaaDoor
open Go.Eng
theorem long2 : isTrue ((run Tryd.prog (memo (rowsC 10 2)) 10000).f 4 [.sym 0] s₀ .ok) = true := by kernel_rfl
theorem long3 : isTrue ((run Tryd.prog (memo (rowsC 10 3)) 10000).f 4 [.sym 0] s₀ .ok) = true := by kernel_rfl
end Go.Proofs.YtallkpebijgghaaDoor
