/- A part of the proof: an interpreter of the program, shown right once, and the laws that it computes. -/
import Derived.Test.YtallkpebijgghaaDoorCLr
namespace Go.Proofs.YtallkpebijgghaaDoor
open Go.Eng
theorem long4 : isTrue ((run Tryd.prog (memo (rowsC 10 4)) 10000).f 4 [.sym 0] s₀ .ok) = true := by kernel_rfl
theorem long5 : isTrue ((run Tryd.prog (memo (rowsC 10 5)) 10000).f 4 [.sym 0] s₀ .ok) = true := by kernel_rfl
end Go.Proofs.YtallkpebijgghaaDoor
