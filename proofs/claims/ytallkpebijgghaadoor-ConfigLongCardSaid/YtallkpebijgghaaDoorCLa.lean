/- A part of the proof: an interpreter of the program, shown right once, and the laws that it computes. -/
import Derived.Test.YtallkpebijgghaaDoorCLr
namespace Go.Proofs.YtallkpebijgghaaDoor
open Go.Eng
theorem long0 : isTrue ((run Tryd.prog (memo (rowsC 10 0)) 10000).f 4 [.sym 0] s₀ .ok) = true := by kernel_rfl
theorem long1 : isTrue ((run Tryd.prog (memo (rowsC 10 1)) 10000).f 4 [.sym 0] s₀ .ok) = true := by kernel_rfl
end Go.Proofs.YtallkpebijgghaaDoor
