/- A part of the proof: an interpreter of the program, shown right once, and the laws that it computes. -/
import Derived.Test.YtallkpebijgghaaDoorCLr
namespace Go.Proofs.YtallkpebijgghaaDoor
open Go.Eng
theorem long6 : isTrue ((run Tryd.prog (memo (rowsC 10 6)) 10000).f 4 [.sym 0] s₀ .ok) = true := by kernel_rfl
theorem long7 : isTrue ((run Tryd.prog (memo (rowsC 10 7)) 10000).f 4 [.sym 0] s₀ .ok) = true := by kernel_rfl
theorem long8 : isTrue ((run Tryd.prog (memo (rowsC 10 8)) 10000).f 4 [.sym 0] s₀ .ok) = true := by kernel_rfl
theorem long9 : isTrue ((run Tryd.prog (memo (rowsC 10 9)) 10000).f 4 [.sym 0] s₀ .ok) = true := by kernel_rfl
theorem known5k : isTrue ((run Tryd.prog noExt 10000).f 5 [] s₀ .ok) = true := by kernel_rfl
end Go.Proofs.YtallkpebijgghaaDoor
