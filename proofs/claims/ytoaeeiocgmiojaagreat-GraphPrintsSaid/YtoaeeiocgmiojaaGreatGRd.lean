/- A part of the proof: an interpreter of the program, shown right once, and the laws that it computes. -/
import Derived.Test.YtoaeeiocgmiojaaGreatGRr
namespace Go.Proofs.YtoaeeiocgmiojaaGreat
open Go.Eng
theorem prints15 : isTrue ((run Tryz.prog (extG 20 15) 10000).f 6 [.sym 0] s₀ .ok) = true := by kernel_rfl
theorem prints16 : isTrue ((run Tryz.prog (extG 20 16) 10000).f 6 [.sym 0] s₀ .ok) = true := by kernel_rfl
theorem prints17 : isTrue ((run Tryz.prog (extG 20 17) 10000).f 6 [.sym 0] s₀ .ok) = true := by kernel_rfl
theorem prints18 : isTrue ((run Tryz.prog (extG 20 18) 10000).f 6 [.sym 0] s₀ .ok) = true := by kernel_rfl
theorem prints19 : isTrue ((run Tryz.prog (extG 20 19) 10000).f 6 [.sym 0] s₀ .ok) = true := by kernel_rfl
end Go.Proofs.YtoaeeiocgmiojaaGreat
