/- A part of the proof: an interpreter of the program, shown right once, and the laws that it computes. -/
import Derived.Test.YtoaeeiocgmiojaaGreatGRr
namespace Go.Proofs.YtoaeeiocgmiojaaGreat
open Go.Eng
theorem errors0 : isTrue ((run Tryz.prog (extG 6 0) 10000).f 8 [.sym 0] s₀ .ok) = true := by kernel_rfl
theorem errors1 : isTrue ((run Tryz.prog (extG 6 1) 10000).f 8 [.sym 0] s₀ .ok) = true := by kernel_rfl
theorem errors2 : isTrue ((run Tryz.prog (extG 6 2) 10000).f 8 [.sym 0] s₀ .ok) = true := by kernel_rfl
theorem errors3 : isTrue ((run Tryz.prog (extG 6 3) 10000).f 8 [.sym 0] s₀ .ok) = true := by kernel_rfl
theorem errors4 : isTrue ((run Tryz.prog (extG 6 4) 10000).f 8 [.sym 0] s₀ .ok) = true := by kernel_rfl
theorem errors5 : isTrue ((run Tryz.prog (extG 6 5) 10000).f 8 [.sym 0] s₀ .ok) = true := by kernel_rfl
end Go.Proofs.YtoaeeiocgmiojaaGreat
