/- A part of the proof: an interpreter of the program, shown right once, and the laws that it computes. -/
import Derived.Test.YtoaeeiocgmiojaaGreatGRr
namespace Go.Proofs.YtoaeeiocgmiojaaGreat
open Go.Eng
theorem prints0 : isTrue ((run Tryz.prog (extG 20 0) 10000).f 6 [.sym 0] s₀ .ok) = true := by kernel_rfl
theorem prints1 : isTrue ((run Tryz.prog (extG 20 1) 10000).f 6 [.sym 0] s₀ .ok) = true := by kernel_rfl
theorem prints2 : isTrue ((run Tryz.prog (extG 20 2) 10000).f 6 [.sym 0] s₀ .ok) = true := by kernel_rfl
theorem prints3 : isTrue ((run Tryz.prog (extG 20 3) 10000).f 6 [.sym 0] s₀ .ok) = true := by kernel_rfl
theorem prints4 : isTrue ((run Tryz.prog (extG 20 4) 10000).f 6 [.sym 0] s₀ .ok) = true := by kernel_rfl
end Go.Proofs.YtoaeeiocgmiojaaGreat
