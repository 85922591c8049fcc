/- A part of the proof: an interpreter of the program, shown right once, and the laws that it computes. -/
import Derived.Test.YtoaeeiocgmiojaaGreatGRr
namespace Go.Proofs.YtoaeeiocgmiojaaGreat
open Go.Eng
theorem prints5 : isTrue ((run Tryz.prog (extG 20 5) 10000).f 6 [.sym 0] s₀ .ok) = true := by kernel_rfl
theorem prints6 : isTrue ((run Tryz.prog (extG 20 6) 10000).f 6 [.sym 0] s₀ .ok) = true := by kernel_rfl
theorem prints7 : isTrue ((run Tryz.prog (extG 20 7) 10000).f 6 [.sym 0] s₀ .ok) = true := by kernel_rfl
theorem prints8 : isTrue ((run Tryz.prog (extG 20 8) 10000).f 6 [.sym 0] s₀ .ok) = true := by kernel_rfl
theorem prints9 : isTrue ((run Tryz.prog (extG 20 9) 10000).f 6 [.sym 0] s₀ .ok) = true := by kernel_rfl
end Go.Proofs.YtoaeeiocgmiojaaGreat
