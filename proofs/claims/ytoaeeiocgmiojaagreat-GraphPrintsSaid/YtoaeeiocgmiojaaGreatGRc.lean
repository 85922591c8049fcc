/- A part of the proof: an interpreter of the program, shown right once, and the laws that it computes. -/
import Derived.Test.YtoaeeiocgmiojaaGreatGRr
namespace Go.Proofs.YtoaeeiocgmiojaaGreat
open Go.Eng
theorem prints10 : isTrue ((run Tryz.prog (extG 20 10) 10000).f 6 [.sym 0] s₀ .ok) = true := by kernel_rfl
theorem prints11 : isTrue ((run Tryz.prog (extG 20 11) 10000).f 6 [.sym 0] s₀ .ok) = true := by kernel_rfl
theorem prints12 : isTrue ((run Tryz.prog (extG 20 12) 10000).f 6 [.sym 0] s₀ .ok) = true := by kernel_rfl
theorem prints13 : isTrue ((run Tryz.prog (extG 20 13) 10000).f 6 [.sym 0] s₀ .ok) = true := by kernel_rfl
theorem prints14 : isTrue ((run Tryz.prog (extG 20 14) 10000).f 6 [.sym 0] s₀ .ok) = true := by kernel_rfl
end Go.Proofs.YtoaeeiocgmiojaaGreat
