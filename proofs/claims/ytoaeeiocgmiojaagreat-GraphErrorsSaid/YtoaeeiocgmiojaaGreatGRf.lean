/- A part of the proof: an interpreter of the program, shown right once, and the laws that it computes. -/
import Derived.Test.YtoaeeiocgmiojaaGreatGRr
namespace Go.Proofs.YtoaeeiocgmiojaaGreat
open Go.Eng
theorem ring_true : isTrue ((run Tryz.prog (extG 6 0) 10000).f 7 [.bool true] s₀ .ok) = true := by kernel_rfl
theorem ring_false : isTrue ((run Tryz.prog (extG 6 0) 10000).f 7 [.bool false] s₀ .ok) = true := by kernel_rfl
theorem known16k : isTrue ((run Tryz.prog (lastX 106) 10000).f 15 [] s₀ .ok) = true := by kernel_rfl
end Go.Proofs.YtoaeeiocgmiojaaGreat
