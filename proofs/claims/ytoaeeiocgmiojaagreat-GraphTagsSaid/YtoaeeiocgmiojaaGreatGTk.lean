/- A part of the proof: an interpreter of the program, shown right once, and the laws that it computes. -/
import Derived.Test.YtoaeeiocgmiojaaGreatGRr
namespace Go.Proofs.YtoaeeiocgmiojaaGreat
open Go.Eng
theorem known16k : isTrue ((run Tryz.prog (lastX 106) 10000).f 15 [] s₀ .ok) = true := by kernel_rfl
end Go.Proofs.YtoaeeiocgmiojaaGreat
