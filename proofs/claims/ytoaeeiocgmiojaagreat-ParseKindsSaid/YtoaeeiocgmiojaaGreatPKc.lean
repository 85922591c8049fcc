/- A part of the proof: an interpreter of the program, shown right once, and the laws that it computes. -/
import Derived.Test.YtoaeeiocgmiojaaGreatPKr
namespace Go.Proofs.YtoaeeiocgmiojaaGreat
open Go.Eng
theorem kind13 : isTrue ((run Tryz.prog (memo (rowsK 19 13)) 10000).f 3 [.sym 0] s₀ .ok) = true := by kernel_rfl
theorem kind14 : isTrue ((run Tryz.prog (memo (rowsK 19 14)) 10000).f 3 [.sym 0] s₀ .ok) = true := by kernel_rfl
theorem kind15 : isTrue ((run Tryz.prog (memo (rowsK 19 15)) 10000).f 3 [.sym 0] s₀ .ok) = true := by kernel_rfl
theorem kind16 : isTrue ((run Tryz.prog (memo (rowsK 19 16)) 10000).f 3 [.sym 0] s₀ .ok) = true := by kernel_rfl
theorem kind17 : isTrue ((run Tryz.prog (memo (rowsK 19 17)) 10000).f 3 [.sym 0] s₀ .ok) = true := by kernel_rfl
theorem kind18 : isTrue ((run Tryz.prog (memo (rowsK 19 18)) 10000).f 3 [.sym 0] s₀ .ok) = true := by kernel_rfl
end Go.Proofs.YtoaeeiocgmiojaaGreat
