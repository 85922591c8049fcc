/- A part of the proof: an interpreter of the program, shown right once, and the laws that it computes. -/
import Derived.Test.YtoaeeiocgmiojaaGreatPKr
namespace Go.Proofs.YtoaeeiocgmiojaaGreat
open Go.Eng
theorem kind7 : isTrue ((run Tryz.prog (memo (rowsK 19 7)) 10000).f 3 [.sym 0] s₀ .ok) = true := by kernel_rfl
theorem kind8 : isTrue ((run Tryz.prog (memo (rowsK 19 8)) 10000).f 3 [.sym 0] s₀ .ok) = true := by kernel_rfl
theorem kind9 : isTrue ((run Tryz.prog (memo (rowsK 19 9)) 10000).f 3 [.sym 0] s₀ .ok) = true := by kernel_rfl
theorem kind10 : isTrue ((run Tryz.prog (memo (rowsK 19 10)) 10000).f 3 [.sym 0] s₀ .ok) = true := by kernel_rfl
theorem kind11 : isTrue ((run Tryz.prog (memo (rowsK 19 11)) 10000).f 3 [.sym 0] s₀ .ok) = true := by kernel_rfl
theorem kind12 : isTrue ((run Tryz.prog (memo (rowsK 19 12)) 10000).f 3 [.sym 0] s₀ .ok) = true := by kernel_rfl
end Go.Proofs.YtoaeeiocgmiojaaGreat
