/- A part of the proof: an interpreter of the program, shown right once, and the laws that it computes. -/
import Derived.Test.YtoaeeiocgmiojaaGreatPKr
namespace Go.Proofs.YtoaeeiocgmiojaaGreat
open Go.Eng
theorem kind0 : isTrue ((run Tryz.prog (memo (rowsK 19 0)) 10000).f 3 [.sym 0] s₀ .ok) = true := by kernel_rfl
theorem kind1 : isTrue ((run Tryz.prog (memo (rowsK 19 1)) 10000).f 3 [.sym 0] s₀ .ok) = true := by kernel_rfl
theorem kind2 : isTrue ((run Tryz.prog (memo (rowsK 19 2)) 10000).f 3 [.sym 0] s₀ .ok) = true := by kernel_rfl
theorem kind3 : isTrue ((run Tryz.prog (memo (rowsK 19 3)) 10000).f 3 [.sym 0] s₀ .ok) = true := by kernel_rfl
theorem kind4 : isTrue ((run Tryz.prog (memo (rowsK 19 4)) 10000).f 3 [.sym 0] s₀ .ok) = true := by kernel_rfl
theorem kind5 : isTrue ((run Tryz.prog (memo (rowsK 19 5)) 10000).f 3 [.sym 0] s₀ .ok) = true := by kernel_rfl
theorem kind6 : isTrue ((run Tryz.prog (memo (rowsK 19 6)) 10000).f 3 [.sym 0] s₀ .ok) = true := by kernel_rfl
end Go.Proofs.YtoaeeiocgmiojaaGreat
