/- A part of the proof: an interpreter of the program, shown right once, and the laws that it computes. -/
import Derived.Test.YtoaeeiocgmiojaaGreatGTr
namespace Go.Proofs.YtoaeeiocgmiojaaGreat
open Go.Eng
theorem tags9 : all5 [256, 257, 258, 259, 260, 261, 262, 263, 264] = true := by kernel_rfl
theorem tags10 : all5 [256, 257, 258, 259, 260, 261, 262, 263, 264, 265] = true := by kernel_rfl
theorem tags11 : all5 [256, 257, 258, 259, 260, 261, 262, 263, 264, 265, 266] = true := by kernel_rfl
end Go.Proofs.YtoaeeiocgmiojaaGreat
