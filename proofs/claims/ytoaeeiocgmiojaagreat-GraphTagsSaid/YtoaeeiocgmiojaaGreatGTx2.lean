/- A part of the proof: an interpreter of the program, shown right once, and the laws that it computes. -/
import Derived.Test.YtoaeeiocgmiojaaGreatGTr
namespace Go.Proofs.YtoaeeiocgmiojaaGreat
open Go.Eng
theorem tags6 : all5 [256, 257, 258, 259, 260, 261] = true := by kernel_rfl
theorem tags7 : all5 [256, 257, 258, 259, 260, 261, 262] = true := by kernel_rfl
theorem tags8 : all5 [256, 257, 258, 259, 260, 261, 262, 263] = true := by kernel_rfl
end Go.Proofs.YtoaeeiocgmiojaaGreat
