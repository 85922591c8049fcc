/- A part of the proof: an interpreter of the program, shown right once, and the laws that it computes. -/
import Derived.Test.YtoaeeiocgmiojaaGreatGTr
namespace Go.Proofs.YtoaeeiocgmiojaaGreat
open Go.Eng
theorem tags3 : all5 [256, 257, 258] = true := by kernel_rfl
theorem tags4 : all5 [256, 257, 258, 259] = true := by kernel_rfl
theorem tags5 : all5 [256, 257, 258, 259, 260] = true := by kernel_rfl
end Go.Proofs.YtoaeeiocgmiojaaGreat
