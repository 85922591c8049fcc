/- A part of the proof: an interpreter of the program, shown right once, and the laws that it computes. -/
import Derived.Test.YtoaeeiocgmiojaaGreatGTr
namespace Go.Proofs.YtoaeeiocgmiojaaGreat
open Go.Eng
theorem tags0 : all5 [] = true := by kernel_rfl
theorem tags1 : all5 [256] = true := by kernel_rfl
theorem tags2 : all5 [256, 257] = true := by kernel_rfl
end Go.Proofs.YtoaeeiocgmiojaaGreat
