/- A part of the proof: an interpreter of the program, shown right once, and the laws that it computes. -/
import Derived.Test.YtoaeeiocgmiojaaGreatGTr
namespace Go.Proofs.YtoaeeiocgmiojaaGreat
open Go.Eng
theorem tags18 : all5 [256, 257, 258, 259, 260, 261, 262, 263, 264, 265, 266, 267, 268, 269, 270, 271, 272, 273] = true := by kernel_rfl
theorem tags19 : all5 [256, 257, 258, 259, 260, 261, 262, 263, 264, 265, 266, 267, 268, 269, 270, 271, 272, 273, 274] = true := by kernel_rfl
theorem tags20 : all5 [256, 257, 258, 259, 260, 261, 262, 263, 264, 265, 266, 267, 268, 269, 270, 271, 272, 273, 274, 275] = true := by kernel_rfl
end Go.Proofs.YtoaeeiocgmiojaaGreat
