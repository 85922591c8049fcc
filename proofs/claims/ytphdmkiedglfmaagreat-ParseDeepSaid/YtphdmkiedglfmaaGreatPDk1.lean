/- A part of the proof: an interpreter of the program, shown right once, and the laws that it computes. -/
import Derived.Test.YtphdmkiedglfmaaGreatPDt
set_option linter.constructorNameAsVariable false
set_option linter.unusedVariables false
namespace Go.Proofs.YtphdmkiedglfmaaGreat
open Go.Eng
theorem on29_14 : ones 29 14 7 = true := by kernel_rfl
theorem on29_0 : ones 29 0 14 = true := by kernel_rfl
theorem on20_0 : ones 20 0 14 = true := by kernel_rfl
theorem on14_0 : ones 14 0 13 = true := by kernel_rfl
theorem on11_0 : ones 11 0 10 = true := by kernel_rfl
theorem on24_21 : ones 24 21 2 = true := by kernel_rfl
theorem sy16 : one 16 400 = true := by kernel_rfl
theorem sy14 : one 14 400 = true := by kernel_rfl
theorem on3_0 : ones 3 0 2 = true := by kernel_rfl
theorem on2_0 : ones 2 0 1 = true := by kernel_rfl
end Go.Proofs.YtphdmkiedglfmaaGreat
