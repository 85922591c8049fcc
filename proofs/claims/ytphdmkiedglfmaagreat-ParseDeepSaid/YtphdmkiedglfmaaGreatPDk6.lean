/- A part of the proof: an interpreter of the program, shown right once, and the laws that it computes. -/
import Derived.Test.YtphdmkiedglfmaaGreatPDt
set_option linter.constructorNameAsVariable false
set_option linter.unusedVariables false
namespace Go.Proofs.YtphdmkiedglfmaaGreat
open Go.Eng
theorem on24_14 : ones 24 14 7 = true := by kernel_rfl
theorem on24_0 : ones 24 0 14 = true := by kernel_rfl
theorem on15_0 : ones 15 0 14 = true := by kernel_rfl
theorem on12_0 : ones 12 0 11 = true := by kernel_rfl
theorem sy30 : one 30 400 = true := by kernel_rfl
theorem sy24 : one 24 400 = true := by kernel_rfl
theorem on8_0 : ones 8 0 7 = true := by kernel_rfl
theorem sy12 : one 12 400 = true := by kernel_rfl
theorem sy9 : one 9 400 = true := by kernel_rfl
end Go.Proofs.YtphdmkiedglfmaaGreat
