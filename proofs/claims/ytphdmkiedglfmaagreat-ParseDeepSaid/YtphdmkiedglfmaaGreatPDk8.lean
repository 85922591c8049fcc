/- A part of the proof: an interpreter of the program, shown right once, and the laws that it computes. -/
import Derived.Test.YtphdmkiedglfmaaGreatPDt
set_option linter.constructorNameAsVariable false
set_option linter.unusedVariables false
namespace Go.Proofs.YtphdmkiedglfmaaGreat
open Go.Eng
theorem on22_14 : ones 22 14 7 = true := by kernel_rfl
theorem on22_0 : ones 22 0 14 = true := by kernel_rfl
theorem on29_21 : ones 29 21 5 = true := by kernel_rfl
theorem on27_21 : ones 27 21 5 = true := by kernel_rfl
theorem on10_0 : ones 10 0 9 = true := by kernel_rfl
theorem sy22 : one 22 400 = true := by kernel_rfl
theorem sy17 : one 17 400 = true := by kernel_rfl
theorem on16_14 : ones 16 14 1 = true := by kernel_rfl
theorem sy10 : one 10 400 = true := by kernel_rfl
end Go.Proofs.YtphdmkiedglfmaaGreat
