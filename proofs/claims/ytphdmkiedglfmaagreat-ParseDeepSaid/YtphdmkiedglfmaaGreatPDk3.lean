/- A part of the proof: an interpreter of the program, shown right once, and the laws that it computes. -/
import Derived.Test.YtphdmkiedglfmaaGreatPDt
set_option linter.constructorNameAsVariable false
set_option linter.unusedVariables false
namespace Go.Proofs.YtphdmkiedglfmaaGreat
open Go.Eng
theorem on27_14 : ones 27 14 7 = true := by kernel_rfl
theorem on27_0 : ones 27 0 14 = true := by kernel_rfl
theorem on18_0 : ones 18 0 14 = true := by kernel_rfl
theorem on13_0 : ones 13 0 12 = true := by kernel_rfl
theorem sy28 : one 28 400 = true := by kernel_rfl
theorem on18_14 : ones 18 14 3 = true := by kernel_rfl
theorem sy19 : one 19 400 = true := by kernel_rfl
theorem sy15 : one 15 400 = true := by kernel_rfl
theorem sy5 : one 5 400 = true := by kernel_rfl
end Go.Proofs.YtphdmkiedglfmaaGreat
