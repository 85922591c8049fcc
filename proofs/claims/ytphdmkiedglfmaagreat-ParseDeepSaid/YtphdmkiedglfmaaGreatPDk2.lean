/- A part of the proof: an interpreter of the program, shown right once, and the laws that it computes. -/
import Derived.Test.YtphdmkiedglfmaaGreatPDt
set_option linter.constructorNameAsVariable false
set_option linter.unusedVariables false
namespace Go.Proofs.YtphdmkiedglfmaaGreat
open Go.Eng
theorem on28_14 : ones 28 14 7 = true := by kernel_rfl
theorem on28_0 : ones 28 0 14 = true := by kernel_rfl
theorem on19_0 : ones 19 0 14 = true := by kernel_rfl
theorem on26_21 : ones 26 21 4 = true := by kernel_rfl
theorem on19_14 : ones 19 14 4 = true := by kernel_rfl
theorem on9_0 : ones 9 0 8 = true := by kernel_rfl
theorem sy20 : one 20 400 = true := by kernel_rfl
theorem on5_0 : ones 5 0 4 = true := by kernel_rfl
theorem sy8 : one 8 400 = true := by kernel_rfl
theorem sy1 : one 1 400 = true := by kernel_rfl
end Go.Proofs.YtphdmkiedglfmaaGreat
