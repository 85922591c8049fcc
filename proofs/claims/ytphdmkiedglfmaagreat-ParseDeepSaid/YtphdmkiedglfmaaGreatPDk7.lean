/- A part of the proof: an interpreter of the program, shown right once, and the laws that it computes. -/
import Derived.Test.YtphdmkiedglfmaaGreatPDt
set_option linter.constructorNameAsVariable false
set_option linter.unusedVariables false
namespace Go.Proofs.YtphdmkiedglfmaaGreat
open Go.Eng
theorem on23_14 : ones 23 14 7 = true := by kernel_rfl
theorem on23_0 : ones 23 0 14 = true := by kernel_rfl
theorem on30_21 : ones 30 21 5 = true := by kernel_rfl
theorem on28_21 : ones 28 21 5 = true := by kernel_rfl
theorem sy26 : one 26 400 = true := by kernel_rfl
theorem sy21 : one 21 400 = true := by kernel_rfl
theorem sy18 : one 18 400 = true := by kernel_rfl
theorem sy11 : one 11 400 = true := by kernel_rfl
theorem on4_0 : ones 4 0 3 = true := by kernel_rfl
end Go.Proofs.YtphdmkiedglfmaaGreat
