/- A part of the proof: an interpreter of the program, shown right once, and the laws that it computes. -/
import Derived.Test.YtphdmkiedglfmaaGreatPDt
set_option linter.constructorNameAsVariable false
set_option linter.unusedVariables false
namespace Go.Proofs.YtphdmkiedglfmaaGreat
open Go.Eng
theorem on25_14 : ones 25 14 7 = true := by kernel_rfl
theorem on25_0 : ones 25 0 14 = true := by kernel_rfl
theorem on16_0 : ones 16 0 14 = true := by kernel_rfl
theorem on30_26 : ones 30 26 3 = true := by kernel_rfl
theorem sy29 : one 29 400 = true := by kernel_rfl
theorem sy25 : one 25 400 = true := by kernel_rfl
theorem on7_0 : ones 7 0 6 = true := by kernel_rfl
theorem on6_0 : ones 6 0 5 = true := by kernel_rfl
theorem sy6 : one 6 400 = true := by kernel_rfl
theorem sy2 : one 2 400 = true := by kernel_rfl
end Go.Proofs.YtphdmkiedglfmaaGreat
