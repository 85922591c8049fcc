/- A part of the proof: an interpreter of the program, shown right once, and the laws that it computes. -/
import Derived.Test.YtphdmkiedglfmaaGreatPDt
set_option linter.constructorNameAsVariable false
set_option linter.unusedVariables false
namespace Go.Proofs.YtphdmkiedglfmaaGreat
open Go.Eng
theorem on26_14 : ones 26 14 7 = true := by kernel_rfl
theorem on26_0 : ones 26 0 14 = true := by kernel_rfl
theorem on17_0 : ones 17 0 14 = true := by kernel_rfl
theorem on20_14 : ones 20 14 5 = true := by kernel_rfl
theorem on25_21 : ones 25 21 3 = true := by kernel_rfl
theorem on29_26 : ones 29 26 2 = true := by kernel_rfl
theorem on17_14 : ones 17 14 2 = true := by kernel_rfl
theorem on23_21 : ones 23 21 1 = true := by kernel_rfl
theorem sy4 : one 4 400 = true := by kernel_rfl
end Go.Proofs.YtphdmkiedglfmaaGreat
