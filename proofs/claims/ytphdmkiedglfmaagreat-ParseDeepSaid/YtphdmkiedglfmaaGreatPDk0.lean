/- A part of the proof: an interpreter of the program, shown right once, and the laws that it computes. -/
import Derived.Test.YtphdmkiedglfmaaGreatPDt
set_option linter.constructorNameAsVariable false
set_option linter.unusedVariables false
namespace Go.Proofs.YtphdmkiedglfmaaGreat
open Go.Eng
theorem on30_14 : ones 30 14 7 = true := by kernel_rfl
theorem on30_0 : ones 30 0 14 = true := by kernel_rfl
theorem on21_0 : ones 21 0 14 = true := by kernel_rfl
theorem on21_14 : ones 21 14 6 = true := by kernel_rfl
theorem sy27 : one 27 400 = true := by kernel_rfl
theorem sy23 : one 23 400 = true := by kernel_rfl
theorem on28_26 : ones 28 26 1 = true := by kernel_rfl
theorem sy13 : one 13 400 = true := by kernel_rfl
theorem sy7 : one 7 400 = true := by kernel_rfl
theorem sy3 : one 3 400 = true := by kernel_rfl
end Go.Proofs.YtphdmkiedglfmaaGreat
