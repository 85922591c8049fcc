/- A part of the proof: an interpreter of the program, shown right once, and the laws that it computes. -/
import Derived.Test.YtphdmkiedglfmaaGreatPDt
set_option linter.constructorNameAsVariable false
set_option linter.unusedVariables false
namespace Go.Proofs.YtphdmkiedglfmaaGreat
open Go.Eng
theorem rTxt19 : (rTxt 19).Ok := fun τ φ => by kernel_rfl
theorem rTok19 : (rTok 19).Ok := fun τ φ => by kernel_rfl
theorem rRow19 : (rRow 19).Ok := fun τ φ => by kernel_rfl
theorem rEnt19 : (rEnt 19).Ok := fun τ φ => by kernel_rfl
theorem eTok19 : runG (toG (eTok 19)) = true := by kernel_rfl
theorem eRow19 : runG (toG (eRow 19)) = true := by kernel_rfl
theorem eEnt19 : runG (toG (eEnt 19)) = true := by kernel_rfl
theorem eBad19 : runG (toG (eBad 19)) = true := by kernel_rfl
theorem rTxt20 : (rTxt 20).Ok := fun τ φ => by kernel_rfl
theorem rTok20 : (rTok 20).Ok := fun τ φ => by kernel_rfl
theorem rRow20 : (rRow 20).Ok := fun τ φ => by kernel_rfl
theorem rEnt20 : (rEnt 20).Ok := fun τ φ => by kernel_rfl
theorem eTok20 : runG (toG (eTok 20)) = true := by kernel_rfl
theorem eRow20 : runG (toG (eRow 20)) = true := by kernel_rfl
theorem eEnt20 : runG (toG (eEnt 20)) = true := by kernel_rfl
theorem eBad20 : runG (toG (eBad 20)) = true := by kernel_rfl
theorem rTxt21 : (rTxt 21).Ok := fun τ φ => by kernel_rfl
theorem rTok21 : (rTok 21).Ok := fun τ φ => by kernel_rfl
theorem rRow21 : (rRow 21).Ok := fun τ φ => by kernel_rfl
theorem rEnt21 : (rEnt 21).Ok := fun τ φ => by kernel_rfl
theorem eTok21 : runG (toG (eTok 21)) = true := by kernel_rfl
theorem eRow21 : runG (toG (eRow 21)) = true := by kernel_rfl
theorem eEnt21 : runG (toG (eEnt 21)) = true := by kernel_rfl
theorem eBad21 : runG (toG (eBad 21)) = true := by kernel_rfl
theorem rTxt22 : (rTxt 22).Ok := fun τ φ => by kernel_rfl
theorem rTok22 : (rTok 22).Ok := fun τ φ => by kernel_rfl
theorem rRow22 : (rRow 22).Ok := fun τ φ => by kernel_rfl
theorem rEnt22 : (rEnt 22).Ok := fun τ φ => by kernel_rfl
theorem eTok22 : runG (toG (eTok 22)) = true := by kernel_rfl
theorem eRow22 : runG (toG (eRow 22)) = true := by kernel_rfl
theorem eEnt22 : runG (toG (eEnt 22)) = true := by kernel_rfl
theorem eBad22 : runG (toG (eBad 22)) = true := by kernel_rfl
theorem rTxt23 : (rTxt 23).Ok := fun τ φ => by kernel_rfl
theorem rTok23 : (rTok 23).Ok := fun τ φ => by kernel_rfl
theorem rRow23 : (rRow 23).Ok := fun τ φ => by kernel_rfl
theorem rEnt23 : (rEnt 23).Ok := fun τ φ => by kernel_rfl
theorem eTok23 : runG (toG (eTok 23)) = true := by kernel_rfl
theorem eRow23 : runG (toG (eRow 23)) = true := by kernel_rfl
theorem eEnt23 : runG (toG (eEnt 23)) = true := by kernel_rfl
theorem eBad23 : runG (toG (eBad 23)) = true := by kernel_rfl
theorem rTxt24 : (rTxt 24).Ok := fun τ φ => by kernel_rfl
theorem rTok24 : (rTok 24).Ok := fun τ φ => by kernel_rfl
theorem rRow24 : (rRow 24).Ok := fun τ φ => by kernel_rfl
theorem rEnt24 : (rEnt 24).Ok := fun τ φ => by kernel_rfl
theorem eTok24 : runG (toG (eTok 24)) = true := by kernel_rfl
theorem eRow24 : runG (toG (eRow 24)) = true := by kernel_rfl
theorem eEnt24 : runG (toG (eEnt 24)) = true := by kernel_rfl
theorem eBad24 : runG (toG (eBad 24)) = true := by kernel_rfl
theorem rTxt25 : (rTxt 25).Ok := fun τ φ => by kernel_rfl
theorem rTok25 : (rTok 25).Ok := fun τ φ => by kernel_rfl
theorem rRow25 : (rRow 25).Ok := fun τ φ => by kernel_rfl
theorem rEnt25 : (rEnt 25).Ok := fun τ φ => by kernel_rfl
theorem eTok25 : runG (toG (eTok 25)) = true := by kernel_rfl
theorem eRow25 : runG (toG (eRow 25)) = true := by kernel_rfl
theorem eEnt25 : runG (toG (eEnt 25)) = true := by kernel_rfl
theorem eBad25 : runG (toG (eBad 25)) = true := by kernel_rfl
end Go.Proofs.YtphdmkiedglfmaaGreat
