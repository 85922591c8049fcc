/- A part of the proof: an interpreter of the program, shown right once, and the laws that it computes. -/
import Derived.Test.YtphdmkiedglfmaaGreatPDt
set_option linter.constructorNameAsVariable false
set_option linter.unusedVariables false
namespace Go.Proofs.YtphdmkiedglfmaaGreat
open Go.Eng
theorem rTxt26 : (rTxt 26).Ok := fun τ φ => by kernel_rfl
theorem rTok26 : (rTok 26).Ok := fun τ φ => by kernel_rfl
theorem rRow26 : (rRow 26).Ok := fun τ φ => by kernel_rfl
theorem rEnt26 : (rEnt 26).Ok := fun τ φ => by kernel_rfl
theorem eTok26 : runG (toG (eTok 26)) = true := by kernel_rfl
theorem eRow26 : runG (toG (eRow 26)) = true := by kernel_rfl
theorem eEnt26 : runG (toG (eEnt 26)) = true := by kernel_rfl
theorem eBad26 : runG (toG (eBad 26)) = true := by kernel_rfl
theorem rTxt27 : (rTxt 27).Ok := fun τ φ => by kernel_rfl
theorem rTok27 : (rTok 27).Ok := fun τ φ => by kernel_rfl
theorem rRow27 : (rRow 27).Ok := fun τ φ => by kernel_rfl
theorem rEnt27 : (rEnt 27).Ok := fun τ φ => by kernel_rfl
theorem eTok27 : runG (toG (eTok 27)) = true := by kernel_rfl
theorem eRow27 : runG (toG (eRow 27)) = true := by kernel_rfl
theorem eEnt27 : runG (toG (eEnt 27)) = true := by kernel_rfl
theorem eBad27 : runG (toG (eBad 27)) = true := by kernel_rfl
theorem rTxt28 : (rTxt 28).Ok := fun τ φ => by kernel_rfl
theorem rTok28 : (rTok 28).Ok := fun τ φ => by kernel_rfl
theorem rRow28 : (rRow 28).Ok := fun τ φ => by kernel_rfl
theorem rEnt28 : (rEnt 28).Ok := fun τ φ => by kernel_rfl
theorem eTok28 : runG (toG (eTok 28)) = true := by kernel_rfl
theorem eRow28 : runG (toG (eRow 28)) = true := by kernel_rfl
theorem eEnt28 : runG (toG (eEnt 28)) = true := by kernel_rfl
theorem eBad28 : runG (toG (eBad 28)) = true := by kernel_rfl
theorem rTxt29 : (rTxt 29).Ok := fun τ φ => by kernel_rfl
theorem rTok29 : (rTok 29).Ok := fun τ φ => by kernel_rfl
theorem rRow29 : (rRow 29).Ok := fun τ φ => by kernel_rfl
theorem rEnt29 : (rEnt 29).Ok := fun τ φ => by kernel_rfl
theorem eTok29 : runG (toG (eTok 29)) = true := by kernel_rfl
theorem eRow29 : runG (toG (eRow 29)) = true := by kernel_rfl
theorem eEnt29 : runG (toG (eEnt 29)) = true := by kernel_rfl
theorem eBad29 : runG (toG (eBad 29)) = true := by kernel_rfl
theorem rTxt30 : (rTxt 30).Ok := fun τ φ => by kernel_rfl
theorem rTok30 : (rTok 30).Ok := fun τ φ => by kernel_rfl
theorem rRow30 : (rRow 30).Ok := fun τ φ => by kernel_rfl
theorem rEnt30 : (rEnt 30).Ok := fun τ φ => by kernel_rfl
theorem eTok30 : runG (toG (eTok 30)) = true := by kernel_rfl
theorem eRow30 : runG (toG (eRow 30)) = true := by kernel_rfl
theorem eEnt30 : runG (toG (eEnt 30)) = true := by kernel_rfl
theorem eBad30 : runG (toG (eBad 30)) = true := by kernel_rfl
end Go.Proofs.YtphdmkiedglfmaaGreat
