/- A part of the proof: an interpreter of the program, shown right once, and the laws that it computes. -/
import Derived.Test.YtpanfhfcpniodaaGreatDoorTWa
namespace Go.Proofs.YtpanfhfcpniodaaGreatDoor
theorem gk13 : gRun 13 = true := by kernel_rfl
theorem gk12 : gRun 12 = true := by kernel_rfl
theorem gk3 : gRun 3 = true := by kernel_rfl
theorem gk4 : gRun 4 = true := by kernel_rfl
theorem gk5 : gRun 5 = true := by kernel_rfl
end Go.Proofs.YtpanfhfcpniodaaGreatDoor
