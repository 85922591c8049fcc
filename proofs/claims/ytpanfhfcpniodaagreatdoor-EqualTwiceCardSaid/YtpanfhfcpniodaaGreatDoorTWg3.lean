/- A part of the proof: an interpreter of the program, shown right once, and the laws that it computes. -/
import Derived.Test.YtpanfhfcpniodaaGreatDoorTWa
namespace Go.Proofs.YtpanfhfcpniodaaGreatDoor
theorem gk11 : gRun 11 = true := by kernel_rfl
theorem gk10 : gRun 10 = true := by kernel_rfl
theorem gk9 : gRun 9 = true := by kernel_rfl
theorem gk8 : gRun 8 = true := by kernel_rfl
theorem gk7 : gRun 7 = true := by kernel_rfl
theorem gk6 : gRun 6 = true := by kernel_rfl
end Go.Proofs.YtpanfhfcpniodaaGreatDoor
