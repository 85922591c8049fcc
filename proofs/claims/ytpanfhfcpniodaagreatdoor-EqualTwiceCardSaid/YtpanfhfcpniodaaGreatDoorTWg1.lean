/- A part of the proof: an interpreter of the program, shown right once, and the laws that it computes. -/
import Derived.Test.YtpanfhfcpniodaaGreatDoorTWa
namespace Go.Proofs.YtpanfhfcpniodaaGreatDoor
theorem gk15 : gRun 15 = true := by kernel_rfl
theorem gk14 : gRun 14 = true := by kernel_rfl
theorem gk1 : gRun 1 = true := by kernel_rfl
theorem gk2 : gRun 2 = true := by kernel_rfl
end Go.Proofs.YtpanfhfcpniodaaGreatDoor
