/- A part of the proof: an interpreter of the program, shown right once, and the laws that it computes. -/
import Derived.Test.YtoaeeiocgmiojaaGreatEng35
import Derived.KernelRfl
import Derived.Below
import Derived.Test.YtoaeeiocgmiojaaGreatProg
namespace Go.Proofs.YtoaeeiocgmiojaaGreat
open Go.RowKit Go.Eng
theorem follows : Tryz.prog.follows .mixedOrders = true := by kernel_rfl
theorem known12k : isTrue ((run Tryz.prog noExt 10000).f 11 [] s₀ .ok) = true := by kernel_rfl
theorem known12 (w : World) : Calls Tryz.prog 11 #[] w fun e w' => e = .returned (.bool true) ∧ Below w.heap.size w w' :=
  law_of_run (γ := fun _ => .int .i64 0) (X := noExt) (m := 10000) (args := []) (args' := []) follows noExt_ok known12k .nil w
end Go.Proofs.YtoaeeiocgmiojaaGreat
