/- A part of the proof: an interpreter of the program, shown right once, and the laws that it computes. -/
import Derived.Test.YtoaeeiocgmiojaaGreatGRr
namespace Go.Proofs.YtoaeeiocgmiojaaGreat
open Go.Eng
/-- The law, of a name of letters, at each of the five texts. -/
noncomputable def all5 (l : List Nat) : Bool := allB (fun k => isTrue ((run Tryz.prog (extG 5 k) 10000).f 9 [.sstr l, .sym 0] s₀ .ok)) [0,1,2,3,4]
end Go.Proofs.YtoaeeiocgmiojaaGreat
