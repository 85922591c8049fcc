/- A part of the proof: an interpreter of the program, shown right once, and the laws that it computes. -/
import Derived.Test.YtoaeeiocgmiojaaGreatEngLast
import Derived.KernelRfl
import Derived.Test.YtoaeeiocgmiojaaGreatProg
namespace Go.Proofs.YtoaeeiocgmiojaaGreat
open Go.Eng
/-- What is known beside the text: 'known' (fk) is true, and 'within' (fw) at the law's argument is k. -/
def rowsG (fk fw n k : Nat) (f : Nat) (args : List IV) : Option IV := match Nat.beq f fk with
  | true => match args with
    | [] => some (.bool true)
    | _ => none
  | false => match Nat.beq f fw with
    | true => match args with
      | [.sym 0, .int .i64 (.ofNat m)] => match Nat.beq m n with
        | true => some (.int .i64 (.ofNat k))
        | false => none
      | _ => none
    | false => none
noncomputable def extG (n k : Nat) : Ext := orX (lastX 106) (memo (rowsG 15 16 n k))
end Go.Proofs.YtoaeeiocgmiojaaGreat
