/- A part of the proof: an interpreter of the program, shown right once, and the laws that it computes. -/
import Derived.Test.YtallkpebijgghaaDoorEng35
import Derived.KernelRfl
import Derived.Test.YtallkpebijgghaaDoorProg
namespace Go.Proofs.YtallkpebijgghaaDoor
open Go.Eng
def rowsC (n k : Nat) (f : Nat) (args : List IV) : Option IV := match Nat.beq f 5 with
  | true => match args with
    | [] => some (.bool true)
    | _ => none
  | false => match Nat.beq f 11 with
    | true => match args with
      | [.sym 0, .int .i64 (.ofNat m)] => match Nat.beq m n with
        | true => some (.int .i64 (.ofNat k))
        | false => none
      | _ => none
    | false => none
end Go.Proofs.YtallkpebijgghaaDoor
