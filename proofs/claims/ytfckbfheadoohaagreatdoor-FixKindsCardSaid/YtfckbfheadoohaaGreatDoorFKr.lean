/- A part of the proof: an interpreter of the program, shown right once, and the laws that it computes. -/
import Derived.Test.YtfckbfheadoohaaGreatDoorEngLast
import Derived.Test.YtfckbfheadoohaaGreatDoorEngD
import Derived.KernelRfl
import Derived.Test.YtfckbfheadoohaaGreatDoorProg
set_option linter.constructorNameAsVariable false
namespace Go.Proofs.YtfckbfheadoohaaGreatDoor
open Go.Eng
/-- What is known beside the text: 'known' is true, and 'within' at the law's argument is k. -/
def rowsK (n k : Nat) (f : Nat) (args : List IV) : Option IV := match Nat.beq f 4 with
  | true => match args with
    | [] => some (.bool true)
    | _ => none
  | false => match Nat.beq f 5 with
    | true => match args with
      | [.sym 0, .int .i64 (.ofNat m)] => match Nat.beq m n with
        | true => some (.int .i64 (.ofNat k))
        | false => none
      | _ => none
    | false => none
/-- A composer's 'last', and a fixer's 'round', which puts off a call. -/
noncomputable def XX : Ext := orX (deferX Tryz.prog 9 10000 (lastX 165)) (lastX 165)
end Go.Proofs.YtfckbfheadoohaaGreatDoor
