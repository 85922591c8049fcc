/- A part of the proof: an interpreter of the program, shown right once, and the laws that it computes. -/
import Derived.Test.YtallkpebijgghaaDoorEng35
import Derived.KernelRfl
import Derived.Test.YtallkpebijgghaaDoorProg
namespace Go.Proofs.YtallkpebijgghaaDoor
open Go.Eng
/-- Whether the i-th number is within its bounds, where p is the first that is not (4: all are). -/
def upTo (i p : Nat) : Option IV := match Nat.blt i p with
  | true => some (.bool true)
  | false => match Nat.beq i p with
    | true => some (.bool false)
    | false => none
def cfgI : IV := .agg [.sym 500, .sym 501, .sym 502, .sym 503, .sym 504, .sym 505, .sym 506, .sym 507, .sym 508, .sym 509, .sym 1, .sym 2, .sym 3, .sym 4]
/-- What ConfigChecks asks. -/
def rowsQ (p k : Nat) (f : Nat) (args : List IV) : Option IV :=
  match f, args with
  | 5, [] => some (.bool true)
  | 11, [.sym 0, .int .i64 (.ofNat 8)] => some (.int .i64 (.ofNat k))
  | 11, [.sym 1, .int .i64 (.ofNat 500)] => some (.sym 300)
  | 11, [.sym 2, .int .i64 (.ofNat 10)] => some (.sym 301)
  | 11, [.sym 3, .int .i64 (.ofNat 21)] => some (.sym 5)
  | 11, [.sym 4, .int .i64 (.ofNat 50)] => some (.sym 303)
  | 13, [.sym 1, .int .i64 (.ofNat 1), .int .i64 (.ofNat 500)] => upTo 0 p
  | 13, [.sym 2, .int .i64 (.ofNat 1), .int .i64 (.ofNat 10)] => upTo 1 p
  | 13, [.sym 3, .int .i64 (.ofNat 0), .int .i64 (.ofNat 20)] => upTo 2 p
  | 13, [.sym 4, .int .i64 (.ofNat 1), .int .i64 (.ofNat 50)] => upTo 3 p
  | 13, [.sym 400, .int .i64 (.ofNat 1), .int .i64 (.ofNat 500)] => some (.bool true)
  | 13, [.sym 401, .int .i64 (.ofNat 1), .int .i64 (.ofNat 10)] => some (.bool true)
  | 13, [.sym 5, .int .i64 (.ofNat 0), .int .i64 (.ofNat 20)] => some (.bool true)
  | 13, [.sym 403, .int .i64 (.ofNat 1), .int .i64 (.ofNat 50)] => some (.bool true)
  | 7, [.agg [.sym 500, .sym 501, .sym 502, .sym 503, .sym 504, .sym 505, .sym 506, .sym 507, .sym 508, .sym 509, .sym 1, .sym 2, .sym 3, .sym 4]] => some (.int .i64 (.ofNat (match Nat.beq p 4 with | true => 0 | false => 1)))
  | _, _ => none
end Go.Proofs.YtallkpebijgghaaDoor
