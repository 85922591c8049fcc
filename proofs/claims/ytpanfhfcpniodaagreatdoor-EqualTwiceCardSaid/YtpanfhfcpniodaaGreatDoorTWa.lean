/- A part of the proof: an interpreter of the program, shown right once, and the laws that it computes. -/
import Derived.Test.YtpanfhfcpniodaaGreatDoorEngG
import Derived.Test.YtpanfhfcpniodaaGreatDoorProg
import Derived.KernelRfl
set_option linter.unusedVariables false
noncomputable section
namespace Go.Proofs.YtpanfhfcpniodaaGreatDoor
open Go.Eng
/-- The text of n rows, a letter in each. -/
def txtF : Nat → List Nat
  | 0 => []
  | i + 1 => txtF i ++ [107, 756 + i, 58, 32, 48 + i % 10, 10]
/-- Its values, but for the last one. -/
def valF : Nat → List IV
  | 0 => []
  | i + 1 => valF i ++ [.int .i64 5, .sstr [107, 756 + i], .str [], .nilsl, .int .i64 3, .str [48 + i % 10], .str [], .nilsl]
def kidF : Nat → List IV
  | 0 => []
  | i + 1 => kidF i ++ [.int .i64 (Int.ofNat (2 * i)), .int .i64 (Int.ofNat (2 * i + 1))]
def atF : Nat → List IV
  | 0 => []
  | i + 1 => atF i ++ [.int .i64 (-1), .int .i64 (Int.ofNat (2 * i)), .int .i64 (Int.ofNat (2 * i + 1))]
def kTag : Nat → Nat
  | 1 => 0
  | _ => 2
/-- What 'compose' hands back: at_ are the places (the at row, the keys, the values, the document). -/
def packG (n : Nat) (at_ : List Nat) : GRow where
  f := 7
  args := [.sl 0 0 (6 * n) (6 * n) false]
  ins := [⟨bytesS (txtF n), 5, 0, 1⟩]
  outs := [.same]
  v := .agg [.sl 3 0 (2 * n + 1) (2 * n + 1) false, .sl 4 0 1 1 false, .sl 1 0 (3 * n + 3) (3 * n + 3) false]
  rows := [⟨[.int .i64 (-1), .int .i64 (Int.ofNat (2 * n)), .int .i64 (Int.ofNat (2 * n))] ++ atF n, 3, 0, 2⟩, ⟨kidF n, 3, 0, kTag n⟩,
    ⟨valF n ++ [.int .i64 7, .str [], .str [], .sl 2 0 (2 * n) (2 * n) false], 62, 0, 2⟩, ⟨[.int .i64 (Int.ofNat (2 * n))], 3, 0, 0⟩]
  at_ := at_
/-- Where the new rows lay. -/
def placesG : Nat → List Nat
  | 1 => [162, 197, 200, 204]
  | 2 => [316, 380, 383, 387]
  | 3 => [509, 602, 605, 609]
  | 4 => [741, 863, 866, 870]
  | 5 => [1012, 1163, 1166, 1170]
  | 6 => [1322, 1502, 1505, 1509]
  | 7 => [1671, 1880, 1883, 1887]
  | 8 => [2059, 2297, 2300, 2304]
  | 9 => [2486, 2753, 2756, 2760]
  | 10 => [2952, 3248, 3251, 3255]
  | 11 => [3457, 3782, 3785, 3789]
  | 12 => [4001, 4355, 4358, 4362]
  | 13 => [4584, 4967, 4970, 4974]
  | 14 => [5206, 5618, 5621, 5625]
  | 15 => [5867, 6308, 6311, 6315]
  | _ => []
def entG (n : Nat) : GRow := packG n (placesG n)
def gRun (n : Nat) : Bool := packOkG (entG n) ((run Tryz.prog noExt 10000).f 7 (entG n).args (subSt (entG n)) .ok)
end Go.Proofs.YtpanfhfcpniodaaGreatDoor
