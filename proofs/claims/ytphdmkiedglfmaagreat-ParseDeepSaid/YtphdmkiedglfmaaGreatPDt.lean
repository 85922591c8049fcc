/- A part of the proof: an interpreter of the program, shown right once, and the laws that it computes. -/
import Derived.Test.YtphdmkiedglfmaaGreatPDc0
import Derived.Test.YtphdmkiedglfmaaGreatPDc1
import Derived.Test.YtphdmkiedglfmaaGreatPDc2
import Derived.Test.YtphdmkiedglfmaaGreatPDc3
import Derived.Test.YtphdmkiedglfmaaGreatPDc4
import Derived.Test.YtphdmkiedglfmaaGreatEngLast
set_option linter.constructorNameAsVariable false
set_option linter.unusedVariables false
namespace Go.Proofs.YtphdmkiedglfmaaGreat
open Go.Eng
def chain : List PE := [ch0, ch1, ch2, ch3, ch4, ch5, ch6, ch7, ch8, ch9, ch10, ch11, ch12, ch13, ch14, ch15, ch16, ch17, ch18, ch19, ch20, ch21, ch22, ch23, ch24, ch25, ch26, ch27, ch28, ch29, ch30, ch31, ch32, ch33, ch34, ch35, ch36, ch37, ch38, ch39, ch40, ch41, ch42, ch43, ch44, ch45, ch46, ch47, ch48, ch49, ch50, ch51, ch52, ch53, ch54, ch55, ch56, ch57, ch58, ch59, ch60]
def nthP : List PE → Nat → Option PE
  | [], _ => none
  | e :: _, 0 => some e
  | _ :: l, i + 1 => nthP l i
/- texts of n dashes, their tokens, rows, entries -/
def u8 (n : Nat) : IV := .int .u8 (.ofNat n)
def txtL : Nat → List IV
  | 0 => [u8 97]
  | n + 1 => u8 45 :: u8 32 :: txtL n
def tokL : Nat → Nat → List IV
  | 0, i => [z 15, z i, z (i + 1)]
  | n + 1, i => z 5 :: z i :: z (i + 1) :: z 3 :: z (i + 1) :: z (i + 2) :: tokL n (i + 2)
def entL : Nat → Nat → List IV
  | 0, i => []
  | n + 1, i => tt :: z i :: z i :: z (i + 1) :: entL n (i + 2)
noncomputable def txtP (n : Nat) : PT IV := wrC (txtL n) .e 0
noncomputable def tokP (n : Nat) : PT IV := wrC (tokL n 0) .e 0
noncomputable def entP (n : Nat) : PT IV := wrC (entL n 0) .e 0
noncomputable def rowP (n : Nat) : PT IV := wrC [z 5, z 0, z (2 * n + 1), z 0] .e 0
noncomputable def rTxt (n : Nat) : PRow := ⟨fun _ _ => txtP n, 2 * n + 1, 5, 0, 1⟩
noncomputable def rTok (n : Nat) : PRow := ⟨fun _ _ => tokP n, 3 * (2 * n + 1), 52, 0, 0⟩
noncomputable def rRow (n : Nat) : PRow := ⟨fun _ _ => rowP n, 4, 54, 0, 0⟩
noncomputable def rEnt (n : Nat) : PRow := ⟨fun _ _ => entP n, 4 * n, 89, 0, 0⟩
noncomputable def eTok (n : Nat) : PE := ⟨7, [.sl 0 0 (2 * n + 1) (2 * n + 1) false], [rTxt n], [.same], .sl 1 0 (2 * n + 1) (2 * n + 1) false, [rTok n], [4 * n + 8]⟩
noncomputable def eRow (n : Nat) : PE := ⟨8, [.sl 0 0 (2 * n + 1) (2 * n + 1) false, .sl 1 0 (2 * n + 1) (2 * n + 1) false], [rTxt n, rTok n], [.same, .same], .sl 2 0 1 1 false, [rRow n], [2 * n + 16]⟩
noncomputable def eEnt (n : Nat) : PE := ⟨26, [.sl 0 0 (2 * n + 1) (2 * n + 1) false, .sl 1 0 (2 * n + 1) (2 * n + 1) false, .agg [z 5, z 0, z (2 * n + 1), z 0]], [rTxt n, rTok n], [.same, .same], .tup [.sl 2 0 n n false, z (2 * n - 1)], [rEnt n], [5 * n + 10]⟩
noncomputable def eBad (n : Nat) : PE := ⟨29, [.sl 0 0 (2 * n + 1) (2 * n + 1) false], [rTxt n], [.same], .nilsl, [], []⟩
noncomputable def sel (n : Nat) (f : Nat) (args : List IV) : Option PE := match Nat.beq f 79 with
  | true => match args with
    | [_, .int .i64 (.ofNat u), _, _, _] => nthP chain u
    | _ => none
  | false => match Nat.beq f 7 with
    | true => some (eTok n)
    | false => match Nat.beq f 8 with
      | true => some (eRow n)
      | false => match Nat.beq f 26 with
        | true => some (eEnt n)
        | false => match Nat.beq f 29 with
          | true => some (eBad n)
          | false => none
def tauD (T : Nat) (k : Nat) : Option IV := match Nat.ble 11000000 k && Nat.blt k 12000000 && Nat.beq (rngHi k) 61 && Nat.ble (rngLo k) T with
  | true => some (z T)
  | false => none
/-- What is known beside the text: 'known' is true; 'within' at the law's arguments: 100 + k stands for a number whose rest is k, so does 200 + k; 400 for one whose rest lies between n - 1 and 29. -/
def rowsU (n : Nat) (f : Nat) (args : List IV) : Option IV := match Nat.beq f 4 with
  | true => match args with
    | [] => some (.bool true)
    | _ => none
  | false => match Nat.beq f 5 with
    | true => match args with
      | [.sym j, .int .i64 (.ofNat 30)] => match Nat.blt j 130 with
        | true => some (z (Nat.sub j 100))
        | false => match Nat.blt j 230 with
          | true => some (z (Nat.sub j 200))
          | false => match Nat.beq j 400 with
            | true => some (.sym (10000000 + (n - 1) * 1000 + 29))
            | false => none
      | _ => none
    | false => none
noncomputable def XN (n : Nat) : Ext := orX (memo (rowsU n)) (memoP (tauD (2 * n + 1)) 2 (sel n))
/-- The law at n dashes; the depth's number. -/
noncomputable def one (n j : Nat) : Bool := isTrue ((run Tryz.prog (XN n) 10000).f 3 [.sym (199 + n), .sym j] s₀ .ok)
/-- Depths from a + 1 on, so many. -/
noncomputable def ones (n a : Nat) : Nat → Bool := fun c => Nat.rec (motive := fun _ => Bool) true (fun i ih => match one n (100 + a + i) with | true => ih | false => false) c
end Go.Proofs.YtphdmkiedglfmaaGreat
