/- A part of the proof: an interpreter of the program, shown right once, and the laws that it computes. -/
import Derived.Test.YtjecgapnlnmloaaDoorPRenderx2
import Derived.Lib.ItoaLen
import Derived.Lib.DecodeNEq
namespace Go.Proofs.YtjecgapnlnmloaaDoor.PRender
open Go.RowKit Go.Proofs.YtjecgapnlnmloaaDoorW.PrintWords Go.Proofs.YtjecgapnlnmloaaDoorW.PrintLast Go.Proofs.YtjecgapnlnmloaaDoorW.PrintMore
set_option linter.unusedVariables false
theorem bat_append (a b : List UInt8) : (⟨a.toArray⟩ : ByteArray) ++ ⟨b.toArray⟩ = ⟨(a ++ b).toArray⟩ := by
  apply ByteArray.ext
  simp
theorem strOf_digit (n : Nat) (h : n < 10) : strOfNums [wrap64 (48 + (n : Int)) % 256] = ⟨#[UInt8.ofNat (48 + n)]⟩ := by
  have : wrap64 (48 + (n : Int)) % 256 = ((48 + n : Nat) : Int) := by unfold wrap64; omega
  rw [this]
  show (⟨#[UInt8.ofNat ((48 + n : Nat) : Int).toNat]⟩ : ByteArray) = _
  rw [Int.toNat_natCast]
theorem digits_f : ∀ (k n : Nat), n < 1000000 → n < k → correctorref14_Digits.f k (n : Int) = some ⟨(Lib.decDigits n).toArray⟩
  | 0, n, _, h => absurd h (by omega)
  | k + 1, n, hn, h => by
    simp only [correctorref14_Digits.f]
    rw [if_neg (by omega)]
    by_cases h10 : n < 10
    · rw [if_neg (by omega), Lib.decDigits_one h10, strOf_digit n h10]
    · rw [if_pos (by omega)]
      have e1 : wrap64 (Int.tdiv (n : Int) 10) = ((n / 10 : Nat) : Int) := by
        rw [Int.tdiv_eq_ediv_of_nonneg (by omega)]
        unfold wrap64
        omega
      have e2 : Int.tmod (n : Int) 10 = ((n % 10 : Nat) : Int) := by
        rw [Int.tmod_eq_emod_of_nonneg (by omega)]
        omega
      rw [e1, e2, digits_f k (n / 10) (by omega) (by omega), Option.bind_some, digits_f k (n % 10) (by omega) (by omega), Option.bind_some]
      have h1 : (Lib.decDigits (n / 10)).length ≤ 20 := by rw [Lib.decDigits_length]; exact Lib.nDigits_le20 _ (by omega)
      have h2 : (Lib.decDigits (n % 10)).length ≤ 20 := by rw [Lib.decDigits_length]; exact Lib.nDigits_le20 _ (by omega)
      rw [if_pos (by simp [ByteArray.size]; omega), bat_append]
      congr 3
      conv => rhs; rw [Lib.decDigits]
      rw [dif_neg h10, Lib.decDigits_one (by omega : n % 10 < 10)]
end Go.Proofs.YtjecgapnlnmloaaDoor.PRender
