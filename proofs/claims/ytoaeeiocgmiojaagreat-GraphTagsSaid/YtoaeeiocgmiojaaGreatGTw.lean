/- A part of the proof: an interpreter of the program, shown right once, and the laws that it computes. -/
import Derived.Test.YtoaeeiocgmiojaaGreatGTbase
namespace Go.Proofs.YtoaeeiocgmiojaaGreat
open Go.ChangeShapes Go.WideShapes Go.ChangeAt Go.RowKit Go.Eng
set_option linter.unusedVariables false
/-- A byte of a text. -/
def byt (s : ByteArray) (i : Nat) : Nat := (s.data.toList.getD i 0).toNat
theorem idx9 (s : ByteArray) (i : Nat) (h : i < s.size) (w : World) : (Instr.index 9 (.string s) (.int .i64 (i : Int))).run Tryz.prog w = .ok (.int .u8 (byt s i : Int)) w := by
  rw [run_index_string w 9 s .i64 i (by kernel_rfl), dif_pos ⟨by omega, by omega⟩]
  have : (s[(i : Int).toNat]'(by omega)).toNat = byt s i := by
    unfold byt
    have hl : i < s.data.toList.length := by simpa using h
    rw [List.getD_eq_getElem?_getD, List.getElem?_eq_getElem hl]
    rfl
  rw [this]
theorem long9 (s : ByteArray) (a : Int) (h : 20 < s.size) (w : World) : Calls Tryz.prog 9 #[.string s, .int .i64 a] w fun e w' => e = .returned (.bool true) ∧ Below w.heap.size w w' := by
  have hz : (20 : Int) < s.size := by omega
  go_enter Tryz.func9, Tryz.ntmps9
  go_wp2_with (first | (go_at_call 15; (with_reducible refine (known16 (fun _ => .int .i64 0) _).mono ?_); rintro e w1 ⟨rfl, hB1⟩) | fail)
  go_ret
  exact ⟨rfl, hB1⟩
theorem bad9 (s : ByteArray) (a : Int) (h : s.size ≤ 20) (j : Nat) (hj : j < s.size) (hlet : ∀ i, i < j → 97 ≤ byt s i ∧ byt s i ≤ 122) (hbad : byt s j < 97 ∨ 122 < byt s j) (w : World) :
    Calls Tryz.prog 9 #[.string s, .int .i64 a] w fun e w' => e = .returned (.bool true) ∧ Below w.heap.size w w' := by
  have hz : ¬ (20 : Int) < s.size := by omega
  go_enter Tryz.func9, Tryz.ntmps9
  go_wp2_with (first | (go_at_call 15; (with_reducible refine (known16 (fun _ => .int .i64 0) _).mono ?_); rintro e w1 ⟨rfl, hB1⟩) | fail)
  go_loop [5] (fun v5 => ∃ i : Nat, v5 = .int .i64 i ∧ i ≤ j) (fun v5 => s.size - (intOf v5).toNat)
  case atStart => exact ⟨0, rfl, Nat.zero_le _⟩
  case round =>
    obtain ⟨i, rfl, hi⟩ := hrel
    have hlt : (i : Int) < s.size := by omega
    have hix := idx9 s i (by omega)
    by_cases he : i = j
    · rw [← he] at hbad
      clear hlet he
      generalize byt s i = B at hix hbad
      rcases hbad with hb | hb
      · have hb' : (B : Int) < 97 := by omega
        go_wp2
        go_ret
        exact ⟨rfl, hB1⟩
      · have hb1 : ¬ (B : Int) < 97 := by omega
        have hb2 : (122 : Int) < B := by omega
        go_wp2
        go_ret
        exact ⟨rfl, hB1⟩
    · have hl := hlet i (by omega)
      have hi2 : i + 1 ≤ j := by omega
      clear he
      generalize byt s i = B at hix hl
      have hb1 : ¬ (B : Int) < 97 := by omega
      have hb2 : ¬ (122 : Int) < B := by omega
      have hw : IntKind.i64.wrap ((i : Int) + 1) = ((i + 1 : Nat) : Int) := by
        unfold IntKind.wrap
        simp [IntKind.signed, IntKind.bits]
        omega
      go_wp2
      go_round
      case rel => exact ⟨i + 1, rfl, hi2⟩
      case measure => simp [intOf]; omega
#print axioms bad9
end Go.Proofs.YtoaeeiocgmiojaaGreat
