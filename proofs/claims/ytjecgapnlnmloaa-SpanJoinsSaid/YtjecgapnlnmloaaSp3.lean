/- A part of the proof: an interpreter of the program, shown right once, and the laws that it computes. -/
import Derived.Test.YtjecgapnlnmloaaSp2
namespace Go.Proofs.Ytjecgapnlnmloaa
open Go.RowKit Go.Eng
set_option linter.unusedVariables false
/-- What SpanJoins asks, where the first span lies in the second one. -/
def rowsJ (f : Nat) (args : List IV) : Option IV :=
  match f, args with
  | 10, [] => some (.bool true)
  | 11, [.agg [.sym 0, .sym 1]] => some (spI 6 7)
  | 11, [.agg [.sym 2, .sym 3]] => some (spI 8 9)
  | 11, [.agg [.sym 4, .sym 5]] => some (spI 10 11)
  | 13, [.agg [.sym 6, .sym 7], .agg [.sym 8, .sym 9]] => some (.bool true)
  | 16, [.agg [.sym 6, .sym 7], .agg [.sym 8, .sym 9]] => some (spI 8 9)
  | 16, [.agg [.sym 8, .sym 9], .agg [.sym 6, .sym 7]] => some (spI 8 9)
  | 16, [.agg [.sym 8, .sym 9], .agg [.sym 10, .sym 11]] => some (spI 16 17)
  | 16, [.agg [.sym 6, .sym 7], .agg [.sym 16, .sym 17]] => some (spI 16 17)
  | 16, [.agg [.sym 6, .sym 7], .agg [.sym 6, .sym 7]] => some (spI 6 7)
  | _, _ => none
/-- .. where it does not. -/
def rowsK (f : Nat) (args : List IV) : Option IV :=
  match f, args with
  | 10, [] => some (.bool true)
  | 11, [.agg [.sym 0, .sym 1]] => some (spI 6 7)
  | 11, [.agg [.sym 2, .sym 3]] => some (spI 8 9)
  | 11, [.agg [.sym 4, .sym 5]] => some (spI 10 11)
  | 13, [.agg [.sym 6, .sym 7], .agg [.sym 8, .sym 9]] => some (.bool false)
  | 16, [.agg [.sym 6, .sym 7], .agg [.sym 8, .sym 9]] => some (spI 12 13)
  | 16, [.agg [.sym 8, .sym 9], .agg [.sym 6, .sym 7]] => some (spI 12 13)
  | 16, [.agg [.sym 12, .sym 13], .agg [.sym 10, .sym 11]] => some (spI 14 15)
  | 16, [.agg [.sym 8, .sym 9], .agg [.sym 10, .sym 11]] => some (spI 16 17)
  | 16, [.agg [.sym 6, .sym 7], .agg [.sym 16, .sym 17]] => some (spI 14 15)
  | 16, [.agg [.sym 6, .sym 7], .agg [.sym 6, .sym 7]] => some (spI 6 7)
  | _, _ => none
theorem joins_t : isTrue ((run Try.prog (memo rowsJ) 10000).f 5 [spI 0 1, spI 2 3, spI 4 5] s₀ .ok) = true := by kernel_rfl
theorem joins_f : isTrue ((run Try.prog (memo rowsK) 10000).f 5 [spI 0 1, spI 2 3, spI 4 5] s₀ .ok) = true := by kernel_rfl
theorem joins_walk (a b c d e f : Int) (w : World) : Calls Try.prog 5 #[sp a b, sp c d, sp e f] w fun e w' => e = .returned (.bool true) ∧ Below w.heap.size w w' := by
  obtain ⟨x1, x2, hx1, hx2, hx3, hx4, hx⟩ := good11 a b
  obtain ⟨y1, y2, hy1, hy2, hy3, hy4, hy⟩ := good11 c d
  obtain ⟨z1, z2, hz1, hz2, hz3, hz4, hz⟩ := good11 e f
  have go := fun X hX h => law_of_run (P := Try.prog) (γ := gam [a, b, c, d, e, f, x1, x2, y1, y2, z1, z2, min x1 y1, max x2 y2, min (min x1 y1) z1, max (max x2 y2) z2, min y1 z1, max y2 z2]) (X := X) (f := 5) (m := 10000) (args := [spI 0 1, spI 2 3, spI 4 5]) (args' := [sp a b, sp c d, sp e f]) follows hX h
    (.cons _ _ _ _ (sp_rel _ 0 1) (.cons _ _ _ _ (sp_rel _ 2 3) (.cons _ _ _ _ (sp_rel _ 4 5) .nil))) w
  by_cases hin : y1 ≤ x1 ∧ x2 ≤ y2
  · refine go (memo rowsJ) (memo_ok fun f args v h ρ args' hv w => ?_) joins_t
    unfold rowsJ at h
    split at h <;> (try (cases h; done)) <;> cases h
    · cases hv; exact known_row w
    · rw [one_inv hv]; simp only [List.getD_cons_zero, List.getD_cons_succ]; exact sp_row rfl rfl (w2_below _ _ _ _ _) (hx w)
    · rw [one_inv hv]; simp only [List.getD_cons_zero, List.getD_cons_succ]; exact sp_row rfl rfl (w2_below _ _ _ _ _) (hy w)
    · rw [one_inv hv]; simp only [List.getD_cons_zero, List.getD_cons_succ]; exact sp_row rfl rfl (w2_below _ _ _ _ _) (hz w)
    · rw [two_inv hv]; simp only [List.getD_cons_zero, List.getD_cons_succ]; exact bool_row (by simp only [Bool.and_eq_true, decide_eq_true_eq]; omega) (w2_below _ _ _ _ _) (in13 _ _ _ _ w)
    · rw [two_inv hv]; simp only [List.getD_cons_zero, List.getD_cons_succ]; exact sp_row (by simp only [List.getD_cons_zero, List.getD_cons_succ]; omega) (by simp only [List.getD_cons_zero, List.getD_cons_succ]; omega) (w3_below _ _ _ _ _) (join16 _ _ _ _ w)
    · rw [two_inv hv]; simp only [List.getD_cons_zero, List.getD_cons_succ]; exact sp_row (by simp only [List.getD_cons_zero, List.getD_cons_succ]; omega) (by simp only [List.getD_cons_zero, List.getD_cons_succ]; omega) (w3_below _ _ _ _ _) (join16 _ _ _ _ w)
    · rw [two_inv hv]; simp only [List.getD_cons_zero, List.getD_cons_succ]; exact sp_row rfl rfl (w3_below _ _ _ _ _) (join16 _ _ _ _ w)
    · rw [two_inv hv]; simp only [List.getD_cons_zero, List.getD_cons_succ]; exact sp_row (by simp only [List.getD_cons_zero, List.getD_cons_succ]; omega) (by simp only [List.getD_cons_zero, List.getD_cons_succ]; omega) (w3_below _ _ _ _ _) (join16 _ _ _ _ w)
    · rw [two_inv hv]; simp only [List.getD_cons_zero, List.getD_cons_succ]; exact sp_row (by simp only [List.getD_cons_zero, List.getD_cons_succ]; omega) (by simp only [List.getD_cons_zero, List.getD_cons_succ]; omega) (w3_below _ _ _ _ _) (join16 _ _ _ _ w)
  · refine go (memo rowsK) (memo_ok fun f args v h ρ args' hv w => ?_) joins_f
    unfold rowsK at h
    split at h <;> (try (cases h; done)) <;> cases h
    · cases hv; exact known_row w
    · rw [one_inv hv]; simp only [List.getD_cons_zero, List.getD_cons_succ]; exact sp_row rfl rfl (w2_below _ _ _ _ _) (hx w)
    · rw [one_inv hv]; simp only [List.getD_cons_zero, List.getD_cons_succ]; exact sp_row rfl rfl (w2_below _ _ _ _ _) (hy w)
    · rw [one_inv hv]; simp only [List.getD_cons_zero, List.getD_cons_succ]; exact sp_row rfl rfl (w2_below _ _ _ _ _) (hz w)
    · rw [two_inv hv]; simp only [List.getD_cons_zero, List.getD_cons_succ]; exact bool_row (by rw [Bool.and_eq_false_iff]; simp only [decide_eq_false_iff_not]; omega) (w2_below _ _ _ _ _) (in13 _ _ _ _ w)
    · rw [two_inv hv]; simp only [List.getD_cons_zero, List.getD_cons_succ]; exact sp_row rfl rfl (w3_below _ _ _ _ _) (join16 _ _ _ _ w)
    · rw [two_inv hv]; simp only [List.getD_cons_zero, List.getD_cons_succ]; exact sp_row (by simp only [List.getD_cons_zero, List.getD_cons_succ]; omega) (by simp only [List.getD_cons_zero, List.getD_cons_succ]; omega) (w3_below _ _ _ _ _) (join16 _ _ _ _ w)
    · rw [two_inv hv]; simp only [List.getD_cons_zero, List.getD_cons_succ]; exact sp_row rfl rfl (w3_below _ _ _ _ _) (join16 _ _ _ _ w)
    · rw [two_inv hv]; simp only [List.getD_cons_zero, List.getD_cons_succ]; exact sp_row rfl rfl (w3_below _ _ _ _ _) (join16 _ _ _ _ w)
    · rw [two_inv hv]; simp only [List.getD_cons_zero, List.getD_cons_succ]; exact sp_row (by simp only [List.getD_cons_zero, List.getD_cons_succ]; omega) (by simp only [List.getD_cons_zero, List.getD_cons_succ]; omega) (w3_below _ _ _ _ _) (join16 _ _ _ _ w)
    · rw [two_inv hv]; simp only [List.getD_cons_zero, List.getD_cons_succ]; exact sp_row (by simp only [List.getD_cons_zero, List.getD_cons_succ]; omega) (by simp only [List.getD_cons_zero, List.getD_cons_succ]; omega) (w3_below _ _ _ _ _) (join16 _ _ _ _ w)
end Go.Proofs.Ytjecgapnlnmloaa
