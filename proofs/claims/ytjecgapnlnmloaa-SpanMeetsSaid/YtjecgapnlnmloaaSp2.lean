/- A part of the proof: an interpreter of the program, shown right once, and the laws that it computes. -/
import Derived.Test.YtjecgapnlnmloaaSp1
import Derived.Test.YtjecgapnlnmloaaEng35
namespace Go.Proofs.Ytjecgapnlnmloaa
open Go.RowKit Go.Eng
set_option linter.unusedVariables false
theorem follows : Try.prog.follows .mixedOrders = true := by kernel_rfl
theorem known10 (w : World) : Calls Try.prog 10 #[] w fun e w' => e = .returned (.bool true) ∧ Below w.heap.size w w' :=
  law_of_run (γ := fun _ => .int .i64 0) (X := noExt) (m := 10000) (args := []) (args' := []) follows noExt_ok (by kernel_rfl) .nil w
/-- A span of two symbols. -/
def spI (a b : Nat) : IV := .agg [.sym a, .sym b]
def gam (l : List Int) : Gam := fun k => .int .i64 (l.getD k 0)
theorem symR {ρ : Rho} (l : List Int) (k : Nat) : VR ρ (gam l) (.sym k) (.int .i64 (l.getD k 0)) := .sym (γ := gam l) k rfl (fun _ => ⟨_, rfl⟩)
theorem sp_rel {ρ : Rho} (l : List Int) (a b : Nat) : VR ρ (gam l) (spI a b) (sp (l.getD a 0) (l.getD b 0)) := .agg _ #[.int .i64 (l.getD a 0), .int .i64 (l.getD b 0)] (.cons _ _ _ _ (symR l a) (.cons _ _ _ _ (symR l b) .nil))
theorem sp_inv {ρ : Rho} {l : List Int} {a b : Nat} {v : Value} (h : VR ρ (gam l) (.agg [.sym a, .sym b]) v) : v = sp (l.getD a 0) (l.getD b 0) := by
  cases h with
  | agg _ c hc =>
    obtain ⟨c⟩ := c
    cases hc with
    | cons _ x _ _ hx hc =>
    cases hc with
    | cons _ y _ _ hy hc =>
    cases hc
    generalize ha : IV.sym a = qa at hx
    generalize hb : IV.sym b = qb at hy
    cases hx <;> cases ha
    cases hy <;> cases hb
    rfl
theorem one_inv {ρ : Rho} {l : List Int} {a b : Nat} {vs : List Value} (h : VRs ρ (gam l) [.agg [.sym a, .sym b]] vs) : vs = [sp (l.getD a 0) (l.getD b 0)] := by
  cases h with
  | cons _ x _ _ hx hc => cases hc; rw [sp_inv hx]
theorem two_inv {ρ : Rho} {l : List Int} {a b c d : Nat} {vs : List Value} (h : VRs ρ (gam l) [.agg [.sym a, .sym b], .agg [.sym c, .sym d]] vs) : vs = [sp (l.getD a 0) (l.getD b 0), sp (l.getD c 0) (l.getD d 0)] := by
  cases h with
  | cons _ x _ _ hx hc => cases hc with
    | cons _ y _ _ hy hc => cases hc; rw [sp_inv hx, sp_inv hy]
/-- What SpanTwo asks: its spans, whether the one lies in the other one, whether they meet, both together. -/
def rowsT (bi bm : Bool) (f : Nat) (args : List IV) : Option IV :=
  match f, args with
  | 10, [] => some (.bool true)
  | 11, [.agg [.sym 0, .sym 1]] => some (spI 4 5)
  | 11, [.agg [.sym 2, .sym 3]] => some (spI 6 7)
  | 13, [.agg [.sym 4, .sym 5], .agg [.sym 6, .sym 7]] => some (.bool bi)
  | 14, [.agg [.sym 4, .sym 5], .agg [.sym 6, .sym 7]] => some (.bool bi)
  | 13, [.agg [.sym 4, .sym 5], .agg [.sym 8, .sym 9]] => some (.bool true)
  | 13, [.agg [.sym 6, .sym 7], .agg [.sym 8, .sym 9]] => some (.bool true)
  | 12, [.agg [.sym 4, .sym 5], .agg [.sym 6, .sym 7]] => some (.bool bm)
  | 12, [.agg [.sym 6, .sym 7], .agg [.sym 4, .sym 5]] => some (.bool bm)
  | 15, [.agg [.sym 4, .sym 5], .agg [.sym 6, .sym 7]] => some (.bool bm)
  | 16, [.agg [.sym 4, .sym 5], .agg [.sym 6, .sym 7]] => some (spI 8 9)
  | 17, [.agg [.sym 4, .sym 5], .agg [.sym 6, .sym 7]] => some (spI 8 9)
  | _, _ => none
theorem two_tt : isTrue ((run Try.prog (memo (rowsT true true)) 10000).f 4 [spI 0 1, spI 2 3] s₀ .ok) = true := by kernel_rfl
theorem two_tf : isTrue ((run Try.prog (memo (rowsT true false)) 10000).f 4 [spI 0 1, spI 2 3] s₀ .ok) = true := by kernel_rfl
theorem two_ft : isTrue ((run Try.prog (memo (rowsT false true)) 10000).f 4 [spI 0 1, spI 2 3] s₀ .ok) = true := by kernel_rfl
theorem two_ff : isTrue ((run Try.prog (memo (rowsT false false)) 10000).f 4 [spI 0 1, spI 2 3] s₀ .ok) = true := by kernel_rfl
theorem w2_below (w : World) (a b c d : Int) : Below w.heap.size w (w2 w a b c d) := ((Below.refl _ w).alloc (Nat.le_refl _) _).alloc (by simp) _
theorem w3_below (w : World) (a b c d : Int) : Below w.heap.size w (w3 w a b c d) := (w2_below w a b c d).alloc (w2_below w a b c d).size _
theorem known_row {γ : Gam} {ρ : Rho} (w : World) : Calls Try.prog 10 #[] w fun e w' => ∃ v', e = .returned v' ∧ Below w.heap.size w w' ∧ VR ρ γ (.bool true) v' := by
  refine (known10 w).mono ?_
  rintro e w' ⟨rfl, hb⟩
  exact ⟨_, rfl, hb, .bool true⟩
theorem bool_row {γ : Gam} {ρ : Rho} {f : Nat} {args : Array Value} {b b' : Bool} {w w1 : World} (hb : b' = b) (hB : Below w.heap.size w w1) (h : Calls Try.prog f args w fun e w' => e = .returned (.bool b') ∧ w' = w1) :
    Calls Try.prog f args w fun e w' => ∃ v', e = .returned v' ∧ Below w.heap.size w w' ∧ VR ρ γ (.bool b) v' := by
  subst hb
  refine h.mono ?_
  rintro e w' ⟨rfl, rfl⟩
  exact ⟨_, rfl, hB, .bool _⟩
theorem sp_row {ρ : Rho} {l : List Int} {i j : Nat} {f : Nat} {args : Array Value} {x y : Int} {w w1 : World} (hx : x = l.getD i 0) (hy : y = l.getD j 0) (hB : Below w.heap.size w w1) (h : Calls Try.prog f args w fun e w' => e = .returned (sp x y) ∧ w' = w1) :
    Calls Try.prog f args w fun e w' => ∃ v', e = .returned v' ∧ Below w.heap.size w w' ∧ VR ρ (gam l) (spI i j) v' := by
  subst hx hy
  refine h.mono ?_
  rintro e w' ⟨rfl, rfl⟩
  exact ⟨_, rfl, hB, sp_rel l i j⟩
theorem two_walk (a b c d : Int) (w : World) : Calls Try.prog 4 #[sp a b, sp c d] w fun e w' => e = .returned (.bool true) ∧ Below w.heap.size w w' := by
  obtain ⟨x1, x2, hx1, hx2, hx3, hx4, hx⟩ := good11 a b
  obtain ⟨y1, y2, hy1, hy2, hy3, hy4, hy⟩ := good11 c d
  have hX : ExtOk Try.prog (gam [a, b, c, d, x1, x2, y1, y2, min x1 y1, max x2 y2]) (memo (rowsT (decide (y1 ≤ x1) && decide (x2 ≤ y2)) (decide (x1 < y2) && decide (y1 < x2)))) := by
    refine memo_ok fun f args v h ρ args' hv w => ?_
    unfold rowsT at h
    split at h <;> (try (cases h; done)) <;> cases h
    · cases hv; exact known_row w
    · rw [one_inv hv]; simp only [List.getD_cons_zero, List.getD_cons_succ]; exact sp_row rfl rfl (w2_below _ _ _ _ _) (hx w)
    · rw [one_inv hv]; simp only [List.getD_cons_zero, List.getD_cons_succ]; exact sp_row rfl rfl (w2_below _ _ _ _ _) (hy w)
    · rw [two_inv hv]; simp only [List.getD_cons_zero, List.getD_cons_succ]; exact bool_row rfl (w2_below _ _ _ _ _) (in13 _ _ _ _ w)
    · rw [two_inv hv]; simp only [List.getD_cons_zero, List.getD_cons_succ]; exact bool_row rfl (w2_below _ _ _ _ _) (in14 _ _ _ _ w)
    · rw [two_inv hv]; simp only [List.getD_cons_zero, List.getD_cons_succ]; exact bool_row (by simp only [Bool.and_eq_true, decide_eq_true_eq]; omega) (w2_below _ _ _ _ _) (in13 _ _ _ _ w)
    · rw [two_inv hv]; simp only [List.getD_cons_zero, List.getD_cons_succ]; exact bool_row (by simp only [Bool.and_eq_true, decide_eq_true_eq]; omega) (w2_below _ _ _ _ _) (in13 _ _ _ _ w)
    · rw [two_inv hv]; simp only [List.getD_cons_zero, List.getD_cons_succ]; exact bool_row rfl (w2_below _ _ _ _ _) (meet12 _ _ _ _ w)
    · rw [two_inv hv]; simp only [List.getD_cons_zero, List.getD_cons_succ]; exact bool_row (by rw [Bool.and_comm]) (w2_below _ _ _ _ _) (meet12 _ _ _ _ w)
    · rw [two_inv hv]; simp only [List.getD_cons_zero, List.getD_cons_succ]; exact bool_row rfl (w2_below _ _ _ _ _) (meet15 _ _ _ _ w)
    · rw [two_inv hv]; simp only [List.getD_cons_zero, List.getD_cons_succ]; exact sp_row rfl rfl (w3_below _ _ _ _ _) (join16 _ _ _ _ w)
    · rw [two_inv hv]; simp only [List.getD_cons_zero, List.getD_cons_succ]; exact sp_row rfl rfl (w3_below _ _ _ _ _) (join17 _ _ _ _ w)
  have go := fun h => law_of_run (P := Try.prog) (f := 4) (m := 10000) (args := [spI 0 1, spI 2 3]) (args' := [sp a b, sp c d]) follows hX h (.cons _ _ _ _ (sp_rel _ 0 1) (.cons _ _ _ _ (sp_rel _ 2 3) .nil)) w
  generalize (decide (y1 ≤ x1) && decide (x2 ≤ y2)) = bi at go
  generalize (decide (x1 < y2) && decide (y1 < x2)) = bm at go
  cases bi <;> cases bm
  · exact go two_ff
  · exact go two_ft
  · exact go two_tf
  · exact go two_tt
end Go.Proofs.Ytjecgapnlnmloaa
