/- A part of the proof: an interpreter of the program, shown right once, and the laws that it computes. -/
import Derived.Test.YtjecgapnlnmloaaProg
import Derived.WalkKit
import Derived.ProofKit
import Derived.Below
import Derived.KernelRfl
namespace Go.Proofs.Ytjecgapnlnmloaa
open Go.RowKit
set_option linter.unusedVariables false
abbrev sp (a b : Int) : Value := .agg #[.int .i64 a, .int .i64 b]
def w2 (w : World) (a b c d : Int) : World := (w.alloc (.cells #[.int .i64 a, .int .i64 b] 23)).alloc (.cells #[.int .i64 c, .int .i64 d] 23)
theorem meet12 (a b c d : Int) (w : World) : Calls Try.prog 12 #[sp a b, sp c d] w fun e w' => e = .returned (.bool (decide (a < d) && decide (c < b))) ∧ w' = w2 w a b c d := by
  by_cases h : a < d
  · go_enter Try.func12, Try.ntmps12
    go_wp2
    go_ret
    exact ⟨by simp [h], rfl⟩
  · go_enter Try.func12, Try.ntmps12
    go_wp2
    go_ret
    exact ⟨by rw [show decide (a < d) = false from decide_eq_false (by omega)]; rfl, rfl⟩
theorem meet15 (a b c d : Int) (w : World) : Calls Try.prog 15 #[sp a b, sp c d] w fun e w' => e = .returned (.bool (decide (a < d) && decide (c < b))) ∧ w' = w2 w a b c d := by
  by_cases h : a < d
  · go_enter Try.func15, Try.ntmps15
    go_wp2
    go_ret
    exact ⟨by simp [h], rfl⟩
  · go_enter Try.func15, Try.ntmps15
    go_wp2
    go_ret
    exact ⟨by rw [show decide (a < d) = false from decide_eq_false (by omega)]; rfl, rfl⟩
theorem in13 (a b c d : Int) (w : World) : Calls Try.prog 13 #[sp a b, sp c d] w fun e w' => e = .returned (.bool (decide (c ≤ a) && decide (b ≤ d))) ∧ w' = w2 w a b c d := by
  by_cases h : c ≤ a
  · go_enter Try.func13, Try.ntmps13
    go_wp2
    go_ret
    exact ⟨by simp [h], rfl⟩
  · go_enter Try.func13, Try.ntmps13
    go_wp2
    go_ret
    exact ⟨by rw [show decide (c ≤ a) = false from decide_eq_false (by omega)]; rfl, rfl⟩
theorem in14 (a b c d : Int) (w : World) : Calls Try.prog 14 #[sp a b, sp c d] w fun e w' => e = .returned (.bool (decide (c ≤ a) && decide (b ≤ d))) ∧ w' = w2 w a b c d := by
  by_cases h : c ≤ a
  · go_enter Try.func14, Try.ntmps14
    go_wp2
    go_ret
    exact ⟨by simp [h], rfl⟩
  · go_enter Try.func14, Try.ntmps14
    go_wp2
    go_ret
    exact ⟨by rw [show decide (c ≤ a) = false from decide_eq_false (by omega)]; rfl, rfl⟩
def w3 (w : World) (a b c d : Int) : World := (w2 w a b c d).alloc (.cells #[.int .i64 (min a c), .int .i64 (max b d)] 23)
theorem join16 (a b c d : Int) (w : World) : Calls Try.prog 16 #[sp a b, sp c d] w fun e w' => e = .returned (sp (min a c) (max b d)) ∧ w' = w3 w a b c d := by
  by_cases h1 : c < a <;> by_cases h2 : b < d
  · have e1 : min a c = c := by omega
    have e2 : max b d = d := by omega
    go_enter Try.func16, Try.ntmps16
    go_wp2
    exact bodyPost_ret (v := sp c d) (by simp [results, Try.f16, go_sem]) rfl ⟨by first | rfl | rw [e1, e2], by unfold w3 w2; rw [e1, e2]⟩
  · have e1 : min a c = c := by omega
    have e2 : max b d = b := by omega
    go_enter Try.func16, Try.ntmps16
    go_wp2
    exact bodyPost_ret (v := sp c b) (by simp [results, Try.f16, go_sem]) rfl ⟨by first | rfl | rw [e1, e2], by unfold w3 w2; rw [e1, e2]⟩
  · have e1 : min a c = a := by omega
    have e2 : max b d = d := by omega
    go_enter Try.func16, Try.ntmps16
    go_wp2
    exact bodyPost_ret (v := sp a d) (by simp [results, Try.f16, go_sem]) rfl ⟨by first | rfl | rw [e1, e2], by unfold w3 w2; rw [e1, e2]⟩
  · have e1 : min a c = a := by omega
    have e2 : max b d = b := by omega
    go_enter Try.func16, Try.ntmps16
    go_wp2
    exact bodyPost_ret (v := sp a b) (by simp [results, Try.f16, go_sem]) rfl ⟨by first | rfl | rw [e1, e2], by unfold w3 w2; rw [e1, e2]⟩
theorem join17 (a b c d : Int) (w : World) : Calls Try.prog 17 #[sp a b, sp c d] w fun e w' => e = .returned (sp (min a c) (max b d)) ∧ w' = w3 w a b c d := by
  by_cases h1 : c < a <;> by_cases h2 : b < d
  · have e1 : min a c = c := by omega
    have e2 : max b d = d := by omega
    go_enter Try.func17, Try.ntmps17
    go_wp2
    exact bodyPost_ret (v := sp c d) (by simp [results, Try.f17, go_sem]) rfl ⟨by first | rfl | rw [e1, e2], by unfold w3 w2; rw [e1, e2]⟩
  · have e1 : min a c = c := by omega
    have e2 : max b d = b := by omega
    go_enter Try.func17, Try.ntmps17
    go_wp2
    exact bodyPost_ret (v := sp c b) (by simp [results, Try.f17, go_sem]) rfl ⟨by first | rfl | rw [e1, e2], by unfold w3 w2; rw [e1, e2]⟩
  · have e1 : min a c = a := by omega
    have e2 : max b d = d := by omega
    go_enter Try.func17, Try.ntmps17
    go_wp2
    exact bodyPost_ret (v := sp a d) (by simp [results, Try.f17, go_sem]) rfl ⟨by first | rfl | rw [e1, e2], by unfold w3 w2; rw [e1, e2]⟩
  · have e1 : min a c = a := by omega
    have e2 : max b d = b := by omega
    go_enter Try.func17, Try.ntmps17
    go_wp2
    exact bodyPost_ret (v := sp a b) (by simp [results, Try.f17, go_sem]) rfl ⟨by first | rfl | rw [e1, e2], by unfold w3 w2; rw [e1, e2]⟩

theorem within27_neg (a n : Int) (w : World) (hn : 0 < n) (hn2 : n ≤ 1000) (ha : a.tmod n < 0) :
    Calls Try.prog 27 #[.int .i64 a, .int .i64 n] w fun e w' => e = .returned (.int .i64 (a.tmod n + n)) ∧ w' = w := by
  have h0 : n ≠ 0 := by omega
  have hw : IntKind.i64.wrap (a.tmod n + n) = a.tmod n + n := by
    have h1 : -n < a.tmod n := Int.lt_tmod_of_pos a hn
    unfold IntKind.wrap
    simp [IntKind.signed, IntKind.bits]
    omega
  go_enter Try.func27, Try.ntmps27
  go_wp2
  go_ret
  exact ⟨by first | rfl | (show Ending.returned (Value.int IntKind.i64 _) = _; rw [hw]), rfl⟩
theorem within27_pos (a n : Int) (w : World) (hn : 0 < n) (ha : ¬ a.tmod n < 0) :
    Calls Try.prog 27 #[.int .i64 a, .int .i64 n] w fun e w' => e = .returned (.int .i64 (a.tmod n)) ∧ w' = w := by
  have h0 : n ≠ 0 := by omega
  go_enter Try.func27, Try.ntmps27
  go_wp2
  go_ret
  exact ⟨rfl, rfl⟩
/-- What 'within' hands back. -/
theorem within27 (a : Int) (n : Nat) (hn : 0 < n) (hn2 : n ≤ 1000) : ∃ k : Nat, k < n ∧ ∀ w, Calls Try.prog 27 #[.int .i64 a, .int .i64 n] w fun e w' => e = .returned (.int .i64 k) ∧ w' = w := by
  have h0 : (0 : Int) < n := by omega
  have h1 : -(n : Int) < a.tmod n := Int.lt_tmod_of_pos a h0
  have h2 : a.tmod n < n := Int.tmod_lt_of_pos a h0
  by_cases ha : a.tmod n < 0
  · refine ⟨(a.tmod n + n).toNat, by omega, fun w => ?_⟩
    rw [show (((a.tmod n + n).toNat : Nat) : Int) = a.tmod n + n by omega]
    exact within27_neg a n w h0 (by omega) ha
  · refine ⟨(a.tmod n).toNat, by omega, fun w => ?_⟩
    rw [show (((a.tmod n).toNat : Nat) : Int) = a.tmod n by omega]
    exact within27_pos a n w h0 ha
def wG (w : World) (a b x y : Int) : World := w2 w a b x y
theorem good11 (a b : Int) : ∃ x y : Int, 0 ≤ x ∧ x < 60 ∧ x ≤ y ∧ y < 80 ∧ ∀ w, Calls Try.prog 11 #[sp a b] w fun e w' => e = .returned (sp x y) ∧ w' = w2 w a b x y := by
  obtain ⟨k, hk, hc⟩ := within27 a 60 (by decide) (by decide)
  obtain ⟨m, hm, hd⟩ := within27 b 20 (by decide) (by decide)
  refine ⟨k, k + m, by omega, by omega, by omega, by omega, fun w => ?_⟩
  go_enter Try.func11, Try.ntmps11
  have hc' : ∀ w, Calls Try.prog 27 #[.int .i64 a, .int .i64 60] w fun e w' => e = .returned (.int .i64 k) ∧ w' = w := hc
  have hd' : ∀ w, Calls Try.prog 27 #[.int .i64 b, .int .i64 20] w fun e w' => e = .returned (.int .i64 m) ∧ w' = w := hd
  clear hc hd
  go_wp2_with (first | (go_at_call 27; refine (hc' _).mono ?_; clear hc'; rintro e w' ⟨rfl, rfl⟩) | (go_at_call 27; refine (hd' _).mono ?_; clear hd'; rintro e w' ⟨rfl, rfl⟩))
  exact bodyPost_ret (v := sp k (k + m)) (by simp [results, Try.f11, go_sem]) rfl ⟨rfl, rfl⟩
end Go.Proofs.Ytjecgapnlnmloaa
