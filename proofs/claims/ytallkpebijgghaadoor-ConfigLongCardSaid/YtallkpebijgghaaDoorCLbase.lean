/- A part of the proof: an interpreter of the program, shown right once, and the laws that it computes. -/
import Derived.Test.YtallkpebijgghaaDoorCLa
import Derived.Test.YtallkpebijgghaaDoorCLb
import Derived.Test.YtallkpebijgghaaDoorCLc
import Derived.Test.YtallkpebijgghaaDoorCLd
import Derived.WalkKit
import Derived.ProofKit
import Derived.Below
namespace Go.Proofs.YtallkpebijgghaaDoor
open Go.RowKit Go.Eng
set_option linter.unusedVariables false
theorem within11_neg (a n : Int) (w : World) (hn : 0 < n) (hn2 : n ≤ 1000) (ha : a.tmod n < 0) :
    Calls Tryd.prog 11 #[.int .i64 a, .int .i64 n] w fun e w' => e = .returned (.int .i64 (a.tmod n + n)) ∧ w' = w := by
  have h0 : n ≠ 0 := by omega
  have hw : IntKind.i64.wrap (a.tmod n + n) = a.tmod n + n := by
    have h1 : -n < a.tmod n := Int.lt_tmod_of_pos a hn
    unfold IntKind.wrap
    simp [IntKind.signed, IntKind.bits]
    omega
  go_enter Tryd.func11, Tryd.ntmps11
  go_wp2
  go_ret
  exact ⟨by first | rfl | (show Ending.returned (Value.int IntKind.i64 _) = _; rw [hw]), rfl⟩
theorem within11_pos (a n : Int) (w : World) (hn : 0 < n) (ha : ¬ a.tmod n < 0) :
    Calls Tryd.prog 11 #[.int .i64 a, .int .i64 n] w fun e w' => e = .returned (.int .i64 (a.tmod n)) ∧ w' = w := by
  have h0 : n ≠ 0 := by omega
  go_enter Tryd.func11, Tryd.ntmps11
  go_wp2
  go_ret
  exact ⟨rfl, rfl⟩
/-- What 'within' hands back. -/
theorem within11 (a : Int) (n : Nat) (hn : 0 < n) (hn2 : n ≤ 1000) : ∃ k : Nat, k < n ∧ ∀ w, Calls Tryd.prog 11 #[.int .i64 a, .int .i64 n] w fun e w' => e = .returned (.int .i64 k) ∧ w' = w := by
  have h0 : (0 : Int) < n := by omega
  have h1 : -(n : Int) < a.tmod n := Int.lt_tmod_of_pos a h0
  have h2 : a.tmod n < n := Int.tmod_lt_of_pos a h0
  by_cases ha : a.tmod n < 0
  · refine ⟨(a.tmod n + n).toNat, by omega, fun w => ?_⟩
    rw [show (((a.tmod n + n).toNat : Nat) : Int) = a.tmod n + n by omega]
    exact within11_neg a n w h0 (by omega) ha
  · refine ⟨(a.tmod n).toNat, by omega, fun w => ?_⟩
    rw [show (((a.tmod n).toNat : Nat) : Int) = a.tmod n by omega]
    exact within11_pos a n w h0 ha

theorem follows : Tryd.prog.follows .mixedOrders = true := by kernel_rfl
theorem known5 (w : World) : Calls Tryd.prog 5 #[] w fun e w' => e = .returned (.bool true) ∧ Below w.heap.size w w' :=
  law_of_run (γ := fun _ => .int .i64 0) (X := noExt) (m := 10000) (args := []) (args' := []) follows noExt_ok known5k .nil w
theorem rowsC_ok {n k : Nat} {a : Int} (hk : ∀ w, Calls Tryd.prog 11 #[.int .i64 a, .int .i64 n] w fun e w' => e = .returned (.int .i64 k) ∧ w' = w) : ExtOk Tryd.prog (fun _ => .int .i64 a) (memo (rowsC n k)) := by
  refine memo_ok fun f args v h ρ args' hv w => ?_
  unfold rowsC at h
  cases h1 : Nat.beq f 5 with
  | true =>
    rw [h1] at h
    have := Nat.eq_of_beq_eq_true h1
    subst this
    simp only at h
    split at h <;> (try (cases h; done))
    cases h; cases hv
    refine (known5 w).mono ?_
    rintro e w' ⟨rfl, hb⟩
    exact ⟨_, rfl, hb, .bool true⟩
  | false =>
    rw [h1] at h
    simp only at h
    cases h2 : Nat.beq f 11 with
    | false => rw [h2] at h; cases h
    | true =>
      rw [h2] at h
      have := Nat.eq_of_beq_eq_true h2
      subst this
      simp only at h
      split at h <;> (try (cases h; done))
      rename_i m
      split at h <;> (try (cases h; done))
      rename_i hm
      have := Nat.eq_of_beq_eq_true hm
      subst this
      cases h
      cases hv with
      | cons _ x' _ _ hx hl =>
        cases hl with
        | cons _ y' _ _ hy hl =>
          cases hl
          cases hx
          cases hy
          refine (hk w).mono ?_
          rintro e w' ⟨rfl, rfl⟩
          exact ⟨_, rfl, Below.refl _ _, .int _ _⟩


theorem configLong_walk (a : Int) (w : World) : Calls Tryd.prog 4 #[.int .i64 a] w fun e w' => e = .returned (.bool true) ∧ Below w.heap.size w w' := by
  obtain ⟨k, hk, hc⟩ := within11 a 10 (by decide) (by decide)
  have hX := rowsC_ok (n := 10) hc
  have go : isTrue ((run Tryd.prog (memo (rowsC 10 k)) 10000).f 4 [.sym 0] s₀ .ok) = true → Calls Tryd.prog 4 #[.int .i64 a] w fun e w' => e = .returned (.bool true) ∧ Below w.heap.size w w' :=
    fun h => law_of_run (args' := [.int .i64 a]) follows hX h (.cons _ _ _ _ (.sym (γ := fun _ => .int .i64 a) 0 rfl (fun _ => ⟨a, rfl⟩)) .nil) w
  have hcases : k = 0 ∨ k = 1 ∨ k = 2 ∨ k = 3 ∨ k = 4 ∨ k = 5 ∨ k = 6 ∨ k = 7 ∨ k = 8 ∨ k = 9 := by omega
  rcases hcases with h | h | h | h | h | h | h | h | h | h <;> subst h
  · exact go long0
  · exact go long1
  · exact go long2
  · exact go long3
  · exact go long4
  · exact go long5
  · exact go long6
  · exact go long7
  · exact go long8
  · exact go long9
end Go.Proofs.YtallkpebijgghaaDoor
