/- A part of the proof: an interpreter of the program, shown right once, and the laws that it computes. -/
import Derived.Test.YtoaeeiocgmiojaaGreatGTk
import Derived.Test.YtoaeeiocgmiojaaGreatLastPK
import Derived.Test.YtoaeeiocgmiojaaGreatRows
import Derived.WalkKit
import Derived.ProofKit
import Derived.OpenShut
import Derived.ChangeOld
import Derived.Below
import Derived.SizedLaws
namespace Go.Proofs.YtoaeeiocgmiojaaGreat
open Go.ChangeShapes Go.WideShapes Go.ChangeAt Go.RowKit Go.Eng
set_option linter.unusedVariables false
theorem within16_neg (a n : Int) (w : World) (hn : 0 < n) (hn2 : n ≤ 1000) (ha : a.tmod n < 0) :
    Calls Tryz.prog 16 #[.int .i64 a, .int .i64 n] w fun e w' => e = .returned (.int .i64 (a.tmod n + n)) ∧ w' = w := by
  have h0 : n ≠ 0 := by omega
  have hw : IntKind.i64.wrap (a.tmod n + n) = a.tmod n + n := by
    have h1 : -n < a.tmod n := Int.lt_tmod_of_pos a hn
    unfold IntKind.wrap
    simp [IntKind.signed, IntKind.bits]
    omega
  go_enter Tryz.func16, Tryz.ntmps16
  go_wp2
  go_ret
  exact ⟨by first | rfl | (show Ending.returned (Value.int IntKind.i64 _) = _; rw [hw]), rfl⟩
theorem within16_pos (a n : Int) (w : World) (hn : 0 < n) (ha : ¬ a.tmod n < 0) :
    Calls Tryz.prog 16 #[.int .i64 a, .int .i64 n] w fun e w' => e = .returned (.int .i64 (a.tmod n)) ∧ w' = w := by
  have h0 : n ≠ 0 := by omega
  go_enter Tryz.func16, Tryz.ntmps16
  go_wp2
  go_ret
  exact ⟨rfl, rfl⟩
/-- What 'within' hands back. -/
theorem within16 (a : Int) (n : Nat) (hn : 0 < n) (hn2 : n ≤ 1000) : ∃ k : Nat, k < n ∧ ∀ w, Calls Tryz.prog 16 #[.int .i64 a, .int .i64 n] w fun e w' => e = .returned (.int .i64 k) ∧ w' = w := by
  have h0 : (0 : Int) < n := by omega
  have h1 : -(n : Int) < a.tmod n := Int.lt_tmod_of_pos a h0
  have h2 : a.tmod n < n := Int.tmod_lt_of_pos a h0
  by_cases ha : a.tmod n < 0
  · refine ⟨(a.tmod n + n).toNat, by omega, fun w => ?_⟩
    rw [show (((a.tmod n + n).toNat : Nat) : Int) = a.tmod n + n by omega]
    exact within16_neg a n w h0 (by omega) ha
  · refine ⟨(a.tmod n).toNat, by omega, fun w => ?_⟩
    rw [show (((a.tmod n).toNat : Nat) : Int) = a.tmod n by omega]
    exact within16_pos a n w h0 ha

theorem follows : Tryz.prog.follows .mixedOrders = true := by kernel_rfl
theorem known16 (γ : Gam) (w : World) : Calls Tryz.prog 15 #[] w fun e w' => e = .returned (.bool true) ∧ Below w.heap.size w w' :=
  law_of_run (γ := γ) (X := lastX 106) (m := 10000) (args := []) (args' := []) follows (last_ok lastSaid) known16k .nil w
theorem rowsG_ok {γ : Gam} {n k : Nat} {a : Int} (hγ : γ 0 = .int .i64 a) (hk : ∀ w, Calls Tryz.prog 16 #[.int .i64 a, .int .i64 n] w fun e w' => e = .returned (.int .i64 k) ∧ w' = w) : ExtOk Tryz.prog γ (memo (rowsG 15 16 n k)) := by
  refine memo_ok fun f args v h ρ args' hv w => ?_
  unfold rowsG at h
  cases h1 : Nat.beq f 15 with
  | true =>
    rw [h1] at h
    have := Nat.eq_of_beq_eq_true h1
    subst this
    simp only at h
    split at h <;> (try (cases h; done))
    cases h; cases hv
    refine (known16 γ w).mono ?_
    rintro e w' ⟨rfl, hb⟩
    exact ⟨_, rfl, hb, .bool true⟩
  | false =>
    rw [h1] at h
    simp only at h
    cases h2 : Nat.beq f 16 with
    | false => rw [h2] at h; cases h
    | true =>
      rw [h2] at h
      have := Nat.eq_of_beq_eq_true h2
      subst this
      simp only at h
      split at h <;> (try (cases h; done))
      rename_i m
      split at h <;> (try (cases h; done))
      rename_i hm
      have := Nat.eq_of_beq_eq_true hm
      subst this
      cases h
      cases hv with
      | cons _ x' _ _ hx hl =>
        cases hl with
        | cons _ y' _ _ hy hl =>
          cases hl
          cases hx
          cases hy
          rw [hγ]
          refine (hk w).mono ?_
          rintro e w' ⟨rfl, rfl⟩
          exact ⟨_, rfl, Below.refl _ _, .int _ _⟩

theorem extG_ok {γ : Gam} {n k : Nat} {a : Int} (hγ : γ 0 = .int .i64 a) (hk : ∀ w, Calls Tryz.prog 16 #[.int .i64 a, .int .i64 n] w fun e w' => e = .returned (.int .i64 k) ∧ w' = w) : ExtOk Tryz.prog γ (extG n k) :=
  orX_ok (last_ok lastSaid) (rowsG_ok hγ hk)
end Go.Proofs.YtoaeeiocgmiojaaGreat
