/- A part of the proof: an interpreter of the program, shown right once, and the laws that it computes. -/
import Derived.Test.YtfckbfheadoohaaGreatDoorFK0
import Derived.Test.YtfckbfheadoohaaGreatDoorFK1
import Derived.Test.YtfckbfheadoohaaGreatDoorFK2
import Derived.Test.YtfckbfheadoohaaGreatDoorFK3
import Derived.Test.YtfckbfheadoohaaGreatDoorFK4
import Derived.Test.YtfckbfheadoohaaGreatDoorFK5
import Derived.Test.YtfckbfheadoohaaGreatDoorFK6
import Derived.Test.YtfckbfheadoohaaGreatDoorFK7
import Derived.Test.YtfckbfheadoohaaGreatDoorFK8
import Derived.Test.YtfckbfheadoohaaGreatDoorFK9
import Derived.Test.YtfckbfheadoohaaGreatDoorFK10
import Derived.Test.YtfckbfheadoohaaGreatDoorFK11
import Derived.Test.YtfckbfheadoohaaGreatDoorFK12
import Derived.Test.YtfckbfheadoohaaGreatDoorFKk
import Derived.Test.YtfckbfheadoohaaGreatDoorLastPK
import Derived.WalkKit
import Derived.ProofKit
import Derived.Below
namespace Go.Proofs.YtfckbfheadoohaaGreatDoor
open Go.RowKit Go.Eng
set_option linter.unusedVariables false
theorem within5_neg (a n : Int) (w : World) (hn : 0 < n) (hn2 : n ≤ 1000) (ha : a.tmod n < 0) :
    Calls Tryz.prog 5 #[.int .i64 a, .int .i64 n] w fun e w' => e = .returned (.int .i64 (a.tmod n + n)) ∧ w' = w := by
  have h0 : n ≠ 0 := by omega
  have hw : IntKind.i64.wrap (a.tmod n + n) = a.tmod n + n := by
    have h1 : -n < a.tmod n := Int.lt_tmod_of_pos a hn
    unfold IntKind.wrap
    simp [IntKind.signed, IntKind.bits]
    omega
  go_enter Tryz.func5, Tryz.ntmps5
  go_wp2
  go_ret
  exact ⟨by first | rfl | (show Ending.returned (Value.int IntKind.i64 _) = _; rw [hw]), rfl⟩
theorem within5_pos (a n : Int) (w : World) (hn : 0 < n) (ha : ¬ a.tmod n < 0) :
    Calls Tryz.prog 5 #[.int .i64 a, .int .i64 n] w fun e w' => e = .returned (.int .i64 (a.tmod n)) ∧ w' = w := by
  have h0 : n ≠ 0 := by omega
  go_enter Tryz.func5, Tryz.ntmps5
  go_wp2
  go_ret
  exact ⟨rfl, rfl⟩
/-- What 'within' hands back. -/
theorem within5 (a : Int) (n : Nat) (hn : 0 < n) (hn2 : n ≤ 1000) : ∃ k : Nat, k < n ∧ ∀ w, Calls Tryz.prog 5 #[.int .i64 a, .int .i64 n] w fun e w' => e = .returned (.int .i64 k) ∧ w' = w := by
  have h0 : (0 : Int) < n := by omega
  have h1 : -(n : Int) < a.tmod n := Int.lt_tmod_of_pos a h0
  have h2 : a.tmod n < n := Int.tmod_lt_of_pos a h0
  by_cases ha : a.tmod n < 0
  · refine ⟨(a.tmod n + n).toNat, by omega, fun w => ?_⟩
    rw [show (((a.tmod n + n).toNat : Nat) : Int) = a.tmod n + n by omega]
    exact within5_neg a n w h0 (by omega) ha
  · refine ⟨(a.tmod n).toNat, by omega, fun w => ?_⟩
    rw [show (((a.tmod n).toNat : Nat) : Int) = a.tmod n by omega]
    exact within5_pos a n w h0 ha

theorem follows : Tryz.prog.follows .mixedOrders = true := by kernel_rfl
theorem xx_ok {γ : Gam} : ExtOk Tryz.prog γ XX := orX_ok (deferX_ok follows (last_ok lastSaid)) (last_ok lastSaid)
theorem known4 (w : World) : Calls Tryz.prog 4 #[] w fun e w' => e = .returned (.bool true) ∧ Below w.heap.size w w' :=
  law_of_run (γ := fun _ => .int .i64 0) (X := XX) (m := 10000) (args := []) (args' := []) follows xx_ok known4k .nil w
theorem rowsK_ok {n k : Nat} {a : Int} (hk : ∀ w, Calls Tryz.prog 5 #[.int .i64 a, .int .i64 n] w fun e w' => e = .returned (.int .i64 k) ∧ w' = w) : ExtOk Tryz.prog (fun _ => .int .i64 a) (memo (rowsK n k)) := by
  refine memo_ok fun f args v h ρ args' hv w => ?_
  unfold rowsK at h
  cases h1 : Nat.beq f 4 with
  | true =>
    rw [h1] at h
    have := Nat.eq_of_beq_eq_true h1
    subst this
    simp only at h
    split at h <;> (try (cases h; done))
    cases h; cases hv
    refine (known4 w).mono ?_
    rintro e w' ⟨rfl, hb⟩
    exact ⟨_, rfl, hb, .bool true⟩
  | false =>
    rw [h1] at h
    simp only at h
    cases h2 : Nat.beq f 5 with
    | false => rw [h2] at h; cases h
    | true =>
      rw [h2] at h
      have := Nat.eq_of_beq_eq_true h2
      subst this
      simp only at h
      split at h <;> (try (cases h; done))
      rename_i m
      split at h <;> (try (cases h; done))
      rename_i hm
      have := Nat.eq_of_beq_eq_true hm
      subst this
      cases h
      cases hv with
      | cons _ x' _ _ hx hl =>
        cases hl with
        | cons _ y' _ _ hy hl =>
          cases hl
          cases hx
          cases hy
          refine (hk w).mono ?_
          rintro e w' ⟨rfl, rfl⟩
          exact ⟨_, rfl, Below.refl _ _, .int _ _⟩
theorem fixKinds_walk (a : Int) (w : World) : Calls Tryz.prog 3 #[.int .i64 a] w fun e w' => e = .returned (.bool true) ∧ Below w.heap.size w w' := by
  obtain ⟨k, hk, hc⟩ := within5 a 13 (by decide) (by decide)
  have go : isTrue ((run Tryz.prog (orX (memo (rowsK 13 k)) XX) 10000).f 3 [.sym 0] s₀ .ok) = true → Calls Tryz.prog 3 #[.int .i64 a] w fun e w' => e = .returned (.bool true) ∧ Below w.heap.size w w' := by
    intro h
    have hX : ExtOk Tryz.prog (fun _ => .int .i64 a) (orX (memo (rowsK 13 k)) XX) := orX_ok (rowsK_ok (n := 13) hc) xx_ok
    exact law_of_run (args' := [.int .i64 a]) follows hX h (.cons _ _ _ _ (.sym (γ := fun _ => .int .i64 a) 0 rfl (fun _ => ⟨a, rfl⟩) (fun h => absurd h (by decide)) (fun h _ => absurd h (by decide))) .nil) w
  have hcases : k = 0 ∨ k = 1 ∨ k = 2 ∨ k = 3 ∨ k = 4 ∨ k = 5 ∨ k = 6 ∨ k = 7 ∨ k = 8 ∨ k = 9 ∨ k = 10 ∨ k = 11 ∨ k = 12 := by omega
  rcases hcases with h | h | h | h | h | h | h | h | h | h | h | h | h <;> subst h
  · exact go main0
  · exact go main1
  · exact go main2
  · exact go main3
  · exact go main4
  · exact go main5
  · exact go main6
  · exact go main7
  · exact go main8
  · exact go main9
  · exact go main10
  · exact go main11
  · exact go main12
end Go.Proofs.YtfckbfheadoohaaGreatDoor
