/- A part of the proof: an interpreter of the program, shown right once, and the laws that it computes. -/
import Derived.Test.YtbfegpecmoigbaaGreatDoorEK0
import Derived.Test.YtbfegpecmoigbaaGreatDoorEK1
import Derived.Test.YtbfegpecmoigbaaGreatDoorEK2
import Derived.Test.YtbfegpecmoigbaaGreatDoorEK3
import Derived.Test.YtbfegpecmoigbaaGreatDoorEK4
import Derived.Test.YtbfegpecmoigbaaGreatDoorEK5
import Derived.Test.YtbfegpecmoigbaaGreatDoorEK6
import Derived.Test.YtbfegpecmoigbaaGreatDoorEK7
import Derived.Test.YtbfegpecmoigbaaGreatDoorEK8
import Derived.Test.YtbfegpecmoigbaaGreatDoorEK9
import Derived.Test.YtbfegpecmoigbaaGreatDoorEKk
import Derived.WalkKit
import Derived.ProofKit
import Derived.Below
namespace Go.Proofs.YtbfegpecmoigbaaGreatDoor
open Go.RowKit Go.Eng
set_option linter.unusedVariables false
theorem within5_neg (a n : Int) (w : World) (hn : 0 < n) (hn2 : n ≤ 1000) (ha : a.tmod n < 0) :
    Calls Tryz.prog 5 #[.int .i64 a, .int .i64 n] w fun e w' => e = .returned (.int .i64 (a.tmod n + n)) ∧ w' = w := by
  have h0 : n ≠ 0 := by omega
  have hw : IntKind.i64.wrap (a.tmod n + n) = a.tmod n + n := by
    have h1 : -n < a.tmod n := Int.lt_tmod_of_pos a hn
    unfold IntKind.wrap
    simp [IntKind.signed, IntKind.bits]
    omega
  go_enter Tryz.func5, Tryz.ntmps5
  go_wp2
  go_ret
  exact ⟨by first | rfl | (show Ending.returned (Value.int IntKind.i64 _) = _; rw [hw]), rfl⟩
theorem within5_pos (a n : Int) (w : World) (hn : 0 < n) (ha : ¬ a.tmod n < 0) :
    Calls Tryz.prog 5 #[.int .i64 a, .int .i64 n] w fun e w' => e = .returned (.int .i64 (a.tmod n)) ∧ w' = w := by
  have h0 : n ≠ 0 := by omega
  go_enter Tryz.func5, Tryz.ntmps5
  go_wp2
  go_ret
  exact ⟨rfl, rfl⟩
/-- What 'within' hands back. -/
theorem within5 (a : Int) (n : Nat) (hn : 0 < n) (hn2 : n ≤ 1000) : ∃ k : Nat, k < n ∧ ∀ w, Calls Tryz.prog 5 #[.int .i64 a, .int .i64 n] w fun e w' => e = .returned (.int .i64 k) ∧ w' = w := by
  have h0 : (0 : Int) < n := by omega
  have h1 : -(n : Int) < a.tmod n := Int.lt_tmod_of_pos a h0
  have h2 : a.tmod n < n := Int.tmod_lt_of_pos a h0
  by_cases ha : a.tmod n < 0
  · refine ⟨(a.tmod n + n).toNat, by omega, fun w => ?_⟩
    rw [show (((a.tmod n + n).toNat : Nat) : Int) = a.tmod n + n by omega]
    exact within5_neg a n w h0 (by omega) ha
  · refine ⟨(a.tmod n).toNat, by omega, fun w => ?_⟩
    rw [show (((a.tmod n).toNat : Nat) : Int) = a.tmod n by omega]
    exact within5_pos a n w h0 ha

theorem follows : Tryz.prog.follows .mixedOrders = true := by kernel_rfl
theorem known4 (w : World) : Calls Tryz.prog 4 #[] w fun e w' => e = .returned (.bool true) ∧ Below w.heap.size w w' :=
  law_of_run (γ := fun _ => .int .i64 0) (X := noExt) (m := 10000) (args := []) (args' := []) follows noExt_ok known4k .nil w
theorem rowsK_ok {n k : Nat} {a : Int} (hk : ∀ w, Calls Tryz.prog 5 #[.int .i64 a, .int .i64 n] w fun e w' => e = .returned (.int .i64 k) ∧ w' = w) : ExtOk Tryz.prog (fun _ => .int .i64 a) (memo (rowsK n k)) := by
  refine memo_ok fun f args v h ρ args' hv w => ?_
  unfold rowsK at h
  cases h1 : Nat.beq f 4 with
  | true =>
    rw [h1] at h
    have := Nat.eq_of_beq_eq_true h1
    subst this
    simp only at h
    split at h <;> (try (cases h; done))
    cases h; cases hv
    refine (known4 w).mono ?_
    rintro e w' ⟨rfl, hb⟩
    exact ⟨_, rfl, hb, .bool true⟩
  | false =>
    rw [h1] at h
    simp only at h
    cases h2 : Nat.beq f 5 with
    | false => rw [h2] at h; cases h
    | true =>
      rw [h2] at h
      have := Nat.eq_of_beq_eq_true h2
      subst this
      simp only at h
      split at h <;> (try (cases h; done))
      rename_i m
      split at h <;> (try (cases h; done))
      rename_i hm
      have := Nat.eq_of_beq_eq_true hm
      subst this
      cases h
      cases hv with
      | cons _ x' _ _ hx hl =>
        cases hl with
        | cons _ y' _ _ hy hl =>
          cases hl
          cases hx
          cases hy
          refine (hk w).mono ?_
          rintro e w' ⟨rfl, rfl⟩
          exact ⟨_, rfl, Below.refl _ _, .int _ _⟩
theorem equalKinds_walk (a : Int) (w : World) : Calls Tryz.prog 3 #[.int .i64 a] w fun e w' => e = .returned (.bool true) ∧ Below w.heap.size w w' := by
  obtain ⟨k, hk, hc⟩ := within5 a 10 (by decide) (by decide)
  have go : ∀ ps : List (List Nat × Pack), (∀ l p, (l, p) ∈ ps → Packed l p) → isTrue ((run Tryz.prog (orX (memo (rowsK 10 k)) (memoR 5 (rowsP ps))) 10000).f 3 [.sym 0] s₀ .ok) = true → Calls Tryz.prog 3 #[.int .i64 a] w fun e w' => e = .returned (.bool true) ∧ Below w.heap.size w w' := by
    intro ps hp h
    have hX : ExtOk Tryz.prog (fun _ => .int .i64 a) (orX (memo (rowsK 10 k)) (memoR 5 (rowsP ps))) :=
      orX_ok (rowsK_ok (n := 10) hc) (memoR_ok follows noExt_ok (m := 10000) fun f l p hl => rowsP_ok hp f l p hl)
    exact law_of_run (args' := [.int .i64 a]) follows hX h (.cons _ _ _ _ (.sym (γ := fun _ => .int .i64 a) 0 rfl (fun _ => ⟨a, rfl⟩) (fun h => absurd h (by decide))) .nil) w
  have hcases : k = 0 ∨ k = 1 ∨ k = 2 ∨ k = 3 ∨ k = 4 ∨ k = 5 ∨ k = 6 ∨ k = 7 ∨ k = 8 ∨ k = 9 := by omega
  rcases hcases with h | h | h | h | h | h | h | h | h | h <;> subst h
  · exact go packs0 packs0_ok main0
  · exact go packs1 packs1_ok main1
  · exact go packs2 packs2_ok main2
  · exact go packs3 packs3_ok main3
  · exact go packs4 packs4_ok main4
  · exact go packs5 packs5_ok main5
  · exact go packs6 packs6_ok main6
  · exact go packs7 packs7_ok main7
  · exact go packs8 packs8_ok main8
  · exact go packs9 packs9_ok main9
end Go.Proofs.YtbfegpecmoigbaaGreatDoor
