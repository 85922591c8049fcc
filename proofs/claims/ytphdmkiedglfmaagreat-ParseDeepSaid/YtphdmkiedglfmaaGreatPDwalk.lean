/- A part of the proof: an interpreter of the program, shown right once, and the laws that it computes. -/
import Derived.Test.YtphdmkiedglfmaaGreatPDbase
import Derived.Test.YtphdmkiedglfmaaGreatPDk0
import Derived.Test.YtphdmkiedglfmaaGreatPDk1
import Derived.Test.YtphdmkiedglfmaaGreatPDk2
import Derived.Test.YtphdmkiedglfmaaGreatPDk3
import Derived.Test.YtphdmkiedglfmaaGreatPDk4
import Derived.Test.YtphdmkiedglfmaaGreatPDk5
import Derived.Test.YtphdmkiedglfmaaGreatPDk6
import Derived.Test.YtphdmkiedglfmaaGreatPDk7
import Derived.Test.YtphdmkiedglfmaaGreatPDk8
import Derived.Test.YtphdmkiedglfmaaGreatRows
import Derived.OpenShut
import Derived.ChangeOld
import Derived.SizedLaws
set_option linter.unusedVariables false
set_option linter.constructorNameAsVariable false
namespace Go.Proofs.YtphdmkiedglfmaaGreat
open Go.ChangeShapes Go.WideShapes Go.ChangeAt Go.RowKit Go.Eng
theorem syAll : ∀ n : Nat, 1 ≤ n → n ≤ 30 → one n 400 = true
  | 0, h, _ => absurd h (by decide)
  | 1, _, _ => sy1
  | 2, _, _ => sy2
  | 3, _, _ => sy3
  | 4, _, _ => sy4
  | 5, _, _ => sy5
  | 6, _, _ => sy6
  | 7, _, _ => sy7
  | 8, _, _ => sy8
  | 9, _, _ => sy9
  | 10, _, _ => sy10
  | 11, _, _ => sy11
  | 12, _, _ => sy12
  | 13, _, _ => sy13
  | 14, _, _ => sy14
  | 15, _, _ => sy15
  | 16, _, _ => sy16
  | 17, _, _ => sy17
  | 18, _, _ => sy18
  | 19, _, _ => sy19
  | 20, _, _ => sy20
  | 21, _, _ => sy21
  | 22, _, _ => sy22
  | 23, _, _ => sy23
  | 24, _, _ => sy24
  | 25, _, _ => sy25
  | 26, _, _ => sy26
  | 27, _, _ => sy27
  | 28, _, _ => sy28
  | 29, _, _ => sy29
  | 30, _, _ => sy30
  | n + 31, _, h => absurd h (by omega)
theorem onAll2 (d : Nat) (h1 : 1 ≤ d) (h2 : d < 2) : one 2 (99 + d) = true := by
  have := ones_get on2_0 (d - 1) (by omega)
  rwa [show 100 + 0 + (d - 1) = 99 + d by omega] at this
theorem onAll3 (d : Nat) (h1 : 1 ≤ d) (h2 : d < 3) : one 3 (99 + d) = true := by
  have := ones_get on3_0 (d - 1) (by omega)
  rwa [show 100 + 0 + (d - 1) = 99 + d by omega] at this
theorem onAll4 (d : Nat) (h1 : 1 ≤ d) (h2 : d < 4) : one 4 (99 + d) = true := by
  have := ones_get on4_0 (d - 1) (by omega)
  rwa [show 100 + 0 + (d - 1) = 99 + d by omega] at this
theorem onAll5 (d : Nat) (h1 : 1 ≤ d) (h2 : d < 5) : one 5 (99 + d) = true := by
  have := ones_get on5_0 (d - 1) (by omega)
  rwa [show 100 + 0 + (d - 1) = 99 + d by omega] at this
theorem onAll6 (d : Nat) (h1 : 1 ≤ d) (h2 : d < 6) : one 6 (99 + d) = true := by
  have := ones_get on6_0 (d - 1) (by omega)
  rwa [show 100 + 0 + (d - 1) = 99 + d by omega] at this
theorem onAll7 (d : Nat) (h1 : 1 ≤ d) (h2 : d < 7) : one 7 (99 + d) = true := by
  have := ones_get on7_0 (d - 1) (by omega)
  rwa [show 100 + 0 + (d - 1) = 99 + d by omega] at this
theorem onAll8 (d : Nat) (h1 : 1 ≤ d) (h2 : d < 8) : one 8 (99 + d) = true := by
  have := ones_get on8_0 (d - 1) (by omega)
  rwa [show 100 + 0 + (d - 1) = 99 + d by omega] at this
theorem onAll9 (d : Nat) (h1 : 1 ≤ d) (h2 : d < 9) : one 9 (99 + d) = true := by
  have := ones_get on9_0 (d - 1) (by omega)
  rwa [show 100 + 0 + (d - 1) = 99 + d by omega] at this
theorem onAll10 (d : Nat) (h1 : 1 ≤ d) (h2 : d < 10) : one 10 (99 + d) = true := by
  have := ones_get on10_0 (d - 1) (by omega)
  rwa [show 100 + 0 + (d - 1) = 99 + d by omega] at this
theorem onAll11 (d : Nat) (h1 : 1 ≤ d) (h2 : d < 11) : one 11 (99 + d) = true := by
  have := ones_get on11_0 (d - 1) (by omega)
  rwa [show 100 + 0 + (d - 1) = 99 + d by omega] at this
theorem onAll12 (d : Nat) (h1 : 1 ≤ d) (h2 : d < 12) : one 12 (99 + d) = true := by
  have := ones_get on12_0 (d - 1) (by omega)
  rwa [show 100 + 0 + (d - 1) = 99 + d by omega] at this
theorem onAll13 (d : Nat) (h1 : 1 ≤ d) (h2 : d < 13) : one 13 (99 + d) = true := by
  have := ones_get on13_0 (d - 1) (by omega)
  rwa [show 100 + 0 + (d - 1) = 99 + d by omega] at this
theorem onAll14 (d : Nat) (h1 : 1 ≤ d) (h2 : d < 14) : one 14 (99 + d) = true := by
  have := ones_get on14_0 (d - 1) (by omega)
  rwa [show 100 + 0 + (d - 1) = 99 + d by omega] at this
theorem onAll15 (d : Nat) (h1 : 1 ≤ d) (h2 : d < 15) : one 15 (99 + d) = true := by
  have := ones_get on15_0 (d - 1) (by omega)
  rwa [show 100 + 0 + (d - 1) = 99 + d by omega] at this
theorem onAll16 (d : Nat) (h1 : 1 ≤ d) (h2 : d < 16) : one 16 (99 + d) = true := by
  by_cases c0 : d ≤ 14
  · have := ones_get on16_0 (d - 1) (by omega)
    rwa [show 100 + 0 + (d - 1) = 99 + d by omega] at this
  have := ones_get on16_14 (d - 15) (by omega)
  rwa [show 100 + 14 + (d - 15) = 99 + d by omega] at this
theorem onAll17 (d : Nat) (h1 : 1 ≤ d) (h2 : d < 17) : one 17 (99 + d) = true := by
  by_cases c0 : d ≤ 14
  · have := ones_get on17_0 (d - 1) (by omega)
    rwa [show 100 + 0 + (d - 1) = 99 + d by omega] at this
  have := ones_get on17_14 (d - 15) (by omega)
  rwa [show 100 + 14 + (d - 15) = 99 + d by omega] at this
theorem onAll18 (d : Nat) (h1 : 1 ≤ d) (h2 : d < 18) : one 18 (99 + d) = true := by
  by_cases c0 : d ≤ 14
  · have := ones_get on18_0 (d - 1) (by omega)
    rwa [show 100 + 0 + (d - 1) = 99 + d by omega] at this
  have := ones_get on18_14 (d - 15) (by omega)
  rwa [show 100 + 14 + (d - 15) = 99 + d by omega] at this
theorem onAll19 (d : Nat) (h1 : 1 ≤ d) (h2 : d < 19) : one 19 (99 + d) = true := by
  by_cases c0 : d ≤ 14
  · have := ones_get on19_0 (d - 1) (by omega)
    rwa [show 100 + 0 + (d - 1) = 99 + d by omega] at this
  have := ones_get on19_14 (d - 15) (by omega)
  rwa [show 100 + 14 + (d - 15) = 99 + d by omega] at this
theorem onAll20 (d : Nat) (h1 : 1 ≤ d) (h2 : d < 20) : one 20 (99 + d) = true := by
  by_cases c0 : d ≤ 14
  · have := ones_get on20_0 (d - 1) (by omega)
    rwa [show 100 + 0 + (d - 1) = 99 + d by omega] at this
  have := ones_get on20_14 (d - 15) (by omega)
  rwa [show 100 + 14 + (d - 15) = 99 + d by omega] at this
theorem onAll21 (d : Nat) (h1 : 1 ≤ d) (h2 : d < 21) : one 21 (99 + d) = true := by
  by_cases c0 : d ≤ 14
  · have := ones_get on21_0 (d - 1) (by omega)
    rwa [show 100 + 0 + (d - 1) = 99 + d by omega] at this
  have := ones_get on21_14 (d - 15) (by omega)
  rwa [show 100 + 14 + (d - 15) = 99 + d by omega] at this
theorem onAll22 (d : Nat) (h1 : 1 ≤ d) (h2 : d < 22) : one 22 (99 + d) = true := by
  by_cases c0 : d ≤ 14
  · have := ones_get on22_0 (d - 1) (by omega)
    rwa [show 100 + 0 + (d - 1) = 99 + d by omega] at this
  have := ones_get on22_14 (d - 15) (by omega)
  rwa [show 100 + 14 + (d - 15) = 99 + d by omega] at this
theorem onAll23 (d : Nat) (h1 : 1 ≤ d) (h2 : d < 23) : one 23 (99 + d) = true := by
  by_cases c0 : d ≤ 14
  · have := ones_get on23_0 (d - 1) (by omega)
    rwa [show 100 + 0 + (d - 1) = 99 + d by omega] at this
  by_cases c14 : d ≤ 21
  · have := ones_get on23_14 (d - 15) (by omega)
    rwa [show 100 + 14 + (d - 15) = 99 + d by omega] at this
  have := ones_get on23_21 (d - 22) (by omega)
  rwa [show 100 + 21 + (d - 22) = 99 + d by omega] at this
theorem onAll24 (d : Nat) (h1 : 1 ≤ d) (h2 : d < 24) : one 24 (99 + d) = true := by
  by_cases c0 : d ≤ 14
  · have := ones_get on24_0 (d - 1) (by omega)
    rwa [show 100 + 0 + (d - 1) = 99 + d by omega] at this
  by_cases c14 : d ≤ 21
  · have := ones_get on24_14 (d - 15) (by omega)
    rwa [show 100 + 14 + (d - 15) = 99 + d by omega] at this
  have := ones_get on24_21 (d - 22) (by omega)
  rwa [show 100 + 21 + (d - 22) = 99 + d by omega] at this
theorem onAll25 (d : Nat) (h1 : 1 ≤ d) (h2 : d < 25) : one 25 (99 + d) = true := by
  by_cases c0 : d ≤ 14
  · have := ones_get on25_0 (d - 1) (by omega)
    rwa [show 100 + 0 + (d - 1) = 99 + d by omega] at this
  by_cases c14 : d ≤ 21
  · have := ones_get on25_14 (d - 15) (by omega)
    rwa [show 100 + 14 + (d - 15) = 99 + d by omega] at this
  have := ones_get on25_21 (d - 22) (by omega)
  rwa [show 100 + 21 + (d - 22) = 99 + d by omega] at this
theorem onAll26 (d : Nat) (h1 : 1 ≤ d) (h2 : d < 26) : one 26 (99 + d) = true := by
  by_cases c0 : d ≤ 14
  · have := ones_get on26_0 (d - 1) (by omega)
    rwa [show 100 + 0 + (d - 1) = 99 + d by omega] at this
  by_cases c14 : d ≤ 21
  · have := ones_get on26_14 (d - 15) (by omega)
    rwa [show 100 + 14 + (d - 15) = 99 + d by omega] at this
  have := ones_get on26_21 (d - 22) (by omega)
  rwa [show 100 + 21 + (d - 22) = 99 + d by omega] at this
theorem onAll27 (d : Nat) (h1 : 1 ≤ d) (h2 : d < 27) : one 27 (99 + d) = true := by
  by_cases c0 : d ≤ 14
  · have := ones_get on27_0 (d - 1) (by omega)
    rwa [show 100 + 0 + (d - 1) = 99 + d by omega] at this
  by_cases c14 : d ≤ 21
  · have := ones_get on27_14 (d - 15) (by omega)
    rwa [show 100 + 14 + (d - 15) = 99 + d by omega] at this
  have := ones_get on27_21 (d - 22) (by omega)
  rwa [show 100 + 21 + (d - 22) = 99 + d by omega] at this
theorem onAll28 (d : Nat) (h1 : 1 ≤ d) (h2 : d < 28) : one 28 (99 + d) = true := by
  by_cases c0 : d ≤ 14
  · have := ones_get on28_0 (d - 1) (by omega)
    rwa [show 100 + 0 + (d - 1) = 99 + d by omega] at this
  by_cases c14 : d ≤ 21
  · have := ones_get on28_14 (d - 15) (by omega)
    rwa [show 100 + 14 + (d - 15) = 99 + d by omega] at this
  by_cases c21 : d ≤ 26
  · have := ones_get on28_21 (d - 22) (by omega)
    rwa [show 100 + 21 + (d - 22) = 99 + d by omega] at this
  have := ones_get on28_26 (d - 27) (by omega)
  rwa [show 100 + 26 + (d - 27) = 99 + d by omega] at this
theorem onAll29 (d : Nat) (h1 : 1 ≤ d) (h2 : d < 29) : one 29 (99 + d) = true := by
  by_cases c0 : d ≤ 14
  · have := ones_get on29_0 (d - 1) (by omega)
    rwa [show 100 + 0 + (d - 1) = 99 + d by omega] at this
  by_cases c14 : d ≤ 21
  · have := ones_get on29_14 (d - 15) (by omega)
    rwa [show 100 + 14 + (d - 15) = 99 + d by omega] at this
  by_cases c21 : d ≤ 26
  · have := ones_get on29_21 (d - 22) (by omega)
    rwa [show 100 + 21 + (d - 22) = 99 + d by omega] at this
  have := ones_get on29_26 (d - 27) (by omega)
  rwa [show 100 + 26 + (d - 27) = 99 + d by omega] at this
theorem onAll30 (d : Nat) (h1 : 1 ≤ d) (h2 : d < 30) : one 30 (99 + d) = true := by
  by_cases c0 : d ≤ 14
  · have := ones_get on30_0 (d - 1) (by omega)
    rwa [show 100 + 0 + (d - 1) = 99 + d by omega] at this
  by_cases c14 : d ≤ 21
  · have := ones_get on30_14 (d - 15) (by omega)
    rwa [show 100 + 14 + (d - 15) = 99 + d by omega] at this
  by_cases c21 : d ≤ 26
  · have := ones_get on30_21 (d - 22) (by omega)
    rwa [show 100 + 21 + (d - 22) = 99 + d by omega] at this
  have := ones_get on30_26 (d - 27) (by omega)
  rwa [show 100 + 26 + (d - 27) = 99 + d by omega] at this
theorem onAll : ∀ n : Nat, n ≤ 30 → ∀ d, 1 ≤ d → d < n → one n (99 + d) = true
  | 0, _, d, _, h => absurd h (by omega)
  | 1, _, d, h1, h => absurd h (by omega)
  | 2, _, d, h1, h2 => onAll2 d h1 h2
  | 3, _, d, h1, h2 => onAll3 d h1 h2
  | 4, _, d, h1, h2 => onAll4 d h1 h2
  | 5, _, d, h1, h2 => onAll5 d h1 h2
  | 6, _, d, h1, h2 => onAll6 d h1 h2
  | 7, _, d, h1, h2 => onAll7 d h1 h2
  | 8, _, d, h1, h2 => onAll8 d h1 h2
  | 9, _, d, h1, h2 => onAll9 d h1 h2
  | 10, _, d, h1, h2 => onAll10 d h1 h2
  | 11, _, d, h1, h2 => onAll11 d h1 h2
  | 12, _, d, h1, h2 => onAll12 d h1 h2
  | 13, _, d, h1, h2 => onAll13 d h1 h2
  | 14, _, d, h1, h2 => onAll14 d h1 h2
  | 15, _, d, h1, h2 => onAll15 d h1 h2
  | 16, _, d, h1, h2 => onAll16 d h1 h2
  | 17, _, d, h1, h2 => onAll17 d h1 h2
  | 18, _, d, h1, h2 => onAll18 d h1 h2
  | 19, _, d, h1, h2 => onAll19 d h1 h2
  | 20, _, d, h1, h2 => onAll20 d h1 h2
  | 21, _, d, h1, h2 => onAll21 d h1 h2
  | 22, _, d, h1, h2 => onAll22 d h1 h2
  | 23, _, d, h1, h2 => onAll23 d h1 h2
  | 24, _, d, h1, h2 => onAll24 d h1 h2
  | 25, _, d, h1, h2 => onAll25 d h1 h2
  | 26, _, d, h1, h2 => onAll26 d h1 h2
  | 27, _, d, h1, h2 => onAll27 d h1 h2
  | 28, _, d, h1, h2 => onAll28 d h1 h2
  | 29, _, d, h1, h2 => onAll29 d h1 h2
  | 30, _, d, h1, h2 => onAll30 d h1 h2
  | n + 31, h, d, _, _ => absurd h (by omega)
theorem parseDeep_walk (a b : Int) (w : World) : Calls Tryz.prog 3 #[.int .i64 a, .int .i64 b] w fun e w' => e = .returned (.bool true) ∧ Below w.heap.size w w' := by
  obtain ⟨k, hk, hc⟩ := within5 a 30 (by decide) (by decide)
  obtain ⟨m, hm, hd⟩ := within5 b 30 (by decide) (by decide)
  have hX : ExtOk Tryz.prog (gam a b (k + 1) (m + 1)) (XN (k + 1)) := orX_ok (rowsU_ok (by omega) (by omega) (by omega) (by omega) hc hd) (memoP_ok (tau_ok (by omega) (by omega) (by omega) (by omega)) (sel_ok (nOk _ (by omega) (by omega))))
  have v1 : ∀ ρ, VR ρ (gam a b (k + 1) (m + 1)) (.sym (199 + (k + 1))) (.int .i64 a) := fun ρ => by
    have e : gam a b (k + 1) (m + 1) (199 + (k + 1)) = .int .i64 a := by unfold gam; rw [if_pos rfl]
    rw [← e]
    exact .sym _ (by rw [e]; rfl) (fun _ => ⟨a, e⟩) (fun h => absurd h (by omega)) (fun h => absurd h (by omega)) (fun h => absurd h (by omega))
  by_cases hnd : k ≤ m
  · have e : gam a b (k + 1) (m + 1) 400 = .int .i64 b := by
      unfold gam
      rw [if_neg (by omega), if_neg (by omega), if_pos rfl, if_pos (by omega)]
    have v2 : ∀ ρ, VR ρ (gam a b (k + 1) (m + 1)) (.sym 400) (.int .i64 b) := fun ρ => by
      rw [← e]
      exact .sym _ (by rw [e]; rfl) (fun _ => ⟨b, e⟩) (fun _ h => absurd h (by omega)) (fun h => absurd h (by omega)) (fun h => absurd h (by omega))
    exact law_of_run (args' := [.int .i64 a, .int .i64 b]) follows hX (syAll (k + 1) (by omega) (by omega)) (.cons _ _ _ _ (v1 _) (.cons _ _ _ _ (v2 _) .nil)) w
  · have e : gam a b (k + 1) (m + 1) (99 + (m + 1)) = .int .i64 b := by
      unfold gam
      rw [if_neg (by omega), if_pos rfl]
    have v2 : ∀ ρ, VR ρ (gam a b (k + 1) (m + 1)) (.sym (99 + (m + 1))) (.int .i64 b) := fun ρ => by
      rw [← e]
      exact .sym _ (by rw [e]; rfl) (fun _ => ⟨b, e⟩) (fun h => absurd h (by omega)) (fun h => absurd h (by omega)) (fun h => absurd h (by omega))
    exact law_of_run (args' := [.int .i64 a, .int .i64 b]) follows hX (onAll (k + 1) (by omega) (m + 1) (by omega) (by omega)) (.cons _ _ _ _ (v1 _) (.cons _ _ _ _ (v2 _) .nil)) w
end Go.Proofs.YtphdmkiedglfmaaGreat
