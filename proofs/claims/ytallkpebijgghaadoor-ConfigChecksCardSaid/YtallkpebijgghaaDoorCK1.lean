/- A part of the proof: an interpreter of the program, shown right once, and the laws that it computes. -/
import Derived.Test.YtallkpebijgghaaDoorProg
import Derived.WalkKit
import Derived.ProofKit
import Derived.Below
import Derived.KernelRfl
namespace Go.Proofs.YtallkpebijgghaaDoor
open Go.RowKit
set_option linter.unusedVariables false
theorem in13 (n l m : Int) (w : World) : Calls Tryd.prog 13 #[.int .i64 n, .int .i64 l, .int .i64 m] w fun e w' => e = .returned (.bool (decide (l ≤ n) && decide (n ≤ m))) ∧ w' = w := by
  by_cases h : l ≤ n
  · go_enter Tryd.func13, Tryd.ntmps13
    go_wp2
    go_ret
    exact ⟨by simp [h], rfl⟩
  · go_enter Tryd.func13, Tryd.ntmps13
    go_wp2
    go_ret
    exact ⟨by rw [show decide (l ≤ n) = false from decide_eq_false (by omega)]; rfl, rfl⟩
abbrev cfgV (b0 b1 b2 b3 b4 b5 b6 b7 b8 b9 : Bool) (x y z u : Int) : Value := .agg #[.bool b0, .bool b1, .bool b2, .bool b3, .bool b4, .bool b5, .bool b6, .bool b7, .bool b8, .bool b9, .int .i64 x, .int .i64 y, .int .i64 z, .int .i64 u]
set_option maxRecDepth 100000 in
set_option maxHeartbeats 2000000 in
theorem ref7a (b0 b1 b2 b3 b4 b5 b6 b7 b8 b9 : Bool) (x y z u : Int) (w : World) (h : ¬ (1 ≤ x ∧ x ≤ 500)) : Calls Tryd.prog 7 #[cfgV b0 b1 b2 b3 b4 b5 b6 b7 b8 b9 x y z u] w fun e w' => e = .returned (.int .i64 1) ∧ Below w.heap.size w w' := by
  by_cases h1 : x < 1
  · go_enter Tryd.func7, Tryd.ntmps7
    go_wp2
    go_ret
    exact ⟨rfl, (Below.refl _ _).alloc (Nat.le_refl _) _⟩
  · have h2 : 500 < x := by omega
    go_enter Tryd.func7, Tryd.ntmps7
    go_wp2
    go_ret
    exact ⟨rfl, (Below.refl _ _).alloc (Nat.le_refl _) _⟩
set_option maxRecDepth 100000 in
set_option maxHeartbeats 2000000 in
theorem ref7b (b0 b1 b2 b3 b4 b5 b6 b7 b8 b9 : Bool) (x y z u : Int) (w : World) (hx : 1 ≤ x ∧ x ≤ 500) (h : ¬ (1 ≤ y ∧ y ≤ 10)) : Calls Tryd.prog 7 #[cfgV b0 b1 b2 b3 b4 b5 b6 b7 b8 b9 x y z u] w fun e w' => e = .returned (.int .i64 1) ∧ Below w.heap.size w w' := by
  have px : ¬ x < 1 := by omega
  have qx : ¬ 500 < x := by omega
  by_cases h1 : y < 1
  · go_enter Tryd.func7, Tryd.ntmps7
    go_wp2
    go_ret
    exact ⟨rfl, (Below.refl _ _).alloc (Nat.le_refl _) _⟩
  · have h2 : 10 < y := by omega
    go_enter Tryd.func7, Tryd.ntmps7
    go_wp2
    go_ret
    exact ⟨rfl, (Below.refl _ _).alloc (Nat.le_refl _) _⟩
set_option maxRecDepth 100000 in
set_option maxHeartbeats 2000000 in
theorem ref7c (b0 b1 b2 b3 b4 b5 b6 b7 b8 b9 : Bool) (x y z u : Int) (w : World) (hx : 1 ≤ x ∧ x ≤ 500) (hy : 1 ≤ y ∧ y ≤ 10) (h : ¬ (0 ≤ z ∧ z ≤ 20)) : Calls Tryd.prog 7 #[cfgV b0 b1 b2 b3 b4 b5 b6 b7 b8 b9 x y z u] w fun e w' => e = .returned (.int .i64 1) ∧ Below w.heap.size w w' := by
  have px : ¬ x < 1 := by omega
  have qx : ¬ 500 < x := by omega
  have py : ¬ y < 1 := by omega
  have qy : ¬ 10 < y := by omega
  by_cases h1 : z < 0
  · go_enter Tryd.func7, Tryd.ntmps7
    go_wp2
    go_ret
    exact ⟨rfl, (Below.refl _ _).alloc (Nat.le_refl _) _⟩
  · have h2 : 20 < z := by omega
    go_enter Tryd.func7, Tryd.ntmps7
    go_wp2
    go_ret
    exact ⟨rfl, (Below.refl _ _).alloc (Nat.le_refl _) _⟩
set_option maxRecDepth 100000 in
set_option maxHeartbeats 2000000 in
theorem ref7d (b0 b1 b2 b3 b4 b5 b6 b7 b8 b9 : Bool) (x y z u : Int) (w : World) (hx : 1 ≤ x ∧ x ≤ 500) (hy : 1 ≤ y ∧ y ≤ 10) (hz : 0 ≤ z ∧ z ≤ 20) (h : ¬ (1 ≤ u ∧ u ≤ 50)) : Calls Tryd.prog 7 #[cfgV b0 b1 b2 b3 b4 b5 b6 b7 b8 b9 x y z u] w fun e w' => e = .returned (.int .i64 1) ∧ Below w.heap.size w w' := by
  have px : ¬ x < 1 := by omega
  have qx : ¬ 500 < x := by omega
  have py : ¬ y < 1 := by omega
  have qy : ¬ 10 < y := by omega
  have pz : ¬ z < 0 := by omega
  have qz : ¬ 20 < z := by omega
  by_cases h1 : u < 1
  · go_enter Tryd.func7, Tryd.ntmps7
    go_wp2
    go_ret
    exact ⟨rfl, (Below.refl _ _).alloc (Nat.le_refl _) _⟩
  · have h2 : 50 < u := by omega
    go_enter Tryd.func7, Tryd.ntmps7
    go_wp2
    go_ret
    exact ⟨rfl, (Below.refl _ _).alloc (Nat.le_refl _) _⟩
set_option maxRecDepth 100000 in
set_option maxHeartbeats 2000000 in
theorem ref7e (b0 b1 b2 b3 b4 b5 b6 b7 b8 b9 : Bool) (x y z u : Int) (w : World) (hx : 1 ≤ x ∧ x ≤ 500) (hy : 1 ≤ y ∧ y ≤ 10) (hz : 0 ≤ z ∧ z ≤ 20) (hu : 1 ≤ u ∧ u ≤ 50) : Calls Tryd.prog 7 #[cfgV b0 b1 b2 b3 b4 b5 b6 b7 b8 b9 x y z u] w fun e w' => e = .returned (.int .i64 0) ∧ Below w.heap.size w w' := by
  have px : ¬ x < 1 := by omega
  have qx : ¬ 500 < x := by omega
  have py : ¬ y < 1 := by omega
  have qy : ¬ 10 < y := by omega
  have pz : ¬ z < 0 := by omega
  have qz : ¬ 20 < z := by omega
  have pu : ¬ u < 1 := by omega
  have qu : ¬ 50 < u := by omega
  go_enter Tryd.func7, Tryd.ntmps7
  go_wp2
  go_ret
  exact ⟨rfl, (Below.refl _ _).alloc (Nat.le_refl _) _⟩
end Go.Proofs.YtallkpebijgghaaDoor
