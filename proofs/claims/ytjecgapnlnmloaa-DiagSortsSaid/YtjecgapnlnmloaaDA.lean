/- A part of the proof: an interpreter of the program, shown right once, and the laws that it computes. -/
import Derived.Test.YtjecgapnlnmloaaProg
import Derived.WalkKit
import Derived.ProofKit
import Derived.Below
import Derived.KernelRfl
import Derived.Test.YtjecgapnlnmloaaLayD
import Derived.Test.YtjecgapnlnmloaaDP
import Derived.Shelf.SlSortCmp.NoneTotal
import Derived.Shelf.SlicesE.Clone
import Derived.Shelf.SlicesG.Cmp
import Derived.Deep.RegionHeld3
namespace Go.Proofs.Ytjecgapnlnmloaa
open Go.RowKit Go.Shelf Go.Lib Go.Sort Go.DiagLaw
set_option linter.unusedVariables false
abbrev dg (c f t : Int) : Value := .agg #[.int .i64 c, .int .i64 f, .int .i64 t]
namespace D
theorem cmp45 (x y : Int) (w : World) : Calls Try.prog 45 #[.int .i64 x, .int .i64 y] w fun e w' => e = .returned (.int .i64 (Lib.compareInt x y)) ∧ w' = w :=
  AnyG.cmp_Compare_int Try.cmpIntD x y w
/-- The first that is not zero. -/
def orI (p q r : Int) : Int := if p = 0 then (if q = 0 then r else q) else p
theorem or44 (p q r : Int) (b : Nat) (w : World) (hp : w.cell? ⟨b, 0, none⟩ = some (.int .i64 p)) (hq : w.cell? ⟨b, 1, none⟩ = some (.int .i64 q)) (hr : w.cell? ⟨b, 2, none⟩ = some (.int .i64 r)) : Calls Try.prog 44 #[.slice (some ⟨b, 0, none⟩) 3 3] w fun e w' => e = .returned (.int .i64 (orI p q r)) ∧ w' = w := by
  unfold orI
  by_cases h : p = 0
  · subst h
    by_cases h2 : q = 0
    · subst h2
      by_cases h3 : r = 0
      · subst h3
        go_enter Try.func44, Try.ntmps44
        go_wp2
        refine wp_loop_rounds 4 ?_
        rw [rounds_succ]
        go_wp2
        rw [rounds_succ]
        go_wp2
        rw [rounds_succ]
        go_wp2
        rw [rounds_succ]
        go_wp2
        go_ret
        exact ⟨by simp, rfl⟩
      · go_enter Try.func44, Try.ntmps44
        go_wp2
        refine wp_loop_rounds 3 ?_
        rw [rounds_succ]
        go_wp2
        rw [rounds_succ]
        go_wp2
        rw [rounds_succ]
        go_wp2
        go_ret
        exact ⟨by simp, rfl⟩
    · go_enter Try.func44, Try.ntmps44
      go_wp2
      refine wp_loop_rounds 2 ?_
      rw [rounds_succ]
      go_wp2
      rw [rounds_succ]
      go_wp2
      go_ret
      exact ⟨by simp, rfl⟩
  · go_enter Try.func44, Try.ntmps44
    go_wp2
    refine wp_loop_rounds 1 ?_
    rw [rounds_succ]
    go_wp2
    go_ret
    exact ⟨by simp, rfl⟩
theorem ta34 (v : Value) (w : World) : (Instr.typeAssert (.iface 34 v) 20 34 true).run Try.prog w = .ok (.tuple #[v, .bool true]) w := by kernel_rfl
theorem new_cell (w : World) (cs : Array Value) (e B j : Nat) (v : Value) (hB : B = w.heap.size) (hv : cs[j]? = some v) : (w.alloc (.cells cs e)).cell? ⟨B, j, none⟩ = some v := by
  subst hB
  have h : (w.alloc (.cells cs e)).heap[w.heap.size]? = some (.cells cs e) := by
    show (w.heap.push _)[w.heap.size]? = _
    exact Array.getElem?_push_size
  unfold World.cell?
  simp only [h]
  exact hv
set_option maxRecDepth 100000 in
set_option maxHeartbeats 600000 in
theorem order32 (a0 a1 a2 b0 b1 b2 : Int) (w : World) : Calls Try.prog 32 #[.iface 34 (dg a0 a1 a2), .iface 34 (dg b0 b1 b2)] w fun e w' => e = .returned (.int .i64 (orI (Lib.compareInt a1 b1) (Lib.compareInt a2 b2) (Lib.compareInt a0 b0))) ∧ ∃ q os, w' = grow (w.drewN q) os := by
  have hta := ta34
  have cA := fun w => cmp45 a1 b1 w
  have cB := fun w => cmp45 a2 b2 w
  have cC := fun w => cmp45 a0 b0 w
  generalize Lib.compareInt a1 b1 = p at cA ⊢
  generalize Lib.compareInt a2 b2 = q at cB ⊢
  generalize Lib.compareInt a0 b0 = r at cC ⊢
  go_enter Try.func32, Try.ntmps32
  go_wp2
  go_region_held3 (fun v => v.cell? ⟨w.heap.size, 0, none⟩ = some (.int .i64 a0) ∧ v.cell? ⟨w.heap.size, 1, none⟩ = some (.int .i64 a1) ∧ v.cell? ⟨w.heap.size, 2, none⟩ = some (.int .i64 a2) ∧ v.cell? ⟨w.heap.size + 1, 0, none⟩ = some (.int .i64 b0) ∧ v.cell? ⟨w.heap.size + 1, 1, none⟩ = some (.int .i64 b1) ∧ v.cell? ⟨w.heap.size + 1, 2, none⟩ = some (.int .i64 b2)) (go_keep) (first | (go_at_call 45; with_reducible refine (cA _).mono ?_; rintro e w' ⟨rfl, rfl⟩) | (go_at_call 45; with_reducible refine (cB _).mono ?_; rintro e w' ⟨rfl, rfl⟩) | (go_at_call 45; with_reducible refine (cC _).mono ?_; rintro e w' ⟨rfl, rfl⟩) | (go_at_call 44; refine (or44 p q r _ _ (by exact new_cell _ _ _ _ _ _ (by simp) rfl) (by exact new_cell _ _ _ _ _ _ (by simp) rfl) (by exact new_cell _ _ _ _ _ _ (by simp) rfl)).mono ?_; rintro e w' ⟨rfl, rfl⟩))
  all_goals go_wp2
  all_goals go_ret
  all_goals exact ⟨rfl, 1, _, by rw [alloc_eq_grow, alloc_eq_grow, alloc_eq_grow, grow_grow, grow_grow, drew_grow]; rfl⟩
end D
end Go.Proofs.Ytjecgapnlnmloaa
