/- A part of the proof: an interpreter of the program, shown right once, and the laws that it computes. -/
import Derived.Test.YtjecgapnlnmloaaS1
import Derived.Test.YtjecgapnlnmloaaLay
import Derived.Test.YtjecgapnlnmloaaPl2
import Derived.Shelf.SlSortCmp.NoneTotal
import Derived.Shelf.SlicesE.Clone
import Derived.Shelf.SlicesG.Cmp
import Derived.Deep.RegionHeld3
namespace Go.Proofs.Ytjecgapnlnmloaa
open Go.RowKit Go.Shelf Go.Lib Go.Sort Go.SpanLaw
set_option linter.unusedVariables false
theorem cmp45 (x y : Int) (w : World) : Calls Try.prog 45 #[.int .i64 x, .int .i64 y] w fun e w' => e = .returned (.int .i64 (Lib.compareInt x y)) ∧ w' = w :=
  AnyG.cmp_Compare_int Try.cmpInt x y w
/-- The first that is not zero. -/
def orI (p q : Int) : Int := if p = 0 then q else p
theorem or44 (p q : Int) (b : Nat) (w : World) (hp : w.cell? ⟨b, 0, none⟩ = some (.int .i64 p)) (hq : w.cell? ⟨b, 1, none⟩ = some (.int .i64 q)) : Calls Try.prog 44 #[.slice (some ⟨b, 0, none⟩) 2 2] w fun e w' => e = .returned (.int .i64 (orI p q)) ∧ w' = w := by
  unfold orI
  by_cases h : p = 0
  · subst h
    by_cases h2 : q = 0
    · subst h2
      go_enter Try.func44, Try.ntmps44
      go_wp2
      refine wp_loop_rounds 3 ?_
      rw [rounds_succ]
      go_wp2
      rw [rounds_succ]
      go_wp2
      rw [rounds_succ]
      go_wp2
      go_ret
      exact ⟨by simp, rfl⟩
    · go_enter Try.func44, Try.ntmps44
      go_wp2
      refine wp_loop_rounds 2 ?_
      rw [rounds_succ]
      go_wp2
      rw [rounds_succ]
      go_wp2
      go_ret
      exact ⟨by simp, rfl⟩
  · go_enter Try.func44, Try.ntmps44
    go_wp2
    refine wp_loop_rounds 1 ?_
    rw [rounds_succ]
    go_wp2
    go_ret
    exact ⟨by simp, rfl⟩
theorem ta23 (v : Value) (w : World) : (Instr.typeAssert (.iface 23 v) 20 23 true).run Try.prog w = .ok (.tuple #[v, .bool true]) w := by kernel_rfl
theorem new_cell (w : World) (cs : Array Value) (e B j : Nat) (v : Value) (hB : B = w.heap.size) (hv : cs[j]? = some v) : (w.alloc (.cells cs e)).cell? ⟨B, j, none⟩ = some v := by
  subst hB
  have h : (w.alloc (.cells cs e)).heap[w.heap.size]? = some (.cells cs e) := by
    show (w.heap.push _)[w.heap.size]? = _
    exact Array.getElem?_push_size
  unfold World.cell?
  simp only [h]
  exact hv
set_option maxRecDepth 100000 in
set_option maxHeartbeats 600000 in
theorem order38 (a b c d : Int) (w : World) : Calls Try.prog 38 #[.iface 23 (sp a b), .iface 23 (sp c d)] w fun e w' => e = .returned (.int .i64 (orI (Lib.compareInt a c) (Lib.compareInt b d))) ∧ ∃ q os, w' = grow (w.drewN q) os := by
  have hta := ta23
  by_cases h1 : a = c
  · by_cases h2 : b = d
    · subst h1 h2
      have e0 : orI (Lib.compareInt a a) (Lib.compareInt b b) = 0 := by simp [orI, Lib.compareInt]
      rw [e0]
      go_enter Try.func38, Try.ntmps38
      go_wp2
      go_ret
      exact ⟨rfl, 0, _, by rw [alloc_eq_grow, alloc_eq_grow, grow_grow]; rfl⟩
    · have cA := fun w => cmp45 a c w
      have cB := fun w => cmp45 b d w
      generalize Lib.compareInt a c = p at cA ⊢
      generalize Lib.compareInt b d = q at cB ⊢
      subst h1
      go_enter Try.func38, Try.ntmps38
      go_wp2
      go_region_held3 (fun v => v.cell? ⟨w.heap.size, 0, none⟩ = some (.int .i64 a) ∧ v.cell? ⟨w.heap.size, 1, none⟩ = some (.int .i64 b) ∧ v.cell? ⟨w.heap.size + 1, 0, none⟩ = some (.int .i64 a) ∧ v.cell? ⟨w.heap.size + 1, 1, none⟩ = some (.int .i64 d)) (go_keep) (first | (go_at_call 45; with_reducible refine (cA _).mono ?_; rintro e w' ⟨rfl, rfl⟩) | (go_at_call 45; with_reducible refine (cB _).mono ?_; rintro e w' ⟨rfl, rfl⟩) | (go_at_call 44; refine (or44 p q _ _ (by exact new_cell _ _ _ _ _ _ (by simp) rfl) (by exact new_cell _ _ _ _ _ _ (by simp) rfl)).mono ?_; rintro e w' ⟨rfl, rfl⟩))
      all_goals go_wp2
      all_goals go_ret
      all_goals exact ⟨rfl, 1, _, by rw [alloc_eq_grow, alloc_eq_grow, alloc_eq_grow, grow_grow, grow_grow, drew_grow]; rfl⟩
  · have cA := fun w => cmp45 a c w
    have cB := fun w => cmp45 b d w
    generalize Lib.compareInt a c = p at cA ⊢
    generalize Lib.compareInt b d = q at cB ⊢
    go_enter Try.func38, Try.ntmps38
    go_wp2
    go_region_held3 (fun v => v.cell? ⟨w.heap.size, 0, none⟩ = some (.int .i64 a) ∧ v.cell? ⟨w.heap.size, 1, none⟩ = some (.int .i64 b) ∧ v.cell? ⟨w.heap.size + 1, 0, none⟩ = some (.int .i64 c) ∧ v.cell? ⟨w.heap.size + 1, 1, none⟩ = some (.int .i64 d)) (go_keep) (first | (go_at_call 45; with_reducible refine (cA _).mono ?_; rintro e w' ⟨rfl, rfl⟩) | (go_at_call 45; with_reducible refine (cB _).mono ?_; rintro e w' ⟨rfl, rfl⟩) | (go_at_call 44; refine (or44 p q _ _ (by exact new_cell _ _ _ _ _ _ (by simp) rfl) (by exact new_cell _ _ _ _ _ _ (by simp) rfl)).mono ?_; rintro e w' ⟨rfl, rfl⟩))
    all_goals go_wp2
    all_goals go_ret
    all_goals exact ⟨rfl, 1, _, by rw [alloc_eq_grow, alloc_eq_grow, alloc_eq_grow, grow_grow, grow_grow, drew_grow]; rfl⟩
/-- How two stand. -/
def cfS (x y : Sp) : Int := orI (Lib.compareInt x.1 y.1) (Lib.compareInt x.2 y.2)
def encS (x : Sp) : List Value := [.int .i64 x.1, .int .i64 x.2]
theorem dgN (w : World) (os : Array Obj) (q : Nat) : (grow w os).drewN q = grow (w.drewN q) os := by
  induction q with
  | zero => rfl
  | succ q ih => first | rfl | (simp only [World.drewN, ih]; rfl)
set_option maxRecDepth 100000 in
theorem closure37 (x y : Sp) (w : World) : Calls Try.prog 37 #[sp x.1 x.2, sp y.1 y.2] w fun e w' => e = .returned (.int .i64 (cfS x y)) ∧ ∃ q os, w' = grow (w.drewN q) os := by
  have hcon := fun w => order38 x.1 x.2 y.1 y.2 w
  unfold cfS
  generalize orI (Lib.compareInt x.1 y.1) (Lib.compareInt x.2 y.2) = r at hcon ⊢
  go_enter Try.func37, Try.ntmps37
  go_wp2_with (go_at_call 38; with_reducible refine (hcon _).mono ?_; rintro e w' ⟨rfl, q, os, rfl⟩)
  go_ret
  exact ⟨rfl, q, _, by rw [alloc_eq_grow, alloc_eq_grow, grow_grow, dgN, grow_grow]⟩
theorem cmpLays37 (blk off size : Nat) (w : World) : CmpLays Try.prog 37 #[] encS 2 cfS blk off size w :=
  fun _ _ _ _ x y => closure37 x y _
theorem ltOf_cfS (x y : Sp) : ltOf cfS x y = Go.SpanLaw.ahead x y := by
  unfold ltOf cfS orI Lib.compareInt Go.SpanLaw.ahead
  by_cases h1 : x.1 < y.1
  · simp [h1]
  · by_cases h2 : y.1 < x.1
    · have : ¬ x.1 = y.1 := by omega
      simp [h1, h2, this]
    · have e : x.1 = y.1 := by omega
      by_cases h3 : x.2 < y.2
      · simp [e, h3]
      · by_cases h4 : y.2 < x.2 <;> simp [e, h3, h4]
theorem swoS : SWO (ltOf cfS) where
  irrefl x := by rw [ltOf_cfS]; simpa using ahead_irrefl x
  trans x y z h1 h2 := by rw [ltOf_cfS] at *; exact ahead_trans h1 h2
  ntrans x y z h1 h2 := by
    rw [ltOf_cfS] at *
    simp [Go.SpanLaw.ahead] at *
    omega
end Go.Proofs.Ytjecgapnlnmloaa
