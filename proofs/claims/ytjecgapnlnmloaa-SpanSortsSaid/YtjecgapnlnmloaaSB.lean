/- A part of the proof: an interpreter of the program, shown right once, and the laws that it computes. -/
import Derived.Test.YtjecgapnlnmloaaSA
import Derived.BigQuiet
import Derived.Deep.QuietTactic
namespace Go.Proofs.Ytjecgapnlnmloaa
open Go.RowKit Go.Shelf Go.Lib Go.Sort Go.SpanLaw
set_option linter.unusedVariables false
/-- A slice's cells are spans. -/
def SRow (w : World) (a : Option Addr) (L : List Sp) : Prop := ∀ i, i < L.length → ∃ b o, a = some ⟨b, o, none⟩ ∧ b < w.heap.size ∧ w.cell? ⟨b, o + i * 2, none⟩ = some (.int .i64 (L.getD i (0, 0)).1) ∧ w.cell? ⟨b, o + i * 2 + 1, none⟩ = some (.int .i64 (L.getD i (0, 0)).2)
theorem SRow.below {w W : World} {a : Option Addr} {L : List Sp} (h : SRow w a L) (hB : Below w.heap.size w W) : SRow W a L := fun i hi => by
  obtain ⟨b, o, h1, h2, h3, h4⟩ := h i hi
  exact ⟨b, o, h1, Nat.lt_of_lt_of_le h2 hB.size, (hB.cell (p := ⟨b, o + i * 2, none⟩) h2).trans h3, (hB.cell (p := ⟨b, o + i * 2 + 1, none⟩) h2).trans h4⟩
theorem getD_lt {L : List Sp} {k : Nat} (hk : k < L.length) : L.getD k (0, 0) = L[k] := by simp [List.getD, hk]
theorem below_drewN {B : Nat} {a w : World} (h : Below B a w) : ∀ q, Below B a (w.drewN q)
  | 0 => h
  | q + 1 => (below_drewN h q).drew
theorem hit_any {L : List Sp} {s : Sp} {k : Nat} (h : L.getD k (0, 0) = s) (hk : k < L.length) : (L.any fun x => decide (x = s)) = true := by
  rw [List.any_eq_true]
  refine ⟨s, ?_, by simp⟩
  rw [← h, getD_lt hk]
  exact List.getElem_mem hk
theorem none_any {L : List Sp} {s : Sp} (h : ∀ j, j < L.length → L.getD j (0, 0) ≠ s) : (L.any fun x => decide (x = s)) = false := by
  rw [List.any_eq_false]
  intro x hx
  obtain ⟨j, hj, rfl⟩ := List.mem_iff_getElem.1 hx
  have := h j hj
  rw [getD_lt hj] at this
  simpa using this
theorem step_ne {L : List Sp} {s : Sp} {k : Nat} (h : ∀ j, j < k → L.getD j (0, 0) ≠ s) (hk : L.getD k (0, 0) ≠ s) : ∀ j, j < k + 1 → L.getD j (0, 0) ≠ s := by
  intro j hj
  by_cases e : j = k
  · subst e; exact hk
  · exact h j (by omega)
set_option maxRecDepth 100000 in
theorem has26 (a : Option Addr) (L : List Sp) (c : Nat) (s : Sp) (w : World) (hL : SRow w a L) (hn : L.length ≤ 40) : Calls Try.prog 26 #[.slice a L.length c, sp s.1 s.2] w fun e w' => e = .returned (.bool (L.any fun x => decide (x = s))) ∧ ∃ q os, w' = grow (w.drewN q) os := by
  obtain ⟨s1, s2⟩ := s
  have hW : Below w.heap.size w (w.alloc (.cells #[.int .i64 s1, .int .i64 s2] 23)) := (Below.refl _ w).alloc (Nat.le_refl _) _
  go_enter Try.func26, Try.ntmps26
  go_wp2
  go_loopw [5] (fun i wr => ∃ k q : Nat, i = .int .i64 k ∧ k ≤ L.length ∧ wr = (w.alloc (.cells #[.int .i64 s1, .int .i64 s2] 23)).drewN q ∧ ∀ j, j < k → L.getD j (0, 0) ≠ (s1, s2)) (fun i _ => L.length - (intOf i).toNat)
  case atStart => exact ⟨0, 0, rfl, Nat.zero_le _, rfl, fun j hj => absurd hj (Nat.not_lt_zero j)⟩
  case round =>
    obtain ⟨k, q, rfl, hk, rfl, hall⟩ := hrel
    have A : Aside (∀ j, j < k → L.getD j (0, 0) ≠ (s1, s2)) := hall
    clear hall
    by_cases hlt : k < L.length
    · obtain ⟨b, o, rfl, hb, c1, c2⟩ := (hL.below hW) k hlt
      have B : Aside (SRow w (some ⟨b, o, none⟩) L) := hL
      clear hL
      have hlt' : (k : Int) < L.length := by omega
      generalize hx : L.getD k (0, 0) = x at c1 c2
      obtain ⟨x1, x2⟩ := x
      have X : Aside (L.getD k (0, 0) = (x1, x2)) := hx
      clear hx
      dsimp only at c1 c2
      by_cases h1 : x1 = s1
      · by_cases h2 : x2 = s2
        · subst h1 h2
          go_wp2_with fail
          go_region
          go_wp2
          go_ret
          refine ⟨?_, _, _, by rw [alloc_eq_grow, dgN]⟩
          rw [hit_any X.out hlt]
          rfl
        · go_wp2_with fail
          go_region
          go_wp2
          go_roundw
          case rel => exact ⟨k + 1, q + 1, by simp, by omega, rfl, step_ne A.out (by rw [X.out]; intro e; cases e; exact h2 rfl)⟩
          case measure => simp only [intOf]; omega
      · go_wp2_with fail
        go_region
        go_wp2
        go_roundw
        case rel => exact ⟨k + 1, q + 1, by simp, by omega, rfl, step_ne A.out (by rw [X.out]; intro e; cases e; exact h1 rfl)⟩
        case measure => simp only [intOf]; omega
    · have hk' : k = L.length := by omega
      subst hk'
      have hlt' : ¬ (L.length : Int) < L.length := by omega
      clear hL
      go_wp2
      go_ret
      refine ⟨?_, _, _, by rw [alloc_eq_grow, dgN]⟩
      rw [none_any A.out]
      rfl
end Go.Proofs.Ytjecgapnlnmloaa
