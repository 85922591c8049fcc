/- A part of the proof: an interpreter of the program, shown right once, and the laws that it computes. -/
import Derived.Test.YtjecgapnlnmloaaDF
namespace Go.Proofs.Ytjecgapnlnmloaa
open Go.RowKit Go.Shelf Go.Lib Go.Sort Go.DiagLaw
set_option linter.unusedVariables false
namespace D
theorem step_ne {L : List Dg} {s : Dg} {k : Nat} (h : ∀ j, j < k → L.getD j (0, 0, 0) ≠ s) (hk : L.getD k (0, 0, 0) ≠ s) : ∀ j, j < k + 1 → L.getD j (0, 0, 0) ≠ s := by
  intro j hj
  by_cases e : j = k
  · subst e; exact hk
  · exact h j (by omega)
set_option maxRecDepth 100000 in
set_option maxHeartbeats 600000 in
theorem has23 (a : Option Addr) (L : List Dg) (n c : Nat) (hLn : L.length = n) (hn : n ≤ 60) (s : Dg) (hs : s ∈ L) (w : World) (hL : DRow w a L) : Calls Try.prog 23 #[.slice a n c, dv s] w fun e w' => e = .returned (.bool true) ∧ Below w.heap.size w w' := by
  obtain ⟨s0, s1, s2⟩ := s
  have hW : Below w.heap.size w (w.alloc (.cells #[.int .i64 s0, .int .i64 s1, .int .i64 s2] 34)) := (Below.refl _ w).alloc (Nat.le_refl _) _
  have HL : Aside (DRow w a L ∧ L.length = n ∧ (s0, s1, s2) ∈ L) := ⟨hL, hLn, hs⟩
  clear hL hLn hs
  go_enter Try.func23, Try.ntmps23
  go_wp2
  go_loopw [5] (fun i wr => ∃ k q : Nat, i = .int .i64 k ∧ k ≤ n ∧ wr = (w.alloc (.cells #[.int .i64 s0, .int .i64 s1, .int .i64 s2] 34)).drewN q ∧ ∀ j, j < k → L.getD j (0, 0, 0) ≠ (s0, s1, s2)) (fun i _ => n - (intOf i).toNat)
  case atStart => exact ⟨0, 0, rfl, Nat.zero_le _, rfl, fun j hj => absurd hj (Nat.not_lt_zero j)⟩
  case round =>
    obtain ⟨k, q, rfl, hk, rfl, hall⟩ := hrel
    have A : Aside (∀ j, j < k → L.getD j (0, 0, 0) ≠ (s0, s1, s2)) := hall
    clear hall
    by_cases hlt : k < n
    · obtain ⟨b, o, ha, hb, c0, c1, c2⟩ := (HL.out.1.below hW) k (by rw [HL.out.2.1]; exact hlt)
      subst ha
      have hlt' : (k : Int) < n := by omega
      generalize hx : L.getD k (0, 0, 0) = x at c0 c1 c2
      obtain ⟨x0, x1, x2⟩ := x
      have X : Aside (L.getD k (0, 0, 0) = (x0, x1, x2)) := hx
      clear hx
      dsimp only at c0 c1 c2
      by_cases h0 : x0 = s0
      · by_cases h1 : x1 = s1
        · by_cases h2 : x2 = s2
          · subst h0 h1 h2
            go_wp2_with fail
            go_region
            go_wp2
            go_ret
            exact ⟨rfl, below_drewN hW _⟩
          · go_wp2_with fail
            go_region
            go_wp2
            go_roundw
            case rel => exact ⟨k + 1, q + 1, by simp, by omega, rfl, step_ne A.out (by rw [X.out]; intro e; cases e; exact h2 rfl)⟩
            case measure => simp only [intOf]; omega
        · go_wp2_with fail
          go_region
          go_wp2
          go_roundw
          case rel => exact ⟨k + 1, q + 1, by simp, by omega, rfl, step_ne A.out (by rw [X.out]; intro e; cases e; exact h1 rfl)⟩
          case measure => simp only [intOf]; omega
      · go_wp2_with fail
        go_region
        go_wp2
        go_roundw
        case rel => exact ⟨k + 1, q + 1, by simp, by omega, rfl, step_ne A.out (by rw [X.out]; intro e; cases e; exact h0 rfl)⟩
        case measure => simp only [intOf]; omega
    · exfalso
      have hk' : k = n := by omega
      subst hk'
      obtain ⟨j, hj, he⟩ := List.mem_iff_getElem.1 HL.out.2.2
      exact A.out j (by rw [← HL.out.2.1]; exact hj) (by rw [DiagLaw.getD_lt hj]; exact he)
end D
end Go.Proofs.Ytjecgapnlnmloaa
