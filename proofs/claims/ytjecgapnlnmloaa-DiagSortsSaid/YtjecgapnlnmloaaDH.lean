/- A part of the proof: an interpreter of the program, shown right once, and the laws that it computes. -/
import Derived.Test.YtjecgapnlnmloaaDG
import Derived.Deep.RegionHeldLaw
import Derived.Deep.AppendLies
namespace Go.Proofs.Ytjecgapnlnmloaa
open Go.RowKit Go.Shelf Go.Lib Go.Sort Go.DiagLaw
set_option linter.unusedVariables false
namespace D
theorem within29_neg (a n : Int) (w : World) (hn : 0 < n) (hn2 : n ≤ 1000) (ha : a.tmod n < 0) :
    Calls Try.prog 29 #[.int .i64 a, .int .i64 n] w fun e w' => e = .returned (.int .i64 (a.tmod n + n)) ∧ w' = w := by
  have h0 : n ≠ 0 := by omega
  have hw : IntKind.i64.wrap (a.tmod n + n) = a.tmod n + n := by
    have h1 : -n < a.tmod n := Int.lt_tmod_of_pos a hn
    unfold IntKind.wrap
    simp [IntKind.signed, IntKind.bits]
    omega
  go_enter Try.func29, Try.ntmps29
  go_wp2
  go_ret
  exact ⟨by first | rfl | (show Ending.returned (Value.int IntKind.i64 _) = _; rw [hw]), rfl⟩
theorem within29_pos (a n : Int) (w : World) (hn : 0 < n) (ha : ¬ a.tmod n < 0) :
    Calls Try.prog 29 #[.int .i64 a, .int .i64 n] w fun e w' => e = .returned (.int .i64 (a.tmod n)) ∧ w' = w := by
  have h0 : n ≠ 0 := by omega
  go_enter Try.func29, Try.ntmps29
  go_wp2
  go_ret
  exact ⟨rfl, rfl⟩
/-- 'within', as a function. -/
def wi (a n : Int) : Int := if a.tmod n < 0 then a.tmod n + n else a.tmod n
theorem wi_low (a n : Int) (h0 : 0 < n) : 0 ≤ wi a n := by
  have q1 : -n < a.tmod n := Int.lt_tmod_of_pos a h0
  unfold wi
  split <;> omega
theorem wi_high (a n : Int) (h0 : 0 < n) : wi a n < n := by
  have q2 : a.tmod n < n := Int.tmod_lt_of_pos a h0
  unfold wi
  split <;> omega
theorem wi_calls (a n : Int) (h0 : 0 < n) (h1 : n ≤ 1000) (w : World) : Calls Try.prog 29 #[.int .i64 a, .int .i64 n] w fun e w' => e = .returned (.int .i64 (wi a n)) ∧ w' = w := by
  unfold wi
  split
  · exact within29_neg a n w h0 h1 ‹_›
  · exact within29_pos a n w h0 ‹_›
set_option maxRecDepth 100000 in
set_option maxHeartbeats 600000 in
theorem diags20 (a1 a2 : Option Addr) (L : List Dg) (n c1 c2 : Nat) (hLn : L.length = n) (hn : n ≤ 60) (w : World) (h1 : DRow w a1 L) (h2 : DRow w a2 L) : Calls Try.prog 20 #[.slice a1 n c1, .slice a2 n c2] w fun e w' => e = .returned (.bool true) ∧ Below w.heap.size w w' := by
  have H : Aside (DRow w a1 L ∧ DRow w a2 L ∧ L.length = n) := ⟨h1, h2, hLn⟩
  clear h1 h2 hLn
  go_enter Try.func20, Try.ntmps20
  go_wp2
  go_loopw [5] (fun i W => ∃ j q : Nat, i = .int .i64 j ∧ j ≤ n ∧ W = w.drewN q) (fun i _ => n - (intOf i).toNat)
  case atStart => exact ⟨0, 0, rfl, Nat.zero_le _, rfl⟩
  case round =>
    obtain ⟨j, q, rfl, hj, rfl⟩ := hrel
    by_cases hjl : j < n
    · have hjl' : (j : Int) < n := by omega
      obtain ⟨b1, o1, e1, hb1, c0, c1, c2⟩ := H.out.1 j (by rw [H.out.2.2]; exact hjl)
      obtain ⟨b2, o2, e2, hb2, d0, d1, d2⟩ := H.out.2.1 j (by rw [H.out.2.2]; exact hjl)
      subst e1 e2
      generalize L.getD j (0, 0, 0) = u at c0 c1 c2 d0 d1 d2
      obtain ⟨u0, u1, u2⟩ := u
      dsimp only at c0 c1 c2 d0 d1 d2
      go_wp2_with fail
      go_region
      go_wp2
      go_roundw
      case rel => exact ⟨j + 1, q + 1, by simp, by omega, rfl⟩
      case measure => simp only [intOf]; omega
    · have hj' : j = n := by omega
      subst hj'
      have hjl' : ¬ (j : Int) < j := by omega
      go_wp2
      go_ret
      exact ⟨rfl, below_drewN (Below.refl _ _) q⟩
/-- 'good', of one. -/
def gdD (x : Dg) : Dg := (wi x.1 13, wi x.2.1 30, wi x.2.1 30 + wi x.2.2 6)
set_option maxRecDepth 100000 in
set_option maxHeartbeats 800000 in
theorem good19 (a : Option Addr) (L : List Dg) (n c : Nat) (hLn : L.length = n) (w : World) (hL : DRow w a L) : Calls Try.prog 19 #[.slice a n c] w fun e w' => ∃ m a' c' M, m ≤ 40 ∧ M.length = m ∧ e = .returned (.slice a' m c') ∧ DRow w' a' M ∧ Below w.heap.size w w' := by
  obtain ⟨i0, hi, hz0, hz1, hz2⟩ := info_parts info34
  have HL : Aside (DRow w a L ∧ L.length = n) := ⟨hL, hLn⟩
  clear hL hLn
  have mixed : Try.prog.follows .mixedOrders = true := by kernel_rfl
  go_enter Try.func19, Try.ntmps19
  go_wp2
  go_loopw [3, 4] (fun v i wr => ∃ (k : Nat) (M : List Dg), i = .int .i64 k ∧ k ≤ n ∧ k ≤ 40 ∧ M.length = k ∧ wr.ownsRow w.heap.size 34 3 v k (fl M) ∧ (k = 0 → v = .slice none 0 0) ∧ Below w.heap.size w wr) (fun _ i _ => n - (intOf i).toNat)
  case atStart => exact ⟨0, [], rfl, Nat.zero_le _, by decide, rfl, by simpa [fl, flatK] using World.ownsRow_nil w w.heap.size 34 3, fun _ => rfl, Below.refl _ _⟩
  case round =>
    obtain ⟨k, M, rfl, hk, hk4, hM, hown, hnil, hB⟩ := hrel
    by_cases hlt : k < n
    · have hlt' : (k : Int) < n := by omega
      by_cases hl4 : k < 40
      · have hl4' : (k : Int) < 40 := by omega
        obtain ⟨b, o, ha, hbw, c0, c1, c2⟩ := HL.out.1 k (by rw [HL.out.2]; exact hlt)
        subst ha
        have c0 := (hB.cell (p := ⟨b, o + k * 3, none⟩) hbw).trans c0
        have c1 := (hB.cell (p := ⟨b, o + k * 3 + 1, none⟩) hbw).trans c1
        have c2 := (hB.cell (p := ⟨b, o + k * 3 + 2, none⟩) hbw).trans c2
        generalize L.getD k (0, 0, 0) = x at c0 c1 c2
        obtain ⟨x0, x1, x2⟩ := x
        dsimp only at c0 c1 c2
        have cA := fun w => wi_calls x1 30 (by decide) (by decide) w
        have cB := fun w => wi_calls x0 13 (by decide) (by decide) w
        have cC := fun w => wi_calls x2 6 (by decide) (by decide) w
        have l1 := wi_low x1 30 (by decide)
        have u1 := wi_high x1 30 (by decide)
        have l2 := wi_low x2 6 (by decide)
        have u2 := wi_high x2 6 (by decide)
        generalize wi x1 30 = f at cA l1 u1
        generalize wi x2 6 = t at cC l2 u2
        generalize wi x0 13 = d at cB
        have hs := hB.size
        go_wp2_with (go_at_call 29; with_reducible refine (cA _).mono ?_; rintro e w' ⟨rfl, hww⟩; obtain rfl := hww.symm)
        go_region_held_law (fun v => v.cell? ⟨b, o + k * 3, none⟩ = some (.int .i64 x0) ∧ v.cell? ⟨b, o + k * 3 + 2, none⟩ = some (.int .i64 x2)) (go_keep) (first
          | (refine step_append_lies _ rfl (.tmp 22) (.tmp 39) 29 rfl w.heap.size 34 i0 (dg 0 0 0) 3 24 Try.underlying29 hi hz0 hz1 hz2 rfl (by decide) _ _ _ rfl (hown.alloc _) ⟨wr.heap.size, 0, none⟩ 1 1 [.int .i64 d, .int .i64 f, .int .i64 (IntKind.i64.wrap (f + t))] rfl rfl (by intro j u hj; match j, hj with | 0, hj => (simp at hj; subst hj; exact new_cell _ _ _ _ _ _ rfl rfl) | 1, hj => (simp at hj; subst hj; exact new_cell _ _ _ _ _ _ rfl rfl) | 2, hj => (simp at hj; subst hj; exact new_cell _ _ _ _ _ _ rfl rfl)) (by intro u hu; simp at hu; rcases hu with rfl | rfl | rfl <;> rfl) (by decide) (by unfold maxLen; omega) (by omega) (by simp; omega) _ rfl ?_; intro g cap w3 hown' hgrow hat hlt3; have q0 : w3.cell? ⟨b, o + k * 3, none⟩ = some (.int .i64 x0) := hgrow.cell (Lib.cell?_alloc_some _ c0) (by intro e; have := (hown.lt b e.symm).1; omega); have q2 : w3.cell? ⟨b, o + k * 3 + 2, none⟩ = some (.int .i64 x2) := hgrow.cell (Lib.cell?_alloc_some _ c2) (by intro e; have := (hown.lt b e.symm).1; omega))
          | (go_at_call 29; with_reducible refine (cB _).mono ?_; rintro e w' ⟨rfl, rfl⟩)
          | (go_at_call 29; with_reducible refine (cC _).mono ?_; rintro e w' ⟨rfl, rfl⟩))
        all_goals go_wp2
        all_goals go_roundw
        case rel => exact ⟨k + 1, M ++ [(d, f, IntKind.i64.wrap (f + t))], by simp, by omega, by omega, by rw [List.length_append, hM]; rfl, rel_add d f (IntKind.i64.wrap (f + t)) hown', (fun h => by omega), ((Below.drew hB).alloc (by exact hs) _).grown hgrow (by simp; omega) (fun j hj => (hown.lt j hj).1)⟩
        case measure => simp only [intOf]; omega
      · have hl4' : ¬ (k : Int) < 40 := by omega
        have hl5 : decide ((k : Int) < 40) = false := decide_eq_false hl4'
        obtain ⟨a0, s0, rfl, hR⟩ := drow_of_own hM hown
        have RM : Aside (DRow wr a0 M ∧ M.length = k) := ⟨hR, hM⟩
        clear hown hnil hR hM
        go_wp2
        go_ret
        exact ⟨k, hk4, a0, s0, M, RM.out.2, rfl, RM.out.1, hB⟩
    · have hk' : k = n := by omega
      subst hk'
      have hlt' : ¬ (k : Int) < k := by omega
      obtain ⟨a0, s0, rfl, hR⟩ := drow_of_own hM hown
      have RM : Aside (DRow wr a0 M ∧ M.length = k) := ⟨hR, hM⟩
      clear hown hnil hR hM
      go_wp2
      go_ret
      exact ⟨k, hk4, a0, s0, M, RM.out.2, rfl, RM.out.1, hB⟩
end D
end Go.Proofs.Ytjecgapnlnmloaa
