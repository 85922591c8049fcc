/- A part of the proof: an interpreter of the program, shown right once, and the laws that it computes. -/
import Derived.Test.YtjecgapnlnmloaaRD
import Derived.BigQuiet
namespace Go.Proofs.Ytjecgapnlnmloaa
open Go.RowKit Go.Shelf Go.Lib Go.Sort Go.SpanLaw
set_option linter.unusedVariables false
theorem gd_grown (p : Sp) (w : World) : Calls Try.prog 11 #[sp p.1 p.2] w fun e w' => e = .returned (sp (gd p).1 (gd p).2) ∧ ∃ q os, w' = grow (w.drewN q) os := by
  refine (gd_calls p w).mono ?_
  rintro e w' ⟨rfl, rfl⟩
  exact ⟨rfl, 0, _, by rw [alloc_eq_grow, alloc_eq_grow, grow_grow]; rfl⟩
set_option maxRecDepth 100000 in
set_option maxHeartbeats 2000000 in
theorem sorts8 (known : ∀ w, Calls Try.prog 10 #[] w fun e w' => e = .returned (.bool true) ∧ Below w.heap.size w w') (a : Option Addr) (L : List Sp) (n c : Nat) (hLn : L.length = n) (w : World) (hL : SRow w a L) :
    Calls Try.prog 8 #[.slice a n c] w fun e w' => e = .returned (.bool true) ∧ Below w.heap.size w w' := by
  obtain ⟨i0, hi, hz0, hz1, hz2⟩ := info_parts info23
  obtain ⟨M, hM⟩ : ∃ M : List Sp, M.length = n ∧ ∀ k, k < n → M.getD k (0, 0) = gd (L.getD k (0, 0)) := ⟨L.map gd, by simp [hLn], fun k hk => by rw [getD_lt (by simp; omega), getD_lt (by omega)]; simp⟩
  have HM : Aside (M.length = n ∧ ∀ k, k < n → M.getD k (0, 0) = gd (L.getD k (0, 0))) := hM
  have HL : Aside (SRow w a L ∧ L.length = n) := ⟨hL, hLn⟩
  clear hM hL hLn
  by_cases hn : n ≤ 40
  · have hn' : ¬ (40 : Int) < n := by omega
    go_enter Try.func8, Try.ntmps8
    go_wp2_with (go_at_call 10; with_reducible refine (known _).mono ?_; rintro e w1 ⟨rfl, hB1⟩)
    go_loopw [3, 4] (fun v i wr => ∃ k : Nat, i = .int .i64 k ∧ k ≤ n ∧ wr.ownsRow w.heap.size 23 2 v k (fl (M.take k)) ∧ (k = 0 → v = .slice none 0 0) ∧ (v = .slice none 0 0 → k = 0) ∧ Below w.heap.size w wr) (fun _ i _ => n - (intOf i).toNat)
    case atStart => exact ⟨0, rfl, Nat.zero_le _, by simpa [fl, flatK] using World.ownsRow_nil w1 w.heap.size 23 2, fun _ => rfl, fun _ => rfl, hB1⟩
    case round =>
      obtain ⟨k, rfl, hk, hown, hnil0, hnil, hB⟩ := hrel
      by_cases hlt : k < n
      · have hlt' : (k : Int) < n := by omega
        obtain ⟨b, o, rfl, hb, c1, c2⟩ := HL.out.1.below hB k (by rw [HL.out.2]; exact hlt)
        generalize hx : L.getD k (0, 0) = x at c1 c2
        have XX : Aside (L.getD k (0, 0) = x) := hx
        clear hx
        have hg := fun w => gd_calls x w
        have hs := hB.size
        go_wp2_with (first
          | (go_at_call 11; with_reducible refine (hg _).mono ?_; rintro e w2 ⟨rfl, rfl⟩)
          | (at_builtin; refine wpList_append_own _ rfl (.tmp 19) (.tmp 25) 36 rfl w.heap.size 23 i0 (sp 0 0) 2 16 Try.underlying36 hi hz0 hz1 hz2 rfl (by decide) _ _ _ rfl (((hown.alloc _).alloc _).alloc _) ⟨wr.heap.size + 1 + 1, 0, none⟩ 1 1 [.int .i64 (gd x).1, .int .i64 (gd x).2] rfl rfl ?c1 ?c2 ?c3 ?c4 ?c5 ?_))
        case c1 =>
          intro j u hj
          match j, hj with
          | 0, hj => simp at hj; subst hj; exact new_cell _ _ _ _ _ _ (by simp) rfl
          | 1, hj => simp at hj; subst hj; exact new_cell _ _ _ _ _ _ (by simp) rfl
        case c2 => intro u hu; simp at hu; rcases hu with rfl | rfl <;> rfl
        case c3 => unfold maxLen; omega
        case c4 => omega
        case c5 => simp; omega
        · intro v' w3 hown' hgrow hnil'
          go_wp2
          go_roundw
          case rel => exact ⟨k + 1, by simp, by omega, rel_step (x := gd x) (by rw [HM.out.1]; exact hlt) (by rw [HM.out.2 k hlt, XX.out]) hown', fun h => by omega, fun h => (hnil' h).elim, ((((hB.alloc hB.size _).alloc (by simp; omega) _).alloc (by simp; omega) _).grown hgrow (by simp; omega) (fun j hj => (hown.lt j hj).1))⟩
          case measure => simp only [intOf]; omega
      · have hk' : k = n := by omega
        subst hk'
        have hlt' : ¬ (k : Int) < k := by omega
        rw [List.take_of_length_le (by rw [HM.out.1]; exact Nat.le_refl _)] at hown
        obtain ⟨a0, c0, rfl, hR, hs⟩ := sort24 HM.out.1 hown hnil0 hnil hn
        clear hown hnil0 hnil
        have RR : Aside (SRow wr a0 M) := hR
        have hr := fun W (hW : SRow W a0 M) => refSort25 a0 M k c0 HM.out.1 hn W hW
        rw [← sorts_eq M] at hr
        have hCn := sortS_len M
        rw [HM.out.1] at hCn
        generalize sortS M = C at hs hCn hr
        obtain ⟨m, hm⟩ : ∃ m, C.length = m := ⟨_, rfl⟩
        rw [hm] at hs hCn hr
        have HC : Aside (C.length = m) := hm
        clear hm hR
        go_wp2_with (go_at_call 24; with_reducible refine hs.mono ?_; rintro e w2 ⟨a', c', rfl, hR2, hB2⟩; have hr2 := hr w2 (RR.out.below hB2); clear hs hr)
        go_wp2_with (go_at_call 25; with_reducible refine hr2.mono ?_; rintro e w3 ⟨a2, c2, rfl, hR3, hB3⟩; clear hr2)
        have R2 : Aside (SRow w3 a' C) := hR2.below hB3
        have R3 : Aside (SRow w3 a2 C) := hR3
        have R0 : Aside (SRow w3 a0 M) := (RR.out.below hB2).below hB3
        have hB23 : Below w.heap.size w w3 := hB.trans ((hB2.trans (hB3.mono hB2.size)).mono hB.size)
        clear hR2 hR3 hB2 hB3
        go_loopw [7] (fun i W => ∃ j q : Nat, i = .int .i64 j ∧ j ≤ m ∧ W = w3.drewN q) (fun i _ => m - (intOf i).toNat)
        case atStart => exact ⟨0, 0, rfl, Nat.zero_le _, rfl⟩
        case round =>
          obtain ⟨j, q, rfl, hj, rfl⟩ := hrel
          by_cases hjl : j < m
          · have hjl' : (j : Int) < m := by omega
            obtain ⟨b1, o1, e1, hb1, c1, c2⟩ := R2.out j (by rw [HC.out]; exact hjl)
            obtain ⟨b2, o2, e2, hb2, d1, d2⟩ := R3.out j (by rw [HC.out]; exact hjl)
            subst e1 e2
            generalize C.getD j (0, 0) = u at c1 c2 d1 d2
            obtain ⟨u1, u2⟩ := u
            dsimp only at c1 c2 d1 d2
            go_wp2_with fail
            go_region
            go_wp2
            go_roundw
            case rel => exact ⟨j + 1, q + 1, by simp, by omega, rfl⟩
            case measure => simp only [intOf]; omega
          · have hj' : j = m := by omega
            subst hj'
            have hjl' : ¬ (j : Int) < j := by omega
            obtain ⟨W, hW⟩ : ∃ W, W = w3.drewN q := ⟨_, rfl⟩
            rw [← hW]
            have hBq : Below w.heap.size w W := by rw [hW]; exact below_drewN hB23 q
            have R0 : Aside (SRow W a0 M) := by rw [hW]; exact R0.out
            clear hW
            have mixed : Try.prog.follows .mixedOrders = true := by kernel_rfl
            by_cases h0 : k = 0
            · subst h0
              go_wp2
              go_quiet (fail)
              go_wp2
              go_ret
              exact ⟨rfl, below_drewN hBq _⟩
            · obtain ⟨b1, o1, e1, hb1, c1, c2⟩ := R0.out 0 (by rw [HM.out.1]; omega)
              obtain ⟨b2, o2, e2, hb2, d1, d2⟩ := (HL.out.1.below hBq) 0 (by rw [HL.out.2]; omega)
              subst e1 e2
              rw [HM.out.2 0 (by omega)] at c1 c2
              generalize L.getD 0 (0, 0) = x at c1 c2 d1 d2
              simp only [Nat.zero_mul, Nat.add_zero] at c1 c2 d1 d2
              have g1 := cell_grown hb1 c1
              have g2 := cell_grown hb1 c2
              have g3 := cell_grown hb2 d1
              have g4 := cell_grown hb2 d2
              have hgd := fun n os => gd_grown x (grow (W.drewN n) os)
              have hk0 : (0 : Int) < k := by omega
              have hkd1 : decide ((k : Int) = 0) = false := decide_eq_false (by omega)
              have hkd2 : decide (k = 0) = false := decide_eq_false h0
              have hkd3 : ((k : Int) == 0) = false := by simpa using h0
              have hkd4 : (k == 0) = false := by simpa using h0
              clear c1 c2 d1 d2
              go_wp2_with fail
              refine wp_region_quiet_grown (by assumption) (by kernel_rfl) ?_
              repeat (go_big_quiet_step (first | (go_at_call 11; with_reducible refine Calls.grown_of (hgd _ _))))
              refine wpQuiet_nil ?_
              intro w' hw'
              obtain ⟨⟨nq, osq⟩, hw''⟩ := hw'
              subst hw''
              go_wp2
              go_ret
              exact ⟨rfl, hBq.trans ((below_of_grown ⟨nq, osq, rfl⟩).mono hBq.size)⟩
  · have hn' : (40 : Int) < n := by omega
    go_enter Try.func8, Try.ntmps8
    go_wp2_with (go_at_call 10; with_reducible refine (known _).mono ?_; rintro e w1 ⟨rfl, hB1⟩)
    go_ret
    exact ⟨rfl, hB1⟩
end Go.Proofs.Ytjecgapnlnmloaa
