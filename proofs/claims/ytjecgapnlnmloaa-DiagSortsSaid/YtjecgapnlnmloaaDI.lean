/- A part of the proof: an interpreter of the program, shown right once, and the laws that it computes. -/
import Derived.Test.YtjecgapnlnmloaaDH
import Derived.BigRegion
namespace Go.Proofs.Ytjecgapnlnmloaa
open Go.RowKit Go.Shelf Go.Lib Go.Sort Go.DiagLaw
set_option linter.unusedVariables false
namespace D
theorem sortD_again (L : List Dg) : sortD (sortD L) = sortD L :=
  uniq (sortD_strict _) (sortD_strict _) fun x => by rw [mem_sortD]
theorem strict_at {C : List Dg} (h : Strict C) {j : Nat} (hj : j < C.length) (h0 : 0 < j) : Go.DiagLaw.ahead (C.getD (j - 1) (0, 0, 0)) (C.getD j (0, 0, 0)) = true := by
  rw [DiagLaw.getD_lt hj, DiagLaw.getD_lt (by omega : j - 1 < C.length)]
  exact List.pairwise_iff_getElem.1 h (j - 1) j (by omega) hj (by omega)
set_option maxRecDepth 100000 in
set_option maxHeartbeats 1000000 in
theorem order7 (known : ∀ w, Calls Try.prog 18 #[] w fun e w' => e = .returned (.bool true) ∧ Below w.heap.size w w') (a : Option Addr) (L : List Dg) (n c : Nat) (hLn : L.length = n) (w : World) (hL : DRow w a L) :
    Calls Try.prog 7 #[.slice a n c] w fun e w' => e = .returned (.bool true) ∧ Below w.heap.size w w' := by
  have HL : Aside (DRow w a L ∧ L.length = n) := ⟨hL, hLn⟩
  clear hL hLn
  go_enter Try.func7, Try.ntmps7
  go_wp2_with (go_at_call 18; with_reducible refine (known _).mono ?_; rintro e w1 ⟨rfl, hB1⟩; have hg := good19 a L n c HL.out.2 w1 (HL.out.1.below hB1))
  go_wp2_with (go_at_call 19; with_reducible refine hg.mono ?_; rintro e w2 ⟨m1, a1, k1, M, hm1, hM, rfl, hR1, hB2⟩; have hs := sort21 a1 M m1 k1 hM (by omega) w2 hR1; clear hg)
  go_wp2_with (go_at_call 21; with_reducible refine hs.mono ?_; rintro e w3 ⟨a2, k2, rfl, hR2, hB3⟩; clear hs)
  have hst := sortD_strict M
  have hmem : ∀ x, x ∈ sortD M ↔ x ∈ M := fun x => mem_sortD
  have hag := sortD_again M
  have hlen : (sortD M).length ≤ m1 := by unfold sortD; rw [upD_len, ← outK_all, ← hM]; exact outK_length M _ (Nat.le_refl _)
  generalize sortD M = C at hR2 hst hmem hag hlen
  obtain ⟨m2, hm2⟩ : ∃ m, C.length = m := ⟨_, rfl⟩
  rw [hm2] at hlen
  have HC : Aside (Strict C ∧ (∀ x, x ∈ C ↔ x ∈ M) ∧ sortD C = C ∧ C.length = m2) := ⟨hst, hmem, hag, hm2⟩
  have G1 : Aside (DRow w3 a1 M ∧ M.length = m1) := ⟨hR1.below hB3, hM⟩
  have X1 : Aside (DRow w3 a2 C) := hR2
  have hBB : Below w.heap.size w w3 := hB1.trans ((hB2.trans (hB3.mono hB2.size)).mono hB1.size)
  rw [hm2]
  clear hst hmem hag hM hR1 hR2 hB2 hB3 hm2
  go_wp2
  go_loopw [5] (fun i W => ∃ j : Nat, i = .int .i64 j ∧ 1 ≤ j ∧ Below w3.heap.size w3 W) (fun i _ => m2 - (intOf i).toNat)
  case atStart => exact ⟨1, rfl, Nat.le_refl _, Below.refl _ _⟩
  case round =>
    obtain ⟨j, rfl, hj1, hB⟩ := hrel
    by_cases hlt : j < m2
    · have hlt' : (j : Int) < m2 := by omega
      have hj1' : (1 : Int) ≤ j := by omega
      obtain ⟨k, hk⟩ : ∃ k, j = k + 1 := ⟨j - 1, by omega⟩
      have hkm : (k : Int) < m2 := by omega
      have hk0 : (0 : Int) ≤ k := by omega
      have hj40 : (j : Int) ≤ 40 := by omega
      have hlt2 := hlt
      rw [← HC.out.2.2.2] at hlt2
      have hord := strict_at HC.out.1 hlt2 hj1
      rw [show j - 1 = k by omega] at hord
      have hwk : IntKind.i64.wrap ((j : Int) - 1) = (k : Int) := by
        unfold IntKind.wrap
        simp [IntKind.signed, IntKind.bits]
        omega
      obtain ⟨b, o, ha, hbw, c0, c1, c2⟩ := X1.out j hlt2
      obtain ⟨b', o', ha', hbw', d0, d1, d2⟩ := X1.out k (by omega)
      rw [ha] at ha'
      cases ha'
      subst ha
      have c0 := (hB.cell (p := ⟨b, o + j * 3, none⟩) hbw).trans c0
      have c1 := (hB.cell (p := ⟨b, o + j * 3 + 1, none⟩) hbw).trans c1
      have c2 := (hB.cell (p := ⟨b, o + j * 3 + 2, none⟩) hbw).trans c2
      have d0 := (hB.cell (p := ⟨b, o + k * 3, none⟩) hbw).trans d0
      have d1 := (hB.cell (p := ⟨b, o + k * 3 + 1, none⟩) hbw).trans d1
      have d2 := (hB.cell (p := ⟨b, o + k * 3 + 2, none⟩) hbw).trans d2
      have hK : Aside (j = k + 1) := hk
      clear hk hlt2
      generalize C.getD j (0, 0, 0) = u at c0 c1 c2 hord
      generalize C.getD k (0, 0, 0) = v at d0 d1 d2 hord
      obtain ⟨u0, u1, u2⟩ := u
      obtain ⟨v0, v1, v2⟩ := v
      dsimp only at c0 c1 c2 d0 d1 d2
      have hB0 := hB
      have hBs := hB.size
      rcases ahead_iff.1 hord with h1 | ⟨h1, h2 | ⟨h2, h3⟩⟩
      · dsimp only at h1
        clear hord
        have q1 : decide (u1 < v1) = false := decide_eq_false (by omega)
        have q2 : decide (v1 = u1) = false := decide_eq_false (by omega)
        have q3 : ¬ u1 < v1 := by omega
        have q4 : ¬ v1 = u1 := by omega
        go_wp2_with fail
        go_region_held3 (fun V => V.cell? ⟨b, o + j * 3, none⟩ = some (.int .i64 u0) ∧ V.cell? ⟨b, o + j * 3 + 1, none⟩ = some (.int .i64 u1) ∧ V.cell? ⟨b, o + j * 3 + 2, none⟩ = some (.int .i64 u2) ∧ V.cell? ⟨b, o + k * 3, none⟩ = some (.int .i64 v0) ∧ V.cell? ⟨b, o + k * 3 + 1, none⟩ = some (.int .i64 v1) ∧ V.cell? ⟨b, o + k * 3 + 2, none⟩ = some (.int .i64 v2)) (go_keep) (fail)
        all_goals go_wp2
        all_goals go_roundw
        case rel => exact ⟨j + 1, by simp, by omega, ((hB0.alloc hBs _).alloc (by simp; omega) _).drew⟩
        case measure => simp only [intOf]; omega
        case rel => exact ⟨j + 1, by simp, by omega, ((hB0.alloc hBs _).alloc (by simp; omega) _).drew⟩
        case measure => simp only [intOf]; omega
      · dsimp only at h1 h2
        subst h1
        clear hord
        have q1 : decide (u2 < v2) = false := decide_eq_false (by omega)
        have q2 : decide (v2 = u2) = false := decide_eq_false (by omega)
        have q3 : ¬ u2 < v2 := by omega
        have q4 : ¬ v2 = u2 := by omega
        go_wp2_with fail
        go_region_held3 (fun V => V.cell? ⟨b, o + j * 3, none⟩ = some (.int .i64 u0) ∧ V.cell? ⟨b, o + j * 3 + 1, none⟩ = some (.int .i64 v1) ∧ V.cell? ⟨b, o + j * 3 + 2, none⟩ = some (.int .i64 u2) ∧ V.cell? ⟨b, o + k * 3, none⟩ = some (.int .i64 v0) ∧ V.cell? ⟨b, o + k * 3 + 1, none⟩ = some (.int .i64 v1) ∧ V.cell? ⟨b, o + k * 3 + 2, none⟩ = some (.int .i64 v2)) (go_keep) (fail)
        all_goals go_wp2
        all_goals go_roundw
        case rel => exact ⟨j + 1, by simp, by omega, ((hB0.alloc hBs _).alloc (by simp; omega) _).drew⟩
        case measure => simp only [intOf]; omega
        case rel => exact ⟨j + 1, by simp, by omega, ((hB0.alloc hBs _).alloc (by simp; omega) _).drew⟩
        case measure => simp only [intOf]; omega
      · dsimp only at h1 h2 h3
        subst h1 h2
        clear hord
        have q1 : decide (u0 ≤ v0) = false := decide_eq_false (by omega)
        have q3 : ¬ u0 ≤ v0 := by omega
        go_wp2_with fail
        go_region_held3 (fun V => V.cell? ⟨b, o + j * 3, none⟩ = some (.int .i64 u0) ∧ V.cell? ⟨b, o + j * 3 + 1, none⟩ = some (.int .i64 v1) ∧ V.cell? ⟨b, o + j * 3 + 2, none⟩ = some (.int .i64 v2) ∧ V.cell? ⟨b, o + k * 3, none⟩ = some (.int .i64 v0) ∧ V.cell? ⟨b, o + k * 3 + 1, none⟩ = some (.int .i64 v1) ∧ V.cell? ⟨b, o + k * 3 + 2, none⟩ = some (.int .i64 v2)) (go_keep) (fail)
        all_goals go_wp2
        all_goals go_roundw
        case rel => exact ⟨j + 1, by simp, by omega, ((hB0.alloc hBs _).alloc (by simp; omega) _).drew⟩
        case measure => simp only [intOf]; omega
        case rel => exact ⟨j + 1, by simp, by omega, ((hB0.alloc hBs _).alloc (by simp; omega) _).drew⟩
        case measure => simp only [intOf]; omega
    · have hlt' : ¬ (j : Int) < m2 := by omega
      have hB1 := hB
      clear hB
      go_wp2
      go_loopw [8] (fun i W => ∃ j : Nat, i = .int .i64 j ∧ j ≤ m1 ∧ Below w3.heap.size w3 W) (fun i _ => m1 - (intOf i).toNat)
      case atStart => exact ⟨0, rfl, Nat.zero_le _, hB1⟩
      case round =>
        obtain ⟨j, rfl, hj1, hB⟩ := hrel
        by_cases hlt : j < m1
        · have hlt' : (j : Int) < m1 := by omega
          have hlt2 := hlt
          rw [← G1.out.2] at hlt2
          obtain ⟨b, o, ha, hbw, c0, c1, c2⟩ := G1.out.1 j hlt2
          have hin : M.getD j (0, 0, 0) ∈ C := by
            rw [HC.out.2.1, DiagLaw.getD_lt hlt2]
            exact List.getElem_mem hlt2
          subst ha
          have c0 := (hB.cell (p := ⟨b, o + j * 3, none⟩) hbw).trans c0
          have c1 := (hB.cell (p := ⟨b, o + j * 3 + 1, none⟩) hbw).trans c1
          have c2 := (hB.cell (p := ⟨b, o + j * 3 + 2, none⟩) hbw).trans c2
          clear hlt2
          generalize M.getD j (0, 0, 0) = u at c0 c1 c2 hin
          obtain ⟨u0, u1, u2⟩ := u
          dsimp only at c0 c1 c2
          have hh := has23 a2 C m2 k2 HC.out.2.2.2 (by omega) (u0, u1, u2) hin _ (X1.out.below hB)
          have hB0 := hB
          clear hin hB
          go_wp2_with (go_at_call 23; with_reducible refine hh.mono ?_; rintro e W2 ⟨rfl, hB2⟩)
          go_roundw
          case rel => exact ⟨j + 1, by simp, by omega, hB0.trans (hB2.mono hB0.size)⟩
          case measure => simp only [intOf]; omega
        · have hlt' : ¬ (j : Int) < m1 := by omega
          have hB9 := hB
          clear hB hB1
          go_wp2
          go_loopw [9] (fun i W => ∃ j : Nat, i = .int .i64 j ∧ j ≤ m2 ∧ Below w3.heap.size w3 W) (fun i _ => m2 - (intOf i).toNat)
          case atStart => exact ⟨0, rfl, Nat.zero_le _, hB9⟩
          case round =>
            obtain ⟨j, rfl, hj1, hB⟩ := hrel
            by_cases hlt : j < m2
            · have hlt' : (j : Int) < m2 := by omega
              have hlt2 := hlt
              rw [← HC.out.2.2.2] at hlt2
              obtain ⟨b, o, ha, hbw, c0, c1, c2⟩ := X1.out j hlt2
              have hin : C.getD j (0, 0, 0) ∈ M := by
                rw [← HC.out.2.1, DiagLaw.getD_lt hlt2]
                exact List.getElem_mem hlt2
              subst ha
              have c0 := (hB.cell (p := ⟨b, o + j * 3, none⟩) hbw).trans c0
              have c1 := (hB.cell (p := ⟨b, o + j * 3 + 1, none⟩) hbw).trans c1
              have c2 := (hB.cell (p := ⟨b, o + j * 3 + 2, none⟩) hbw).trans c2
              clear hlt2
              generalize C.getD j (0, 0, 0) = u at c0 c1 c2 hin
              obtain ⟨u0, u1, u2⟩ := u
              dsimp only at c0 c1 c2
              have hh := has23 a1 M m1 k1 G1.out.2 (by omega) (u0, u1, u2) hin _ (G1.out.1.below hB)
              have hB0 := hB
              clear hin hB
              go_wp2_with (go_at_call 23; with_reducible refine hh.mono ?_; rintro e W2 ⟨rfl, hB2⟩)
              go_roundw
              case rel => exact ⟨j + 1, by simp, by omega, hB0.trans (hB2.mono hB0.size)⟩
              case measure => simp only [intOf]; omega
            · have hlt' : ¬ (j : Int) < m2 := by omega
              have hs := sort21 a2 C m2 k2 HC.out.2.2.2 (by omega) _ (X1.out.below hB)
              rw [HC.out.2.2.1] at hs
              go_wp2_with (go_at_call 21; with_reducible refine hs.mono ?_; rintro e w5 ⟨a5, k5, rfl, hR5, hB5⟩; rw [HC.out.2.2.2]; have hd := diags20 a5 a2 C m2 k5 k2 HC.out.2.2.2 (by omega) w5 hR5 ((X1.out.below hB).below hB5); clear hs)
              go_wp2_with (go_at_call 20; with_reducible refine hd.mono ?_; rintro e w6 ⟨rfl, hB6⟩)
              go_ret
              exact ⟨rfl, hBB.trans ((hB.trans ((hB5.trans (hB6.mono hB5.size)).mono hB.size)).mono hBB.size)⟩
end D
end Go.Proofs.Ytjecgapnlnmloaa
#print axioms Go.Proofs.Ytjecgapnlnmloaa.D.order7
