/- A part of the proof: an interpreter of the program, shown right once, and the laws that it computes. -/
import Derived.Test.YtjecgapnlnmloaaSI
import Derived.Test.YtjecgapnlnmloaaSH
import Derived.Test.YtjecgapnlnmloaaEng35
import Derived.Shelf.SlSortCmp.QuietGrown
namespace Go.Proofs.Ytjecgapnlnmloaa
open Go.RowKit Go.Shelf Go.Lib Go.Sort Go.SpanLaw
set_option linter.unusedVariables false
theorem fl_append (M : List Sp) (p : Sp) : fl (M ++ [p]) = fl M ++ encS p := by
  apply List.ext_getElem?
  intro j
  by_cases h : j < M.length * 2
  · rw [List.getElem?_append_left (by rw [fl_length]; exact h), fl_get h, fl_get (by simp; omega), fl_cell h, fl_cell (by simp; omega)]
    have e : (M ++ [p]).getD (j / 2) (0, 0) = M.getD (j / 2) (0, 0) := by
      rw [List.getD, List.getD, List.getElem?_append_left (by omega)]
    rw [e]
  · rw [List.getElem?_append_right (by rw [fl_length]; omega), fl_length]
    by_cases h2 : j < (M.length + 1) * 2
    · have e : (M ++ [p]).getD (j / 2) (0, 0) = p := by
        rw [List.getD, List.getElem?_append_right (by omega), show j / 2 - M.length = 0 by omega]
        rfl
      rw [fl_get (by simpa using h2), fl_cell (by simpa using h2), e]
      have : j - M.length * 2 = 0 ∨ j - M.length * 2 = 1 := by omega
      rcases this with h | h
      · rw [h, if_pos (by omega)]; rfl
      · rw [h, if_neg (by omega)]; rfl
    · rw [List.getElem?_eq_none (by rw [fl_length]; simpa using h2), List.getElem?_eq_none (by simp [encS]; omega)]
/-- 'good', as a function. -/
noncomputable def gd (p : Sp) : Sp := (Classical.choose (good11 p.1 p.2), Classical.choose (Classical.choose_spec (good11 p.1 p.2)))
theorem gd_calls (p : Sp) (w : World) : Calls Try.prog 11 #[sp p.1 p.2] w fun e w' => e = .returned (sp (gd p).1 (gd p).2) ∧ w' = (w.alloc (.cells #[.int .i64 p.1, .int .i64 p.2] 23)).alloc (.cells #[.int .i64 (gd p).1, .int .i64 (gd p).2] 23) :=
  (Classical.choose_spec (Classical.choose_spec (good11 p.1 p.2))).2.2.2.2 w
theorem rel_step {w3 : World} {B : Nat} {v' : Value} {M : List Sp} {k : Nat} {x : Sp} (hk : k < M.length) (hx : M.getD k (0, 0) = x)
    (h : w3.ownsRow B 23 2 v' (k + 1) (fl (M.take k) ++ [.int .i64 x.1, .int .i64 x.2])) : w3.ownsRow B 23 2 v' (k + 1) (fl (M.take (k + 1))) := by
  rw [List.take_succ_eq_append_getElem hk, fl_append, ← getD_lt hk, hx]
  exact h
theorem sort24 {w : World} {base : Nat} {v : Value} {M : List Sp} {n : Nat} (hMn : M.length = n) (h : w.ownsRow base 23 2 v n (fl M)) (h0 : n = 0 → v = .slice none 0 0) (h1 : v = .slice none 0 0 → n = 0) (hn : n ≤ 40) :
    ∃ a0 c0, v = .slice a0 n c0 ∧ SRow w a0 M ∧ Calls Try.prog 24 #[.slice a0 n c0] w fun e w' => ∃ a' c', e = .returned (.slice a' (sortS M).length c') ∧ SRow w' a' (sortS M) ∧ Below w.heap.size w w' := by
  subst hMn
  by_cases hz : M.length = 0
  · have hM : M = [] := List.length_eq_zero_iff.1 hz
    subst hM
    refine ⟨none, 0, h0 rfl, fun i hi => absurd hi (Nat.not_lt_zero i), (sort24_nil w).mono ?_⟩
    rintro e w' ⟨rfl, rfl⟩
    have e : sortS [] = [] := List.eq_nil_iff_forall_not_mem.2 fun x hx => by simpa using mem_sortS.1 hx
    rw [e]
    exact ⟨none, 0, rfl, fun i hi => absurd hi (Nat.not_lt_zero i), Below.refl _ _⟩
  · obtain ⟨g, cap, rfl, hb, hg, hcap, hH⟩ := holds_of_own h (fun e => hz (h1 e))
    have hR : SRow w (some ⟨g, 0, none⟩) M := srow_of_holds hH hg (by simp) (fun j hj => by rw [getElem!_pos _ j (by simpa using hj)]; simp [hj])
    exact ⟨_, _, rfl, hR, sort24_some g 0 cap M w hR hn⟩
theorem SRow.grown {w : World} {a : Option Addr} {L : List Sp} (h : SRow w a L) (n : Nat) (os : Array Obj) : SRow (grow (w.drewN n) os) a L := fun i hi => by
  obtain ⟨b, o, h1, h2, h3, h4⟩ := h i hi
  exact ⟨b, o, h1, by rw [size_grow]; show b < w.heap.size + os.size; omega, cell_grown h2 h3 n os, cell_grown h2 h4 n os⟩
theorem below_of_grown {w w' : World} (h : ∃ q os, w' = grow (w.drewN q) os) : Below w.heap.size w w' := by
  obtain ⟨q, os, rfl⟩ := h
  exact below_growS (below_drewN (Below.refl _ w) q) (Nat.le_refl _) os
theorem has26' (a : Option Addr) (L : List Sp) (n c : Nat) (s1 s2 : Int) (hLn : L.length = n) (hn : n ≤ 40) (hm : (s1, s2) ∈ L) (w : World) (hL : SRow w a L) : Calls Try.prog 26 #[.slice a n c, sp s1 s2] w fun e w' => e = .returned (.bool true) ∧ ∃ q os, w' = grow (w.drewN q) os := by
  subst hLn
  have h := has26 a L c (s1, s2) w hL hn
  have e : (L.any fun x => decide (x = (s1, s2))) = true := by
    rw [List.any_eq_true]
    exact ⟨_, hm, by simp⟩
  rw [e] at h
  exact h
theorem strict_at {C : List Sp} (h : Strict C) {j : Nat} (hj : j < C.length) (h0 : 0 < j) : Go.SpanLaw.ahead (C.getD (j - 1) (0, 0)) (C.getD j (0, 0)) = true := by
  rw [getD_lt hj, getD_lt (by omega : j - 1 < C.length)]
  exact List.pairwise_iff_getElem.1 h (j - 1) j (by omega) hj (by omega)
set_option maxRecDepth 100000 in
set_option maxHeartbeats 800000 in
theorem order9 (known : ∀ w, Calls Try.prog 10 #[] w fun e w' => e = .returned (.bool true) ∧ Below w.heap.size w w') (a : Option Addr) (L : List Sp) (n c : Nat) (hLn : L.length = n) (w : World) (hL : SRow w a L) :
    Calls Try.prog 9 #[.slice a n c] w fun e w' => e = .returned (.bool true) ∧ Below w.heap.size w w' := by
  obtain ⟨i0, hi, hz0, hz1, hz2⟩ := info_parts info23
  obtain ⟨M, hM⟩ : ∃ M : List Sp, M.length = n ∧ ∀ k, k < n → M.getD k (0, 0) = gd (L.getD k (0, 0)) := ⟨L.map gd, by simp [hLn], fun k hk => by rw [getD_lt (by simp; omega), getD_lt (by omega)]; simp⟩
  have HM : Aside (M.length = n ∧ ∀ k, k < n → M.getD k (0, 0) = gd (L.getD k (0, 0))) := hM
  have HL : Aside (SRow w a L ∧ L.length = n) := ⟨hL, hLn⟩
  clear hM hL hLn
  by_cases hn : n ≤ 40
  · have hn' : ¬ (40 : Int) < n := by omega
    go_enter Try.func9, Try.ntmps9
    go_wp2_with (go_at_call 10; with_reducible refine (known _).mono ?_; rintro e w1 ⟨rfl, hB1⟩)
    go_loopw [3, 4] (fun v i wr => ∃ k : Nat, i = .int .i64 k ∧ k ≤ n ∧ wr.ownsRow w.heap.size 23 2 v k (fl (M.take k)) ∧ (k = 0 → v = .slice none 0 0) ∧ (v = .slice none 0 0 → k = 0) ∧ Below w.heap.size w wr) (fun _ i _ => n - (intOf i).toNat)
    case atStart => exact ⟨0, rfl, Nat.zero_le _, by simpa [fl, flatK] using World.ownsRow_nil w1 w.heap.size 23 2, fun _ => rfl, fun _ => rfl, hB1⟩
    case round =>
      obtain ⟨k, rfl, hk, hown, hnil0, hnil, hB⟩ := hrel
      by_cases hlt : k < n
      · have hlt' : (k : Int) < n := by omega
        obtain ⟨b, o, rfl, hb, c1, c2⟩ := HL.out.1.below hB k (by rw [HL.out.2]; exact hlt)
        generalize hx : L.getD k (0, 0) = x at c1 c2
        have XX : Aside (L.getD k (0, 0) = x) := hx
        clear hx
        have hg := fun w => gd_calls x w
        have hs := hB.size
        go_wp2_with (first
          | (go_at_call 11; with_reducible refine (hg _).mono ?_; rintro e w2 ⟨rfl, rfl⟩)
          | (at_builtin; refine wpList_append_own _ rfl (.tmp 19) (.tmp 25) 36 rfl w.heap.size 23 i0 (sp 0 0) 2 16 Try.underlying36 hi hz0 hz1 hz2 rfl (by decide) _ _ _ rfl (((hown.alloc _).alloc _).alloc _) ⟨wr.heap.size + 1 + 1, 0, none⟩ 1 1 [.int .i64 (gd x).1, .int .i64 (gd x).2] rfl rfl ?c1 ?c2 ?c3 ?c4 ?c5 ?_))
        case c1 =>
          intro j u hj
          match j, hj with
          | 0, hj => simp at hj; subst hj; exact new_cell _ _ _ _ _ _ (by simp) rfl
          | 1, hj => simp at hj; subst hj; exact new_cell _ _ _ _ _ _ (by simp) rfl
        case c2 => intro u hu; simp at hu; rcases hu with rfl | rfl <;> rfl
        case c3 => unfold maxLen; omega
        case c4 => omega
        case c5 => simp; omega
        · intro v' w3 hown' hgrow hnil'
          go_wp2
          go_roundw
          case rel => exact ⟨k + 1, by simp, by omega, rel_step (x := gd x) (by rw [HM.out.1]; exact hlt) (by rw [HM.out.2 k hlt, XX.out]) hown', fun h => by omega, fun h => (hnil' h).elim, ((((hB.alloc hB.size _).alloc (by simp; omega) _).alloc (by simp; omega) _).grown hgrow (by simp; omega) (fun j hj => (hown.lt j hj).1))⟩
          case measure => simp only [intOf]; omega
      · have hk' : k = n := by omega
        subst hk'
        have hlt' : ¬ (k : Int) < k := by omega
        rw [List.take_of_length_le (by rw [HM.out.1]; exact Nat.le_refl _)] at hown
        obtain ⟨a0, c0, rfl, hR, hs⟩ := sort24 HM.out.1 hown hnil0 hnil hn
        clear hown hnil0 hnil
        have RR : Aside (SRow wr a0 M) := hR
        have hCn := sortS_len M
        rw [HM.out.1] at hCn
        have hst := sortS_strict M
        have hCm : ∀ x, x ∈ sortS M ↔ x ∈ M := fun x => mem_sortS
        generalize sortS M = C at hs hCn hst hCm
        obtain ⟨m, hm⟩ : ∃ m, C.length = m := ⟨_, rfl⟩
        rw [hm] at hs hCn
        have HC : Aside (Strict C ∧ (∀ x, x ∈ C ↔ x ∈ M) ∧ C.length = m) := ⟨hst, hCm, hm⟩
        clear hst hCm hm
        go_wp2_with (go_at_call 24; with_reducible refine hs.mono ?_; rintro e w2 ⟨a', c', rfl, hR2, hB2⟩)
        clear hs hR
        go_loopw [6] (fun i wr => ∃ j : Nat, i = .int .i64 j ∧ j ≤ m ∧ SRow wr a0 M ∧ SRow wr a' C ∧ Below w.heap.size w wr) (fun i _ => m - (intOf i).toNat)
        case atStart => exact ⟨0, rfl, Nat.zero_le _, RR.out.below hB2, hR2, hB.trans (hB2.mono hB.size)⟩
        case round =>
          obtain ⟨j, rfl, hj, hRm, hRc, hBj⟩ := hrel
          by_cases hjl : j < m
          · have hjl' : (j : Int) < m := by omega
            obtain ⟨b, o, ha', hb, c1, c2⟩ := hRc j (by rw [HC.out.2.2]; exact hjl)
            have RC : Aside (SRow wr a' C) := hRc
            have RM : Aside (SRow wr a0 M) := hRm
            clear hRc hRm
            subst ha'
            generalize hu : C.getD j (0, 0) = u at c1 c2
            obtain ⟨u1, u2⟩ := u
            dsimp only at c1 c2
            have hmem : (u1, u2) ∈ M := (HC.out.2.1 _).1 (by rw [← hu, getD_lt (by rw [HC.out.2.2]; exact hjl)]; exact List.getElem_mem _)
            have hh := fun n os => has26' a0 M k c0 u1 u2 HM.out.1 hn hmem _ (RM.out.grown n os)
            have U : Aside (C.getD j (0, 0) = (u1, u2)) := hu
            clear hu hmem
            have g1 := cell_grown hb c1
            have g2 := cell_grown hb c2
            have mixed : Try.prog.follows .mixedOrders = true := by kernel_rfl
            by_cases h0 : j = 0
            · subst h0
              simp only [Nat.zero_mul, Nat.add_zero] at g1 g2
              clear c1 c2
              go_wp2_with fail
              refine reg14_z (by kernel_rfl) _ _ _ _ _ _ _ 0 _ _ _ _ _ _ _ _ _ _ _ _ _ _ _ _ _ _ _ _ _ _ _ _ _ _ _ _ _ _ _ _ _ _ _ _ _ _ _ _ _ _ _ _ _ _ _ _ _ _ _ _ _ _ _ _ _ _ _ _ _ _ _ _ _ _ _ _ _ _ _ _ _ _ _ _ _ _ _ _ _ _ _ _ _ _ _ _ _ _ _ _ _ _ _ _ _ _ _ _ _ mixed hh (by omega) g1 g2 ?_
              intro s35 s36 s37 s38 s39 s40 s41 s42 s43 s44 s45 s46 s47 s48 s49 s50 s51 s52 s53 s54 s55 s56 s57 s58 s59 s60 s61 s62 s63 s64 s65 s66 s67 s68 s69 s70 s71 s72 s73 s74 s75 s76 s77 s78 s79 s80 s81 s82 s83 s84 s85 s86 nq osq
              go_wp2
              go_roundw
              case rel => exact ⟨1, by simp, by omega, RM.out.grown _ _, RC.out.grown _ _, hBj.trans ((below_of_grown ⟨nq, osq, rfl⟩).mono hBj.size)⟩
              case measure => simp only [intOf]; omega
            · obtain ⟨b', o', ha'', hb', d1, d2⟩ := RC.out (j - 1) (by rw [HC.out.2.2]; omega)
              cases ha''
              generalize hx : C.getD (j - 1) (0, 0) = x at d1 d2
              obtain ⟨x1, x2⟩ := x
              dsimp only at d1 d2
              have p1 := cell_grown hb d1
              have p2 := cell_grown hb d2
              have hah := strict_at HC.out.1 (by rw [HC.out.2.2]; omega : j < C.length) (by omega : 0 < j)
              rw [hx, U.out] at hah
              have hah := ahead_iff.1 hah
              dsimp only at hah
              clear hx c1 c2 d1 d2 hb'
              by_cases he : x1 = u1
              · subst he
                have q1 : decide (u2 ≤ x2) = false := decide_eq_false (by omega)
                clear hah
                go_wp2_with fail
                refine reg14_eq (by kernel_rfl) _ _ _ _ _ _ _ _ _ _ _ _ _ _ _ _ _ _ _ _ _ _ _ _ _ _ _ _ _ _ _ _ _ _ _ _ _ _ _ _ _ _ _ _ _ _ _ _ _ _ _ _ _ _ _ _ _ _ _ _ _ _ _ _ _ _ _ _ _ _ _ _ _ _ _ _ _ _ _ _ _ _ _ _ _ _ _ _ _ _ _ _ _ _ _ _ _ _ _ _ _ _ _ _ _ _ _ _ _ mixed hh (by omega) (by omega) (by omega) (by omega) (by omega) (by omega) g1 g2 x2 p1 p2 q1 ?_
                intro s35 s36 s37 s38 s39 s40 s41 s42 s43 s44 s45 s46 s47 s48 s49 s50 s51 s52 s53 s54 s55 s56 s57 s58 s59 s60 s61 s62 s63 s64 s65 s66 s67 s68 s69 s70 s71 s72 s73 s74 s75 s76 s77 s78 s79 s80 s81 s82 s83 s84 s85 s86 nq osq
                go_wp2
                go_roundw
                case rel => exact ⟨j + 1, by simp, by omega, RM.out.grown _ _, RC.out.grown _ _, hBj.trans ((below_of_grown ⟨nq, osq, rfl⟩).mono hBj.size)⟩
                case measure => simp only [intOf]; omega
              · have q1 : decide (u1 < x1) = false := decide_eq_false (by omega)
                have q2 : ¬ x1 = u1 := he
                have q3 : (x1 == u1) = false := by simpa using he
                clear hah he
                go_wp2_with fail
                refine reg14_lt (by kernel_rfl) _ _ _ _ _ _ _ _ _ _ _ _ _ _ _ _ _ _ _ _ _ _ _ _ _ _ _ _ _ _ _ _ _ _ _ _ _ _ _ _ _ _ _ _ _ _ _ _ _ _ _ _ _ _ _ _ _ _ _ _ _ _ _ _ _ _ _ _ _ _ _ _ _ _ _ _ _ _ _ _ _ _ _ _ _ _ _ _ _ _ _ _ _ _ _ _ _ _ _ _ _ _ _ _ _ _ _ _ _ mixed hh (by omega) (by omega) (by omega) (by omega) (by omega) (by omega) g1 g2 x1 x2 p1 p2 q1 q2 q3 ?_
                intro s35 s36 s37 s38 s39 s40 s41 s42 s43 s44 s45 s46 s47 s48 s49 s50 s51 s52 s53 s54 s55 s56 s57 s58 s59 s60 s61 s62 s63 s64 s65 s66 s67 s68 s69 s70 s71 s72 s73 s74 s75 s76 s77 s78 s79 s80 s81 s82 s83 s84 s85 s86 nq osq
                go_wp2
                go_roundw
                case rel => exact ⟨j + 1, by simp, by omega, RM.out.grown _ _, RC.out.grown _ _, hBj.trans ((below_of_grown ⟨nq, osq, rfl⟩).mono hBj.size)⟩
                case measure => simp only [intOf]; omega
          · have hj' : j = m := by omega
            subst hj'
            have hjl' : ¬ (j : Int) < j := by omega
            have RC : Aside (SRow wr a' C) := hRc
            have RM : Aside (SRow wr a0 M) := hRm
            clear hRc hRm
            go_wp2
            go_loopw [7] (fun i wr3 => ∃ p : Nat, i = .int .i64 p ∧ p ≤ k ∧ SRow wr3 a0 M ∧ SRow wr3 a' C ∧ Below w.heap.size w wr3) (fun i _ => k - (intOf i).toNat)
            case atStart => exact ⟨0, rfl, Nat.zero_le _, RM.out, RC.out, hBj⟩
            case round =>
              obtain ⟨p, rfl, hp, hRm3, hRc3, hB3⟩ := hrel
              have RC3 : Aside (SRow _ a' C) := hRc3
              have RM3 : Aside (SRow _ a0 M) := hRm3
              by_cases hpl : p < k
              · have hpl' : (p : Int) < k := by omega
                obtain ⟨b, o, ha0, hb, c1, c2⟩ := hRm3 p (by rw [HM.out.1]; exact hpl)
                clear hRc3 hRm3
                subst ha0
                generalize hu : M.getD p (0, 0) = u at c1 c2
                obtain ⟨u1, u2⟩ := u
                dsimp only at c1 c2
                have hmem : (u1, u2) ∈ C := (HC.out.2.1 _).2 (by rw [← hu, getD_lt (by rw [HM.out.1]; exact hpl)]; exact List.getElem_mem _)
                have hh := has26' a' C j c' u1 u2 HC.out.2.2 (by omega) hmem _ RC3.out
                clear hu hmem
                go_wp2_with (go_at_call 26; with_reducible refine hh.mono ?_; rintro e w4 ⟨rfl, hg4⟩)
                go_roundw
                case rel => exact ⟨p + 1, by simp, by omega, RM3.out.below (below_of_grown hg4), RC3.out.below (below_of_grown hg4), hB3.trans ((below_of_grown hg4).mono hB3.size)⟩
                case measure => simp only [intOf]; omega
              · have hp' : p = k := by omega
                subst hp'
                have hpl' : ¬ (p : Int) < p := by omega
                clear hRc3 hRm3
                go_wp2
                go_ret
                exact ⟨rfl, hB3⟩
  · have hn' : (40 : Int) < n := by omega
    go_enter Try.func9, Try.ntmps9
    go_wp2_with (go_at_call 10; with_reducible refine (known _).mono ?_; rintro e w1 ⟨rfl, hB1⟩)
    go_ret
    exact ⟨rfl, hB1⟩
end Go.Proofs.Ytjecgapnlnmloaa
