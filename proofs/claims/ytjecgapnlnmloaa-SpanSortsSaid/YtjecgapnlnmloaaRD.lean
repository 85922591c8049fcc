/- A part of the proof: an interpreter of the program, shown right once, and the laws that it computes. -/
import Derived.Test.YtjecgapnlnmloaaRL
namespace Go.Proofs.Ytjecgapnlnmloaa
open Go.RowKit Go.Shelf Go.Lib Go.Sort Go.SpanLaw
set_option linter.unusedVariables false
set_option maxRecDepth 100000 in
set_option maxHeartbeats 4000000 in
theorem refSort25 (a : Option Addr) (L : List Sp) (n c : Nat) (hLn : L.length = n) (hn : n ≤ 40) (w : World) (hL : SRow w a L) :
    Calls Try.prog 25 #[.slice a n c] w fun e w' => ∃ a' c', e = .returned (.slice a' (sorts L).length c') ∧ SRow w' a' (sorts L) ∧ Below w.heap.size w w' := by
  obtain ⟨i0, hi, hz0, hz1, hz2⟩ := info_parts info23
  have HL : Aside (SRow w a L ∧ L.length = n) := ⟨hL, hLn⟩
  clear hL hLn
  have mixed : Try.prog.follows .mixedOrders = true := by kernel_rfl
  go_enter Try.func25, Try.ntmps25
  go_wp2
  go_loopw [3, 4] (fun v i wr => ∃ (k : Nat) (O : List Sp) (cnt : Nat), i = .int .i64 k ∧ k ≤ n ∧ O = outS L k ∧ O.length = cnt ∧ wr.ownsRow w.heap.size 23 2 v cnt (fl O) ∧ (cnt = 0 → v = .slice none 0 0) ∧ (v = .slice none 0 0 → cnt = 0) ∧ Below w.heap.size w wr) (fun _ i _ => n - (intOf i).toNat)
  case atStart => exact ⟨0, [], 0, rfl, Nat.zero_le _, rfl, rfl, by simpa [fl, flatK] using World.ownsRow_nil w w.heap.size 23 2, fun _ => rfl, fun _ => rfl, Below.refl _ _⟩
  case round =>
    obtain ⟨k, O, cnt, rfl, hk, hO, hOc, hown, hnil0, hnil, hB⟩ := hrel
    have hcnt : cnt ≤ k := by rw [← hOc, hO]; exact outS_length L k (by rw [HL.out.2]; exact hk)
    have HO : Aside (O = outS L k ∧ O.length = cnt) := ⟨hO, hOc⟩
    clear hO hOc
    by_cases hlt : k < n
    · have hlt' : (k : Int) < n := by omega
      obtain ⟨b, o, ha, hb, c1, c2⟩ := HL.out.1.below hB k (by rw [HL.out.2]; exact hlt)
      subst ha
      generalize hx : L.getD k (0, 0) = x at c1 c2
      have XX : Aside (L.getD k (0, 0) = x) := hx
      clear hx
      obtain ⟨x1, x2⟩ := x
      dsimp only at c1 c2
      by_cases hz : cnt = 0
      · have hv := hnil0 hz
        subst hv hz
        clear hnil0 hnil hcnt
        go_wp2
        refine wp_loop_rounds 1 ?_
        rw [rounds_succ]
        go_wp2
        go_quiet (fail)
        go_wp2
        go_quiet (fail)
        have hs := hB.size
        have d1 : ∀ q, ((wr.drewN q).alloc (.cells #[] 23)).cell? ⟨b, o + k * 2, none⟩ = some (.int .i64 x1) := fun q => Lib.cell?_alloc_some _ c1
        have d2 : ∀ q, ((wr.drewN q).alloc (.cells #[] 23)).cell? ⟨b, o + k * 2 + 1, none⟩ = some (.int .i64 x2) := fun q => Lib.cell?_alloc_some _ c2
        go_wp2_with (first
          | (at_builtin; refine wpList_append_own_none rfl (.tmp 45) (.tmp 48) 36 rfl w.heap.size 23 i0 2 Try.underlying36 hi _ _ _ rfl (own_empty (wr.drewN _) w.heap.size (by exact hs)) rfl ?_)
          | (at_builtin; refine wpList_append_own _ rfl (.tmp 50) (.tmp 55) 36 rfl w.heap.size 23 i0 (sp 0 0) 2 16 Try.underlying36 hi hz0 hz1 hz2 rfl (by decide) _ _ _ rfl ((own_empty (wr.drewN _) w.heap.size (by exact hs)).alloc _) ⟨wr.heap.size + 1, 0, none⟩ 1 1 [.int .i64 x1, .int .i64 x2] rfl rfl ?c1 ?c2 ?c3 ?c4 ?c5 ?_))
        case c1 =>
          intro j u hj
          match j, hj with
          | 0, hj => simp at hj; subst hj; exact new_cell _ _ _ _ _ _ (by simp) rfl
          | 1, hj => simp at hj; subst hj; exact new_cell _ _ _ _ _ _ (by simp) rfl
        case c2 => intro u hu; simp at hu; rcases hu with rfl | rfl <;> rfl
        case c3 => decide
        case c4 => decide
        case c5 => simp; exact Nat.le_trans hs (by omega)
        · intro v' w3 hown' hgrow hnil'
          go_wp2_with (at_builtin; refine wpList_append_own_none rfl (.tmp 57) (.tmp 60) 36 rfl w.heap.size 23 i0 2 Try.underlying36 hi _ _ _ rfl hown' rfl ?_)
          go_roundw
          case rel => exact ⟨k + 1, [(x1, x2)], 1, by simp, by omega, by rw [outS_succ L k (by rw [HL.out.2]; exact hlt), XX.out, ← HO.out.1, List.length_eq_zero_iff.1 HO.out.2]; rfl, rfl, by rw [fl_sing]; exact hown', fun h => absurd h (by decide), fun h => (hnil' h).elim, ((((below_drewN hB _).alloc hs _).alloc (by simp; exact Nat.le_trans hs (by omega)) _).grown hgrow (by simp; exact Nat.le_trans hs (by omega)) (fun j hj => by cases hj; exact hs))⟩
          case measure => simp only [intOf]; omega
      · rcases hown.2 with ⟨hv, _⟩ | ⟨g, cap, cur, rfl, hbase, hg, hcap1, hcap2, hcur, htake⟩
        · exact absurd (hnil hv) hz
        · have hH := holds_of_own' HO.out.2 hown
          have hgl : g < wr.heap.size := (Array.getElem?_eq_some_iff.1 hg).1
          have hRO : SRow wr (some ⟨g, 0, none⟩) O := srow_of_holds hH hgl (by simp) (fun j hj => by rw [getElem!_pos _ j (by simpa using hj)]; simp [hj])
          have RO : Aside (SRow wr (some ⟨g, 0, none⟩) O) := hRO
          have CC : Aside (wr.cell? ⟨b, o + k * 2, none⟩ = some (.int .i64 x1) ∧ wr.cell? ⟨b, o + k * 2 + 1, none⟩ = some (.int .i64 x2)) := ⟨c1, c2⟩
          have OWN : Aside (wr.ownsRow w.heap.size 23 2 (.slice (some ⟨g, 0, none⟩) cnt cap) cnt (fl O)) := hown
          clear hown hH hRO hnil0 hnil hg hcur htake c1 c2
          go_wp2
          go_loopw [5] (fun s5 W => ∃ m : Nat, s5 = .int .i64 m ∧ m ≤ cnt ∧ Below wr.heap.size wr W ∧ ∀ j, j < m → Go.SpanLaw.ahead (O.getD j (0, 0)) (x1, x2) = true) (fun s5 _ => cnt - (intOf s5).toNat)
          case atStart => exact ⟨0, rfl, Nat.zero_le _, Below.refl _ _, fun j hj => absurd hj (Nat.not_lt_zero j)⟩
          case round =>
            obtain ⟨m, rfl, hm, hBW, hall⟩ := hrel
            have hbW : b < _ := Nat.lt_of_lt_of_le hb hBW.size
            have hgW : g < _ := Nat.lt_of_lt_of_le hgl hBW.size
            have c1 := (hBW.cell (p := ⟨b, o + k * 2, none⟩) hb).trans CC.out.1
            have c2 := (hBW.cell (p := ⟨b, o + k * 2 + 1, none⟩) hb).trans CC.out.2
            have ROW := RO.out.below hBW
            have AL : Aside (∀ j, j < m → Go.SpanLaw.ahead (O.getD j (0, 0)) (x1, x2) = true) := hall
            have RW : Aside (SRow _ (some ⟨g, 0, none⟩) O) := ROW
            clear hall
            by_cases hml : m < cnt
            · have hml' : (m : Int) < cnt := by omega
              obtain ⟨g2, o2, he2, _, e1, e2⟩ := ROW m (by rw [HO.out.2]; exact hml)
              cases he2
              clear ROW
              generalize hy : O.getD m (0, 0) = y at e1 e2
              obtain ⟨y1, y2⟩ := y
              have YY : Aside (O.getD m (0, 0) = (y1, y2)) := hy
              clear hy
              dsimp only at e1 e2
              simp only [Nat.zero_add] at e1 e2
              have f1 := cell_grown hgW e1
              have f2 := cell_grown hgW e2
              have f3 := cell_grown hbW c1
              have f4 := cell_grown hbW c2
              have hless := fun n os => less40 y1 y2 x1 x2 (grow (wr.drewN n) os)
              have hBW' := hBW
              cases hah : Go.SpanLaw.ahead (y1, y2) (x1, x2) with
              | true =>
                rw [hah] at hless
                go_wp2_with fail
                refine wp_region_quiet_grown (by assumption) (by kernel_rfl) ?_
                repeat (go_big_quiet_step (first | (go_at_call 40; with_reducible refine Calls.grown_of (hless _ _))))
                refine wpQuiet_nil ?_
                intro w' hw'
                obtain ⟨⟨nq, osq⟩, hw''⟩ := hw'
                subst hw''
                go_wp2
                go_roundw
                case rel => exact ⟨m + 1, by simp, by omega, hBW.trans ((below_of_grown ⟨nq, osq, rfl⟩).mono hBW.size), fun j hj => by
                  by_cases e : j = m
                  · subst e; rw [YY.out]; exact hah
                  · exact AL.out j (by omega)⟩
                case measure => simp only [intOf]; omega
              | false =>
                rw [hah] at hless
                go_wp2_with fail
                refine wp_region_quiet_grown (by assumption) (by kernel_rfl) ?_
                repeat (go_big_quiet_step (first | (go_at_call 40; with_reducible refine Calls.grown_of (hless _ _))))
                refine wpQuiet_nil ?_
                intro w' hw'
                obtain ⟨⟨nq, osq⟩, hw''⟩ := hw'
                subst hw''
                obtain ⟨W1, hW1⟩ : ∃ W1, W1 = grow (wr.drewN nq) osq := ⟨_, rfl⟩
                rw [← hW1]
                have hB1 : Below wr.heap.size wr W1 := by rw [hW1]; exact below_of_grown ⟨nq, osq, rfl⟩
                clear hW1
                have hb1 : b < W1.heap.size := Nat.lt_of_lt_of_le hbW hB1.size
                have hg1 : g < W1.heap.size := Nat.lt_of_lt_of_le hgW hB1.size
                have d1 := (hB1.cell (p := ⟨b, o + k * 2, none⟩) hbW).trans c1
                have d2 := (hB1.cell (p := ⟨b, o + k * 2 + 1, none⟩) hbW).trans c2
                have RW1 : Aside (SRow W1 (some ⟨g, 0, none⟩) O) := RW.out.below hB1
                have OW1 : Aside (W1.ownsRow w.heap.size 23 2 (.slice (some ⟨g, 0, none⟩) cnt cap) cnt (fl O)) := own_below (own_below OWN.out hBW) hB1
                have hBB : Below w.heap.size w W1 := (hB.trans (hBW.mono hB.size)).trans (hB1.mono (Nat.le_trans hB.size hBW.size))
                have hs1 : w.heap.size ≤ W1.heap.size := hBB.size
                obtain ⟨g3, o3, he3, _, e1', e2'⟩ := RW1.out m (by rw [HO.out.2]; exact hml)
                cases he3
                rw [YY.out] at e1' e2'
                simp only [Nat.zero_add] at e1' e2'
                clear c1 c2 e1 e2 f1 f2 f3 f4 hless hbW hgW
                by_cases t1 : y1 = x1
                · by_cases t2 : y2 = x2
                  · subst t1 t2
                    go_wp2
                    go_quiet (fail)
                    go_wp2
                    go_roundw
                    case rel => exact ⟨k + 1, O, cnt, by simp, by omega, by rw [outS_succ L k (by rw [HL.out.2]; exact hlt), XX.out, ← HO.out.1, ins_at O _ m (by rw [HO.out.2]; exact hm) AL.out (fun _ => by rw [YY.out]; exact ahead_irrefl _), if_pos ⟨by rw [HO.out.2]; exact hml, YY.out⟩], HO.out.2, OW1.out, (fun h => absurd h hz), (fun h => by cases h), below_drewN hBB _⟩
                    case measure => simp only [intOf]; omega
                  · go_wp2
                    go_quiet (fail)
                    have p1 : ∀ q, ((W1.drewN q).alloc (.cells #[] 23)).cell? ⟨b, o + k * 2, none⟩ = some (.int .i64 x1) := fun q => Lib.cell?_alloc_some _ d1
                    have p2 : ∀ q, ((W1.drewN q).alloc (.cells #[] 23)).cell? ⟨b, o + k * 2 + 1, none⟩ = some (.int .i64 x2) := fun q => Lib.cell?_alloc_some _ d2
                    have BA1 : Aside (∀ q, Below W1.heap.size W1 ((W1.drewN q).alloc (.cells #[] 23))) := fun q => (below_drewN (Below.refl _ _) q).alloc (Nat.le_refl _) _
                    have HOl : Aside (O.length = cnt) := HO.out.2
                    go_wp2_with (at_builtin; refine wpList_append_own _ rfl (.tmp 45) (.tmp 48) 36 rfl W1.heap.size 23 i0 (sp 0 0) 2 16 Try.underlying36 hi hz0 hz1 hz2 rfl (by decide) _ _ _ rfl (own_empty (W1.drewN _) W1.heap.size (Nat.le_refl _)) ⟨g, 0, none⟩ m cap ((fl O).take (m * 2)) rfl ?l1 ?l2 ?l3 ?l4 ?l5 ?l6 ?_)
                    case l1 => rw [List.length_take, fl_length, HOl.out]; omega
                    case l2 => exact fun j u hu => take_news (RW1.out.below (BA1.out _)) j u hu
                    case l3 => exact take_one O m
                    case l4 => unfold maxLen; omega
                    case l5 => omega
                    case l6 => simp
                    intro v1 w3 hown1 hgrow1 hnil1
                    have hB3 : Below W1.heap.size W1 w3 := (BA1.out _).grown hgrow1 (BA1.out _).size (fun j hj => by cases hj; exact Nat.le_refl _)
                    have q1 := (hB3.cell (p := ⟨b, o + k * 2, none⟩) hb1).trans d1
                    have q2 := (hB3.cell (p := ⟨b, o + k * 2 + 1, none⟩) hb1).trans d2
                    clear p1 p2 d1 d2 hgrow1
                    go_wp2_with (at_builtin; refine wpList_append_own _ rfl (.tmp 50) (.tmp 55) 36 rfl W1.heap.size 23 i0 (sp 0 0) 2 16 Try.underlying36 hi hz0 hz1 hz2 rfl (by decide) _ _ _ rfl (hown1.alloc _) ⟨w3.heap.size, 0, none⟩ 1 1 [.int .i64 x1, .int .i64 x2] rfl ?m1 ?m2 ?m3 ?m4 ?m5 ?m6 ?_)
                    case m1 => rfl
                    case m2 =>
                      intro j u hj
                      match j, hj with
                      | 0, hj => simp at hj; subst hj; exact new_cell _ _ _ _ _ _ rfl rfl
                      | 1, hj => simp at hj; subst hj; exact new_cell _ _ _ _ _ _ rfl rfl
                    case m3 => intro u hu; simp at hu; rcases hu with rfl | rfl <;> rfl
                    case m4 => unfold maxLen; omega
                    case m5 => omega
                    case m6 => exact Nat.le_trans hB3.size (by simp)
                    intro v2 w4 hown2 hgrow2 hnil2
                    have hB4 : Below W1.heap.size W1 w4 := (hB3.alloc hB3.size _).grown hgrow2 (Nat.le_trans hB3.size (by simp)) (fun j hj => (hown1.lt j hj).1)
                    clear q1 q2 hgrow2 hown1
                    go_wp2_with (at_builtin; refine wpList_append_own _ rfl (.tmp 57) (.tmp 60) 36 rfl W1.heap.size 23 i0 (sp 0 0) 2 16 Try.underlying36 hi hz0 hz1 hz2 rfl (by decide) _ _ _ rfl hown2 ⟨g, m * 2, none⟩ (cnt - m) (cap - m) ((fl O).drop (m * 2)) rfl ?n1 ?n2 ?n3 ?n4 ?n5 ?n6 ?_)
                    case n1 => rw [List.length_drop, fl_length, HOl.out]; omega
                    case n2 => exact fun j u hu => drop_news (RW1.out.below hB4) j u hu
                    case n3 => exact drop_one O m
                    case n4 => unfold maxLen; omega
                    case n5 => omega
                    case n6 => exact hB4.size
                    intro v3 w5 hown3 hgrow3 hnil3
                    have hB5 : Below W1.heap.size W1 w5 := hB4.grown hgrow3 hB4.size (fun j hj => (hown2.lt j hj).1)
                    have HN : Aside (v3 = .slice none 0 0 → False) := by first | exact fun h => (hnil3 h).elim | exact fun h => (hnil2 (hnil3.1 h).1).elim | (intro h; simp_all)
                    clear hgrow3 hown2 hnil3 hnil2 hnil1
                    go_wp2
                    go_roundw
                    case rel => exact ⟨k + 1, O.take m ++ (x1, x2) :: O.drop m, m + 1 + (cnt - m), by simp, by omega, by rw [outS_succ L k (by rw [HL.out.2]; exact hlt), XX.out, ← HO.out.1, ins_at O _ m (by rw [HOl.out]; omega) AL.out (fun _ => by rw [YY.out, hah]; decide), if_neg (fun h => t2 (congrArg Prod.snd (YY.out.symm.trans h.2)))], by rw [List.length_append, List.length_take, List.length_cons, List.length_drop, HOl.out]; omega, World.ownsRow.mono (by rw [fl_put' O x1 x2 m (by rw [HOl.out]; omega)]; exact hown3) hs1, (fun h => by omega), (fun h => (HN.out h).elim), hBB.trans (hB5.mono hs1)⟩
                    case measure => simp only [intOf]; omega
                · go_wp2
                  go_quiet (fail)
                  have p1 : ∀ q, ((W1.drewN q).alloc (.cells #[] 23)).cell? ⟨b, o + k * 2, none⟩ = some (.int .i64 x1) := fun q => Lib.cell?_alloc_some _ d1
                  have p2 : ∀ q, ((W1.drewN q).alloc (.cells #[] 23)).cell? ⟨b, o + k * 2 + 1, none⟩ = some (.int .i64 x2) := fun q => Lib.cell?_alloc_some _ d2
                  have BA1 : Aside (∀ q, Below W1.heap.size W1 ((W1.drewN q).alloc (.cells #[] 23))) := fun q => (below_drewN (Below.refl _ _) q).alloc (Nat.le_refl _) _
                  have HOl : Aside (O.length = cnt) := HO.out.2
                  go_wp2_with (at_builtin; refine wpList_append_own _ rfl (.tmp 45) (.tmp 48) 36 rfl W1.heap.size 23 i0 (sp 0 0) 2 16 Try.underlying36 hi hz0 hz1 hz2 rfl (by decide) _ _ _ rfl (own_empty (W1.drewN _) W1.heap.size (Nat.le_refl _)) ⟨g, 0, none⟩ m cap ((fl O).take (m * 2)) rfl ?l1 ?l2 ?l3 ?l4 ?l5 ?l6 ?_)
                  case l1 => rw [List.length_take, fl_length, HOl.out]; omega
                  case l2 => exact fun j u hu => take_news (RW1.out.below (BA1.out _)) j u hu
                  case l3 => exact take_one O m
                  case l4 => unfold maxLen; omega
                  case l5 => omega
                  case l6 => simp
                  intro v1 w3 hown1 hgrow1 hnil1
                  have hB3 : Below W1.heap.size W1 w3 := (BA1.out _).grown hgrow1 (BA1.out _).size (fun j hj => by cases hj; exact Nat.le_refl _)
                  have q1 := (hB3.cell (p := ⟨b, o + k * 2, none⟩) hb1).trans d1
                  have q2 := (hB3.cell (p := ⟨b, o + k * 2 + 1, none⟩) hb1).trans d2
                  clear p1 p2 d1 d2 hgrow1
                  go_wp2_with (at_builtin; refine wpList_append_own _ rfl (.tmp 50) (.tmp 55) 36 rfl W1.heap.size 23 i0 (sp 0 0) 2 16 Try.underlying36 hi hz0 hz1 hz2 rfl (by decide) _ _ _ rfl (hown1.alloc _) ⟨w3.heap.size, 0, none⟩ 1 1 [.int .i64 x1, .int .i64 x2] rfl ?m1 ?m2 ?m3 ?m4 ?m5 ?m6 ?_)
                  case m1 => rfl
                  case m2 =>
                    intro j u hj
                    match j, hj with
                    | 0, hj => simp at hj; subst hj; exact new_cell _ _ _ _ _ _ rfl rfl
                    | 1, hj => simp at hj; subst hj; exact new_cell _ _ _ _ _ _ rfl rfl
                  case m3 => intro u hu; simp at hu; rcases hu with rfl | rfl <;> rfl
                  case m4 => unfold maxLen; omega
                  case m5 => omega
                  case m6 => exact Nat.le_trans hB3.size (by simp)
                  intro v2 w4 hown2 hgrow2 hnil2
                  have hB4 : Below W1.heap.size W1 w4 := (hB3.alloc hB3.size _).grown hgrow2 (Nat.le_trans hB3.size (by simp)) (fun j hj => (hown1.lt j hj).1)
                  clear q1 q2 hgrow2 hown1
                  go_wp2_with (at_builtin; refine wpList_append_own _ rfl (.tmp 57) (.tmp 60) 36 rfl W1.heap.size 23 i0 (sp 0 0) 2 16 Try.underlying36 hi hz0 hz1 hz2 rfl (by decide) _ _ _ rfl hown2 ⟨g, m * 2, none⟩ (cnt - m) (cap - m) ((fl O).drop (m * 2)) rfl ?n1 ?n2 ?n3 ?n4 ?n5 ?n6 ?_)
                  case n1 => rw [List.length_drop, fl_length, HOl.out]; omega
                  case n2 => exact fun j u hu => drop_news (RW1.out.below hB4) j u hu
                  case n3 => exact drop_one O m
                  case n4 => unfold maxLen; omega
                  case n5 => omega
                  case n6 => exact hB4.size
                  intro v3 w5 hown3 hgrow3 hnil3
                  have hB5 : Below W1.heap.size W1 w5 := hB4.grown hgrow3 hB4.size (fun j hj => (hown2.lt j hj).1)
                  have HN : Aside (v3 = .slice none 0 0 → False) := by first | exact fun h => (hnil3 h).elim | exact fun h => (hnil2 (hnil3.1 h).1).elim | (intro h; simp_all)
                  clear hgrow3 hown2 hnil3 hnil2 hnil1
                  go_wp2
                  go_roundw
                  case rel => exact ⟨k + 1, O.take m ++ (x1, x2) :: O.drop m, m + 1 + (cnt - m), by simp, by omega, by rw [outS_succ L k (by rw [HL.out.2]; exact hlt), XX.out, ← HO.out.1, ins_at O _ m (by rw [HOl.out]; omega) AL.out (fun _ => by rw [YY.out, hah]; decide), if_neg (fun h => t1 (congrArg Prod.fst (YY.out.symm.trans h.2)))], by rw [List.length_append, List.length_take, List.length_cons, List.length_drop, HOl.out]; omega, World.ownsRow.mono (by rw [fl_put' O x1 x2 m (by rw [HOl.out]; omega)]; exact hown3) hs1, (fun h => by omega), (fun h => (HN.out h).elim), hBB.trans (hB5.mono hs1)⟩
                  case measure => simp only [intOf]; omega
            · have hmc : m = cnt := by omega
              subst hmc
              have hml' : ¬ (m : Int) < m := by omega
              clear ROW
              go_wp2_with fail
              refine wp_region_quiet_grown (by assumption) (by kernel_rfl) ?_
              repeat (go_big_quiet_step (fail))
              refine wpQuiet_nil ?_
              intro w' hw'
              obtain ⟨⟨nq, osq⟩, hw''⟩ := hw'
              subst hw''
              obtain ⟨W1, hW1⟩ : ∃ W1, W1 = grow (wr.drewN nq) osq := ⟨_, rfl⟩
              rw [← hW1]
              have hB1 : Below wr.heap.size wr W1 := by rw [hW1]; exact below_of_grown ⟨nq, osq, rfl⟩
              clear hW1
              have hb1 : b < W1.heap.size := Nat.lt_of_lt_of_le hbW hB1.size
              have hg1 : g < W1.heap.size := Nat.lt_of_lt_of_le hgW hB1.size
              have d1 := (hB1.cell (p := ⟨b, o + k * 2, none⟩) hbW).trans c1
              have d2 := (hB1.cell (p := ⟨b, o + k * 2 + 1, none⟩) hbW).trans c2
              have RW1 : Aside (SRow W1 (some ⟨g, 0, none⟩) O) := RW.out.below hB1
              have OW1 : Aside (W1.ownsRow w.heap.size 23 2 (.slice (some ⟨g, 0, none⟩) m cap) m (fl O)) := own_below (own_below OWN.out hBW) hB1
              have hBB : Below w.heap.size w W1 := (hB.trans (hBW.mono hB.size)).trans (hB1.mono (Nat.le_trans hB.size hBW.size))
              have hs1 : w.heap.size ≤ W1.heap.size := hBB.size
              clear c1 c2 hbW hgW
              go_wp2
              go_quiet (fail)
              have p1 : ∀ q, ((W1.drewN q).alloc (.cells #[] 23)).cell? ⟨b, o + k * 2, none⟩ = some (.int .i64 x1) := fun q => Lib.cell?_alloc_some _ d1
              have p2 : ∀ q, ((W1.drewN q).alloc (.cells #[] 23)).cell? ⟨b, o + k * 2 + 1, none⟩ = some (.int .i64 x2) := fun q => Lib.cell?_alloc_some _ d2
              have BA1 : Aside (∀ q, Below W1.heap.size W1 ((W1.drewN q).alloc (.cells #[] 23))) := fun q => (below_drewN (Below.refl _ _) q).alloc (Nat.le_refl _) _
              have HOl : Aside (O.length = m) := HO.out.2
              go_wp2_with (at_builtin; refine wpList_append_own _ rfl (.tmp 45) (.tmp 48) 36 rfl W1.heap.size 23 i0 (sp 0 0) 2 16 Try.underlying36 hi hz0 hz1 hz2 rfl (by decide) _ _ _ rfl (own_empty (W1.drewN _) W1.heap.size (Nat.le_refl _)) ⟨g, 0, none⟩ m cap ((fl O).take (m * 2)) rfl ?l1 ?l2 ?l3 ?l4 ?l5 ?l6 ?_)
              case l1 => rw [List.length_take, fl_length, HOl.out]; omega
              case l2 => exact fun j u hu => take_news (RW1.out.below (BA1.out _)) j u hu
              case l3 => exact take_one O m
              case l4 => unfold maxLen; omega
              case l5 => omega
              case l6 => simp
              intro v1 w3 hown1 hgrow1 hnil1
              have hB3 : Below W1.heap.size W1 w3 := (BA1.out _).grown hgrow1 (BA1.out _).size (fun j hj => by cases hj; exact Nat.le_refl _)
              have q1 := (hB3.cell (p := ⟨b, o + k * 2, none⟩) hb1).trans d1
              have q2 := (hB3.cell (p := ⟨b, o + k * 2 + 1, none⟩) hb1).trans d2
              clear p1 p2 d1 d2 hgrow1
              go_wp2_with (at_builtin; refine wpList_append_own _ rfl (.tmp 50) (.tmp 55) 36 rfl W1.heap.size 23 i0 (sp 0 0) 2 16 Try.underlying36 hi hz0 hz1 hz2 rfl (by decide) _ _ _ rfl (hown1.alloc _) ⟨w3.heap.size, 0, none⟩ 1 1 [.int .i64 x1, .int .i64 x2] rfl ?m1 ?m2 ?m3 ?m4 ?m5 ?m6 ?_)
              case m1 => rfl
              case m2 =>
                intro j u hj
                match j, hj with
                | 0, hj => simp at hj; subst hj; exact new_cell _ _ _ _ _ _ rfl rfl
                | 1, hj => simp at hj; subst hj; exact new_cell _ _ _ _ _ _ rfl rfl
              case m3 => intro u hu; simp at hu; rcases hu with rfl | rfl <;> rfl
              case m4 => unfold maxLen; omega
              case m5 => omega
              case m6 => exact Nat.le_trans hB3.size (by simp)
              intro v2 w4 hown2 hgrow2 hnil2
              have hB4 : Below W1.heap.size W1 w4 := (hB3.alloc hB3.size _).grown hgrow2 (Nat.le_trans hB3.size (by simp)) (fun j hj => (hown1.lt j hj).1)
              clear q1 q2 hgrow2 hown1
              obtain ⟨ad, had⟩ : ∃ ad : Addr, (if cap = m then some (⟨g, 0, none⟩ : Addr) else some ⟨g, m * 2, none⟩) = some ad := by split <;> exact ⟨_, rfl⟩
              go_wp2_with (at_builtin; refine wpList_append_own _ rfl (.tmp 57) (.tmp 60) 36 rfl W1.heap.size 23 i0 (sp 0 0) 2 16 Try.underlying36 hi hz0 hz1 hz2 rfl (by decide) _ _ _ rfl hown2 ad 0 (cap - m) ((fl O).drop (m * 2)) ?n0 ?n1 ?n2 ?n3 ?n4 ?n5 ?n6 ?_)
              case n0 => first | rfl | exact congrArg (fun z => Value.slice z 0 (cap - m)) had
              case n1 => rw [List.length_drop, fl_length, HOl.out]; omega
              case n2 => intro j u hu; rw [List.drop_eq_nil_of_le (by rw [fl_length, HOl.out]; exact Nat.le_refl _)] at hu; cases hu
              case n3 => exact drop_one O m
              case n4 => unfold maxLen; omega
              case n5 => omega
              case n6 => exact hB4.size
              intro v3 w5 hown3 hgrow3 hnil3
              have hB5 : Below W1.heap.size W1 w5 := hB4.grown hgrow3 hB4.size (fun j hj => (hown2.lt j hj).1)
              have HN : Aside (v3 = .slice none 0 0 → False) := by first | exact fun h => (hnil3 h).elim | exact fun h => (hnil2 (hnil3.1 h).1).elim | (intro h; simp_all)
              clear hgrow3 hown2 hnil3 hnil2 hnil1
              go_wp2
              go_roundw
              case rel => exact ⟨k + 1, O.take m ++ (x1, x2) :: O.drop m, m + 1, by simp, by omega, by rw [outS_succ L k (by rw [HL.out.2]; exact hlt), XX.out, ← HO.out.1, ins_at O _ m (by rw [HOl.out]; omega) AL.out (fun h => absurd h (by rw [HOl.out]; omega)), if_neg (fun h => absurd h.1 (by rw [HOl.out]; omega))], by rw [List.length_append, List.length_take, List.length_cons, List.length_drop, HOl.out]; omega, World.ownsRow.mono (by rw [fl_put' O x1 x2 m (by rw [HOl.out]; omega)]; exact hown3) hs1, (fun h => by omega), (fun h => (HN.out h).elim), hBB.trans (hB5.mono hs1)⟩
              case measure => simp only [intOf]; omega
    · have hk' : k = n := by omega
      subst hk'
      have hlt' : ¬ (k : Int) < k := by omega
      have hso : O = sorts L := by rw [HO.out.1, ← outS_all, HL.out.2]
      have SO : Aside (O = sorts L) := hso
      clear hso
      by_cases hz : cnt = 0
      · have hv := hnil0 hz
        subst hv
        have hO0 : sorts L = [] := by rw [← SO.out]; exact List.length_eq_zero_iff.1 (by rw [HO.out.2]; exact hz)
        have H0 : Aside (sorts L = []) := hO0
        clear hO0 hown hnil0 hnil
        go_wp2
        go_ret
        rw [H0.out]
        exact ⟨none, ⟨0, rfl⟩, fun i hi => absurd hi (Nat.not_lt_zero i), hB⟩
      · rcases hown.2 with ⟨hv, _⟩ | ⟨g, cap, cur, rfl, hbase, hg, hcap1, hcap2, hcur, htake⟩
        · exact absurd (hnil hv) hz
        · have hH := holds_of_own' HO.out.2 hown
          have hgl : g < wr.heap.size := (Array.getElem?_eq_some_iff.1 hg).1
          have hRO : SRow wr (some ⟨g, 0, none⟩) O := srow_of_holds hH hgl (by simp) (fun j hj => by rw [getElem!_pos _ j (by simpa using hj)]; simp [hj])
          have RO : Aside (SRow wr (some ⟨g, 0, none⟩) O) := hRO
          clear hown hH hRO hnil0 hnil hg hcur htake
          go_wp2
          go_ret
          rw [← SO.out, HO.out.2]
          exact ⟨_, ⟨cap, rfl⟩, RO.out, hB⟩
end Go.Proofs.Ytjecgapnlnmloaa
