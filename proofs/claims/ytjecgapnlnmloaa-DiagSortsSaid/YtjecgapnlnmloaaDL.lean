/- A part of the proof: an interpreter of the program, shown right once, and the laws that it computes. -/
import Derived.Test.YtjecgapnlnmloaaDK
namespace Go.Proofs.Ytjecgapnlnmloaa
open Go.RowKit Go.Shelf Go.Lib Go.Sort Go.DiagLaw
set_option linter.unusedVariables false
namespace D
set_option maxRecDepth 100000 in
set_option maxHeartbeats 1000000 in
theorem sort22 (a : Option Addr) (L : List Dg) (n c : Nat) (hLn : L.length = n) (hn : n ≤ 60) (w : World) (hL : DRow w a L) :
    Calls Try.prog 22 #[.slice a n c] w fun e w' => ∃ a' c', e = .returned (.slice a' (sortD L).length c') ∧ DRow w' a' (sortD L) ∧ Below w.heap.size w w' := by
  obtain ⟨i0, hi, hz0, hz1, hz2⟩ := info_parts info34
  have hsz34 : (Try.prog.info? 34).map (·.size) = some 3 := by rw [hi]; simp [hz1]
  have HL : Aside (DRow w a L ∧ L.length = n) := ⟨hL, hLn⟩
  clear hL hLn
  have mixed : Try.prog.follows .mixedOrders = true := by kernel_rfl
  go_enter Try.func22, Try.ntmps22
  go_wp2
  go_loopw [3, 4] (fun v i wr => ∃ (k : Nat) (O : List Dg) (cnt : Nat), i = .int .i64 k ∧ k ≤ n ∧ Strict O ∧ (∀ z, z ∈ O ↔ z ∈ L.take k) ∧ O.length = cnt ∧ cnt ≤ k ∧ wr.ownsRow w.heap.size 34 3 v cnt (fl O) ∧ Below w.heap.size w wr) (fun _ i _ => n - (intOf i).toNat)
  case atStart => exact ⟨0, [], 0, rfl, Nat.zero_le _, List.Pairwise.nil, fun z => by simp, rfl, Nat.le_refl _, by simpa [fl, flatK] using World.ownsRow_nil w w.heap.size 34 3, Below.refl _ _⟩
  case round =>
    obtain ⟨k, O, cnt, rfl, hk, hO, hmem, hOc, hcnt, hown, hB⟩ := hrel
    obtain ⟨a0, s0, rfl, hRO⟩ := drow_of_own hOc hown
    have HO : Aside (Strict O ∧ (∀ z, z ∈ O ↔ z ∈ L.take k) ∧ O.length = cnt) := ⟨hO, hmem, hOc⟩
    have RO : Aside (DRow wr a0 O) := hRO
    have OWN : Aside (wr.ownsRow w.heap.size 34 3 (.slice a0 cnt s0) cnt (fl O)) := hown
    clear hO hmem hOc hRO hown
    by_cases hlt : k < n
    · have hlt' : (k : Int) < n := by omega
      obtain ⟨b, o, ha, hb0, c0, c1, c2⟩ := HL.out.1 k (by rw [HL.out.2]; exact hlt)
      subst ha
      generalize hx : L.getD k (0, 0, 0) = x at c0 c1 c2
      have XX : Aside (L.getD k (0, 0, 0) = x) := hx
      clear hx
      obtain ⟨x0, x1, x2⟩ := x
      dsimp only at c0 c1 c2
      have C0 : Aside (w.cell? ⟨b, o + k * 3, none⟩ = some (.int .i64 x0) ∧ w.cell? ⟨b, o + k * 3 + 1, none⟩ = some (.int .i64 x1) ∧ w.cell? ⟨b, o + k * 3 + 2, none⟩ = some (.int .i64 x2)) := ⟨c0, c1, c2⟩
      have hb : b < wr.heap.size := Nat.lt_of_lt_of_le hb0 hB.size
      have c0 := (hB.cell (p := ⟨b, o + k * 3, none⟩) hb0).trans c0
      have c1 := (hB.cell (p := ⟨b, o + k * 3 + 1, none⟩) hb0).trans c1
      have c2 := (hB.cell (p := ⟨b, o + k * 3 + 2, none⟩) hb0).trans c2
      have CC : Aside (wr.cell? ⟨b, o + k * 3, none⟩ = some (.int .i64 x0) ∧ wr.cell? ⟨b, o + k * 3 + 1, none⟩ = some (.int .i64 x1) ∧ wr.cell? ⟨b, o + k * 3 + 2, none⟩ = some (.int .i64 x2)) := ⟨c0, c1, c2⟩
      clear c0 c1 c2
      go_wp2
      go_loopw [5] (fun s5 W => ∃ m : Nat, s5 = .int .i64 m ∧ m ≤ cnt ∧ Below wr.heap.size wr W ∧ ∀ j, m ≤ j → j < cnt → Go.DiagLaw.ahead (x0, x1, x2) (O.getD j (0, 0, 0)) = true) (fun s5 _ => (intOf s5).toNat)
      case atStart => exact ⟨cnt, rfl, Nat.le_refl _, Below.refl _ _, fun j h1 h2 => absurd h2 (by omega)⟩
      case round =>
        obtain ⟨m, rfl, hm, hBW, hall⟩ := hrel
        have hbW : b < _ := Nat.lt_of_lt_of_le hb hBW.size
        have c0 := (hBW.cell (p := ⟨b, o + k * 3, none⟩) hb).trans CC.out.1
        have c1 := (hBW.cell (p := ⟨b, o + k * 3 + 1, none⟩) hb).trans CC.out.2.1
        have c2 := (hBW.cell (p := ⟨b, o + k * 3 + 2, none⟩) hb).trans CC.out.2.2
        have AL : Aside (∀ j, m ≤ j → j < cnt → Go.DiagLaw.ahead (x0, x1, x2) (O.getD j (0, 0, 0)) = true) := hall
        clear hall
        by_cases hm0 : m = 0
        · subst hm0
          have hz : ¬ (0 : Int) < ((0 : Nat) : Int) := by omega
          obtain ⟨W1, hW1e⟩ : ∃ W1, W1 = wr := ⟨_, rfl⟩
          rw [← hW1e] at hbW c0 c1 c2 hBW ⊢
          have hBB : Below w.heap.size w W1 := hB.trans (hBW.mono hB.size)
          have hs1 : w.heap.size ≤ W1.heap.size := hBB.size
          have OW1 : Aside (W1.ownsRow w.heap.size 34 3 (.slice a0 cnt s0) cnt (fl O)) := own_below OWN.out hBW
          have NE : Aside (∀ j, j + 1 = 0 → ¬ Go.DiagLaw.ahead (x0, x1, x2) (O.getD j (0, 0, 0)) = true ∧ O.getD j (0, 0, 0) ≠ (x0, x1, x2)) := fun j hj => absurd hj (by omega)
          clear hW1e
          go_wp2_with fail
          go_quiet (fail)
          go_wp2
          go_quiet (fail)
          have HOl : Aside (O.length = cnt) := HO.out.2.2
          go_wp2_with (at_builtin; refine wpList_append_own _ rfl (.tmp 44) (.tmp 46) 29 rfl w.heap.size 34 i0 (dg 0 0 0) 3 24 Try.underlying29 hi hz0 hz1 hz2 rfl (by decide) _ _ _ rfl ((own_below OW1.out (below_drewN (Below.refl _ _) _)).alloc _) ⟨W1.heap.size, 0, none⟩ 1 1 [.int .i64 0, .int .i64 0, .int .i64 0] rfl rfl ?c1 ?c2 ?c3 ?c4 ?c5 ?_)
          case c1 =>
            intro j u hj
            match j, hj with
            | 0, hj => simp at hj; subst hj; exact new_cell _ _ _ _ _ _ (by simp) rfl
            | 1, hj => simp at hj; subst hj; exact new_cell _ _ _ _ _ _ (by simp) rfl
            | 2, hj => simp at hj; subst hj; exact new_cell _ _ _ _ _ _ (by simp) rfl
          case c2 => intro u hu; simp at hu; rcases hu with rfl | rfl | rfl <;> rfl
          case c3 => unfold maxLen; omega
          case c4 => omega
          case c5 => simp; omega
          intro v1 w3 hown1 hgrow1 hnil1
          have hB3 : Below w.heap.size w w3 := (hBB.trans (((below_drewN (Below.refl _ W1) _).alloc (by simp) _).mono hs1)).grown hgrow1 (by simp; omega) (fun j hj => (OW1.out.lt j hj).1)
          have hcell := (hB3.size)
          rcases hown1.2 with ⟨_, hv0⟩ | ⟨g1, cap1, cur, rfl, hbase, hgc, hcap1, hcap2, hcur, htake⟩
          · omega
          have SRC : Aside (∀ j v, ((fl O).drop (0 * 3))[j]? = some v → w3.cell? ⟨g1, 0 * 3 + j, none⟩ = some v) := by
            intro j v hj
            rw [List.getElem?_drop] at hj
            have hl := (List.getElem?_eq_some_iff.1 hj).1
            have hl2 := hl
            rw [fl_length, HOl.out] at hl2
            rw [hown1.cellAt _ (by omega), List.getElem?_append_left hl, hj]
          have ROW : Aside (cap1 ≤ maxLen ∧ cur.size = cap1 * 3 ∧ cur.toList.take ((cnt + 1) * 3) = fl O ++ [.int .i64 0, .int .i64 0, .int .i64 0]) := ⟨hcap2, hcur, htake⟩
          have GC : Aside (w3.drew.heap[g1]? = some (.cells cur.toList.toArray 34 (0, 0))) := by show w3.heap[g1]? = _; simpa using hgc
          clear hcur htake hgrow1 hnil1 hown1 hgc hcell c0 c1 c2
          obtain ⟨e1, he1⟩ : ∃ e1, e1 = cnt + 1 := ⟨_, rfl⟩
          rw [← he1] at hcap1 ⊢
          have hwq : IntKind.i64.wrap 1 = 1 := by decide
          have z1 : (0 : Int) ≤ 0 := by omega
          have z2 : (0 : Int) ≤ e1 := by omega
          have z3 : (0 : Int) ≤ 1 := by omega
          have z4 : (1 : Int) ≤ e1 := by omega
          have z5 : (e1 : Int) ≤ cap1 := by omega
          have z6 : (0 : Int) ≤ cap1 := by omega
          have z7 : (1 : Int) ≤ cap1 := by omega
          have z8 : 0 < e1 := by omega
          have z9 : (0 : Int) < e1 := by omega
          have EE : Aside (e1 = cnt + 1) := he1
          clear he1
          have HE := EE.out
          have HQ := True.intro
          have D1 : Aside (Nat.min e1 (e1 - 1) = cnt - 0) := by show min _ _ = _; omega
          have D2 : Aside (((fl O).drop (0 * 3)).length = (cnt - 0) * 3) := by show _ = _; rw [List.length_drop, fl_length, HOl.out]; omega
          have D3 : Aside (0 < cnt - 0 → ((if cap1 = 1 then some ⟨g1, 0, none⟩ else some ⟨g1, 3, none⟩) : Option Addr) = some ⟨g1, 3, none⟩ ∧ ∃ ad : Addr, ((some ⟨g1, 0, none⟩) : Option Addr) = some ad ∧ ∀ j v, ((fl O).drop (0 * 3))[j]? = some v → w3.drew.cell? (ad.add j) = some v) := fun h0 => ⟨by first | rfl | rw [if_neg (by omega)], ⟨g1, 0, none⟩, by first | rfl | rw [if_neg (by omega)], fun j v hj => by rw [show (⟨g1, 0, none⟩ : Addr).add j = ⟨g1, 0 * 3 + j, none⟩ by (unfold Addr.add; split <;> simp_all)]; exact SRC.out j v hj⟩
          have D4 : Aside (3 + ((fl O).drop (0 * 3)).length ≤ cur.toList.length) := by show _ ≤ _; rw [D2.out]; have := ROW.out.2.1; simp; omega
          clear HE HQ
          go_wp2
          go_region_law (refine step_copy_wide rfl (.tmp 51) (.tmp 54) 29 29 rfl 34 3 Try.underlying29 hsz34 (if cap1 = 1 then some ⟨g1, 0, none⟩ else some ⟨g1, 3, none⟩) (some ⟨g1, 0, none⟩) (e1 - 1) (cap1 - 1) e1 cap1 (by first | kernel_rfl | (go_simp; done)) (by first | kernel_rfl | (go_simp; done)) g1 3 (cnt - 0) cur.toList 34 GC.out ((fl O).drop (0 * 3)) D1.out D2.out D3.out D4.out (fun u hu => fl_one O u (List.mem_of_mem_drop hu)) w.heap.size w (by exact hB3.drew) (by exact hbase) ?_; intro w4 hg4 hB4 hs4; have q0 := (hB4.cell (p := ⟨b, o + k * 3, none⟩) hb0).trans C0.out.1; have q1 := (hB4.cell (p := ⟨b, o + k * 3 + 1, none⟩) hb0).trans C0.out.2.1; have q2 := (hB4.cell (p := ⟨b, o + k * 3 + 2, none⟩) hb0).trans C0.out.2.2)
          all_goals generalize ((if cap1 = 1 then some ⟨g1, 0, none⟩ else some ⟨g1, 3, none⟩) : Option Addr) = dpv
          have HG4 : w4.heap[g1]? = some (.cells (splice cur.toList ((0 + 1) * 3) ((fl O).drop (0 * 3))).toArray 34 (0, 0)) := by
            have h := hg4.out
            skip
            exact h
          have OW4 : Aside (w4.ownsRow w.heap.size 34 3 (.slice (some ⟨g1, 0, none⟩) e1 cap1) e1 ((fl O ++ [Value.int .i64 0, Value.int .i64 0, Value.int .i64 0]).take ((0 + 1) * 3) ++ (fl O).drop (0 * 3))) := by rw [EE.out]; exact own_spliced HOl.out rfl (by omega) hbase (by have := EE.out; omega) ROW.out.1 ROW.out.2.1 ROW.out.2.2 HG4
          have hlen : ((fl O ++ [Value.int .i64 0, Value.int .i64 0, Value.int .i64 0]).take ((0 + 1) * 3) ++ (fl O).drop (0 * 3)).length = e1 * 3 := OW4.out.1
          have HE := EE.out
          have HQ := True.intro
          obtain ⟨v0, hv0⟩ : ∃ v, w4.cell? ⟨g1, 0, none⟩ = some v := ⟨_, (OW4.out.cellAt (0) (by omega)).trans (List.getElem?_eq_getElem (by rw [hlen]; omega))⟩
          obtain ⟨v1, hv1⟩ : ∃ v, w4.cell? ⟨g1, 1, none⟩ = some v := ⟨_, (OW4.out.cellAt (1) (by omega)).trans (List.getElem?_eq_getElem (by rw [hlen]; omega))⟩
          obtain ⟨v2, hv2⟩ : ∃ v, w4.cell? ⟨g1, 2, none⟩ = some v := ⟨_, (OW4.out.cellAt (2) (by omega)).trans (List.getElem?_eq_getElem (by rw [hlen]; omega))⟩
          have fz0 := OW4.out.frozenAt (0)
          have fz1 := OW4.out.frozenAt (1)
          have fz2 := OW4.out.frozenAt (2)
          clear hlen HE HQ HG4
          go_wp2
          have FIN : Aside (Strict (O.take 0 ++ (x0, x1, x2) :: O.drop 0) ∧ ∀ z, z ∈ O.take 0 ++ (x0, x1, x2) :: O.drop 0 ↔ z ∈ O ∨ z = (x0, x1, x2)) := ins_strict HO.out.1 (by rw [HOl.out]; omega) (fun j h1 h2 => AL.out j h1 (by rw [← HOl.out]; exact h2)) NE.out
          refine ⟨⟨k + 1, O.take 0 ++ (x0, x1, x2) :: O.drop 0, e1, by simp, by omega, FIN.out.1, fun z => ?mem, by have := EE.out; rw [List.length_append, List.length_take, List.length_cons, List.length_drop, HOl.out]; omega, by have := EE.out; omega, ?own, ((hB4.setCell (by exact hbase) _).setCell (by exact hbase) _).setCell (by exact hbase) _⟩, by simp only [intOf]; omega⟩
          case mem => rw [FIN.out.2, take_mem (by rw [HL.out.2]; exact hlt), XX.out, HO.out.2.1]
          case own =>
            rw [← ins_cells O [Value.int .i64 0, Value.int .i64 0, Value.int .i64 0] rfl (x0, x1, x2) 0 (by rw [HOl.out]; omega)]
            exact (((OW4.out.stored (0) _).1.stored (1) _).1.stored (2) _).1
        · obtain ⟨p, hp⟩ : ∃ p, m = p + 1 := ⟨m - 1, by omega⟩
          have hm0' : 0 < m := by omega
          have hpc : p < cnt := by omega
          have hpc' : (p : Int) < cnt := by omega
          have hp0 : (0 : Int) ≤ p := by omega
          have hmc' : (m : Int) ≤ 60 := by omega
          have hwk : IntKind.i64.wrap ((m : Int) - 1) = (p : Int) := by
            unfold IntKind.wrap
            simp [IntKind.signed, IntKind.bits]
            omega
          obtain ⟨g, og, he, hg, e0, e1, e2⟩ := RO.out.below hBW p (by rw [HO.out.2.2]; exact hpc)
          subst he
          generalize hy : O.getD p (0, 0, 0) = y at e0 e1 e2
          have YY : Aside (O.getD p (0, 0, 0) = y) := hy
          have PP : Aside (m = p + 1) := hp
          clear hy hp
          obtain ⟨y0, y1, y2⟩ := y
          dsimp only at e0 e1 e2
          have f0 := cell_grown hg e0
          have f1 := cell_grown hg e1
          have f2 := cell_grown hg e2
          have f3 := cell_grown hbW c0
          have f4 := cell_grown hbW c1
          have f5 := cell_grown hbW c2
          have hless := fun n os => less34 x0 x1 x2 y0 y1 y2 (grow (wr.drewN n) os)
          have hBW' := hBW
          cases hah : Go.DiagLaw.ahead (x0, x1, x2) (y0, y1, y2) with
          | true =>
            rw [hah] at hless
            go_wp2_with fail
            refine wp_region_quiet_grown (by assumption) (by kernel_rfl) ?_
            repeat (go_big_quiet_step (first | (go_at_call 34; with_reducible refine Calls.grown_of (hless _ _))))
            refine wpQuiet_nil ?_
            intro w' hw'
            obtain ⟨⟨nq, osq⟩, hw''⟩ := hw'
            subst hw''
            go_wp2
            go_roundw
            case rel => exact ⟨p, by simp, by omega, hBW.trans ((below_of_grown ⟨nq, osq, rfl⟩).mono hBW.size), fun j h1 h2 => by
              by_cases e : j = p
              · subst e; rw [YY.out]; exact hah
              · exact AL.out j (by have := PP.out; omega) h2⟩
            case measure => have := PP.out; simp only [intOf]; omega
          | false =>
            rw [hah] at hless
            go_wp2_with fail
            refine wp_region_quiet_grown (by assumption) (by kernel_rfl) ?_
            repeat (go_big_quiet_step (first | (go_at_call 34; with_reducible refine Calls.grown_of (hless _ _))))
            refine wpQuiet_nil ?_
            intro w' hw'
            obtain ⟨⟨nq, osq⟩, hw''⟩ := hw'
            subst hw''
            obtain ⟨W1, hW1⟩ : ∃ W1, W1 = grow (wr.drewN nq) osq := ⟨_, rfl⟩
            rw [← hW1]
            have hB1 : Below wr.heap.size wr W1 := by rw [hW1]; exact below_of_grown ⟨nq, osq, rfl⟩
            clear hW1
            have hBB : Below w.heap.size w W1 := (hB.trans (hBW.mono hB.size)).trans (hB1.mono (Nat.le_trans hB.size hBW.size))
            have hs1 : w.heap.size ≤ W1.heap.size := hBB.size
            have OW1 : Aside (W1.ownsRow w.heap.size 34 3 (.slice (some ⟨g, og, none⟩) cnt s0) cnt (fl O)) := own_below (own_below OWN.out hBW) hB1
            have c0 := (hBB.cell (p := ⟨b, o + k * 3, none⟩) hb0).trans C0.out.1
            have c1 := (hBB.cell (p := ⟨b, o + k * 3 + 1, none⟩) hb0).trans C0.out.2.1
            have c2 := (hBB.cell (p := ⟨b, o + k * 3 + 2, none⟩) hb0).trans C0.out.2.2
            have e0 := (hB1.cell (p := ⟨g, og + p * 3, none⟩) hg).trans e0
            have e1 := (hB1.cell (p := ⟨g, og + p * 3 + 1, none⟩) hg).trans e1
            have e2 := (hB1.cell (p := ⟨g, og + p * 3 + 2, none⟩) hg).trans e2
            clear f0 f1 f2 f3 f4 f5 hless
            by_cases t0 : y0 = x0
            · by_cases t1 : y1 = x1
              · by_cases t2 : y2 = x2
                · subst t0 t1 t2
                  go_wp2
                  go_quiet (fail)
                  go_wp2
                  go_roundw
                  case rel => exact ⟨k + 1, O, cnt, by simp, by omega, HO.out.1, fun z => by
                    rw [take_mem (by rw [HL.out.2]; exact hlt), XX.out, ← HO.out.2.1]
                    refine ⟨.inl, fun h => ?_⟩
                    rcases h with h | h
                    · exact h
                    · rw [h, ← YY.out, DiagLaw.getD_lt (by rw [HO.out.2.2]; exact hpc)]
                      exact List.getElem_mem _, HO.out.2.2, by omega, OW1.out, below_drewN hBB _⟩
                  case measure => simp only [intOf]; omega
                · have NE : Aside (∀ j, j + 1 = m → ¬ Go.DiagLaw.ahead (x0, x1, x2) (O.getD j (0, 0, 0)) = true ∧ O.getD j (0, 0, 0) ≠ (x0, x1, x2)) := fun j hj => by
                    have hjp : j = p := by have := PP.out; omega
                    subst hjp
                    rw [YY.out]
                    exact ⟨by rw [hah]; decide, fun e => t2 (congrArg (fun z => z.2.2) e)⟩
                  go_wp2
                  go_quiet (fail)
                  have HOl : Aside (O.length = cnt) := HO.out.2.2
                  go_wp2_with (at_builtin; refine wpList_append_own _ rfl (.tmp 44) (.tmp 46) 29 rfl w.heap.size 34 i0 (dg 0 0 0) 3 24 Try.underlying29 hi hz0 hz1 hz2 rfl (by decide) _ _ _ rfl ((own_below OW1.out (below_drewN (Below.refl _ _) _)).alloc _) ⟨W1.heap.size, 0, none⟩ 1 1 [.int .i64 0, .int .i64 0, .int .i64 0] rfl rfl ?c1 ?c2 ?c3 ?c4 ?c5 ?_)
                  case c1 =>
                    intro j u hj
                    match j, hj with
                    | 0, hj => simp at hj; subst hj; exact new_cell _ _ _ _ _ _ (by simp) rfl
                    | 1, hj => simp at hj; subst hj; exact new_cell _ _ _ _ _ _ (by simp) rfl
                    | 2, hj => simp at hj; subst hj; exact new_cell _ _ _ _ _ _ (by simp) rfl
                  case c2 => intro u hu; simp at hu; rcases hu with rfl | rfl | rfl <;> rfl
                  case c3 => unfold maxLen; omega
                  case c4 => omega
                  case c5 => simp; omega
                  intro v1 w3 hown1 hgrow1 hnil1
                  have hB3 : Below w.heap.size w w3 := (hBB.trans (((below_drewN (Below.refl _ W1) _).alloc (by simp) _).mono hs1)).grown hgrow1 (by simp; omega) (fun j hj => (OW1.out.lt j hj).1)
                  have hcell := (hB3.size)
                  rcases hown1.2 with ⟨_, hv0⟩ | ⟨g1, cap1, cur, rfl, hbase, hgc, hcap1, hcap2, hcur, htake⟩
                  · omega
                  have SRC : Aside (∀ j v, ((fl O).drop (m * 3))[j]? = some v → w3.cell? ⟨g1, m * 3 + j, none⟩ = some v) := by
                    intro j v hj
                    rw [List.getElem?_drop] at hj
                    have hl := (List.getElem?_eq_some_iff.1 hj).1
                    have hl2 := hl
                    rw [fl_length, HOl.out] at hl2
                    rw [hown1.cellAt _ (by omega), List.getElem?_append_left hl, hj]
                  have ROW : Aside (cap1 ≤ maxLen ∧ cur.size = cap1 * 3 ∧ cur.toList.take ((cnt + 1) * 3) = fl O ++ [.int .i64 0, .int .i64 0, .int .i64 0]) := ⟨hcap2, hcur, htake⟩
                  have GC : Aside (w3.drew.heap[g1]? = some (.cells cur.toList.toArray 34 (0, 0))) := by show w3.heap[g1]? = _; simpa using hgc
                  clear hcur htake hgrow1 hnil1 hown1 hgc hcell c0 c1 c2
                  obtain ⟨e1, he1⟩ : ∃ e1, e1 = cnt + 1 := ⟨_, rfl⟩
                  rw [← he1] at hcap1 ⊢
                  obtain ⟨q, hq⟩ : ∃ q, q = m + 1 := ⟨_, rfl⟩
                  have hwq : IntKind.i64.wrap ((m : Int) + 1) = (q : Int) := by
                    unfold IntKind.wrap
                    simp [IntKind.signed, IntKind.bits]
                    omega
                  have zn : ¬ cap1 = m := by omega
                  have QE : Aside (q = m + 1) := hq
                  have z1 : (0 : Int) ≤ m := by omega
                  have z2 : (m : Int) ≤ e1 := by omega
                  have z3 : (0 : Int) ≤ q := by omega
                  have z4 : (q : Int) ≤ e1 := by omega
                  have z5 : (e1 : Int) ≤ cap1 := by omega
                  have z6 : (m : Int) ≤ cap1 := by omega
                  have z7 : (q : Int) ≤ cap1 := by omega
                  have z8 : m < e1 := by omega
                  have z9 : (m : Int) < e1 := by omega
                  have EE : Aside (e1 = cnt + 1) := he1
                  clear he1 hq
                  have HE := EE.out
                  have HQ := QE.out
                  have D1 : Aside (Nat.min (e1 - m) (e1 - q) = cnt - m) := by show min _ _ = _; omega
                  have D2 : Aside (((fl O).drop (m * 3)).length = (cnt - m) * 3) := by show _ = _; rw [List.length_drop, fl_length, HOl.out]; omega
                  have D3 : Aside (0 < cnt - m → ((if cap1 = q then some ⟨g1, 0, none⟩ else some ⟨g1, q * 3, none⟩) : Option Addr) = some ⟨g1, (q * 3), none⟩ ∧ ∃ ad : Addr, ((some ⟨g1, m * 3, none⟩) : Option Addr) = some ad ∧ ∀ j v, ((fl O).drop (m * 3))[j]? = some v → w3.drew.cell? (ad.add j) = some v) := fun h0 => ⟨by first | rfl | rw [if_neg (by omega)], ⟨g1, m * 3, none⟩, by first | rfl | rw [if_neg (by omega)], fun j v hj => by rw [show (⟨g1, m * 3, none⟩ : Addr).add j = ⟨g1, m * 3 + j, none⟩ by (unfold Addr.add; split <;> simp_all)]; exact SRC.out j v hj⟩
                  have D4 : Aside ((q * 3) + ((fl O).drop (m * 3)).length ≤ cur.toList.length) := by show _ ≤ _; rw [D2.out]; have := ROW.out.2.1; simp; omega
                  clear HE HQ
                  go_wp2
                  go_region_law (refine step_copy_wide rfl (.tmp 51) (.tmp 54) 29 29 rfl 34 3 Try.underlying29 hsz34 (if cap1 = q then some ⟨g1, 0, none⟩ else some ⟨g1, q * 3, none⟩) (some ⟨g1, m * 3, none⟩) (e1 - q) (cap1 - q) (e1 - m) (cap1 - m) (by first | kernel_rfl | (go_simp; done)) (by first | kernel_rfl | (go_simp; done)) g1 (q * 3) (cnt - m) cur.toList 34 GC.out ((fl O).drop (m * 3)) D1.out D2.out D3.out D4.out (fun u hu => fl_one O u (List.mem_of_mem_drop hu)) w.heap.size w (by exact hB3.drew) (by exact hbase) ?_; intro w4 hg4 hB4 hs4; have q0 := (hB4.cell (p := ⟨b, o + k * 3, none⟩) hb0).trans C0.out.1; have q1 := (hB4.cell (p := ⟨b, o + k * 3 + 1, none⟩) hb0).trans C0.out.2.1; have q2 := (hB4.cell (p := ⟨b, o + k * 3 + 2, none⟩) hb0).trans C0.out.2.2)
                  all_goals generalize ((if cap1 = q then some ⟨g1, 0, none⟩ else some ⟨g1, q * 3, none⟩) : Option Addr) = dpv
                  have HG4 : w4.heap[g1]? = some (.cells (splice cur.toList ((m + 1) * 3) ((fl O).drop (m * 3))).toArray 34 (0, 0)) := by
                    have h := hg4.out
                    rw [QE.out] at h
                    exact h
                  have OW4 : Aside (w4.ownsRow w.heap.size 34 3 (.slice (some ⟨g1, 0, none⟩) e1 cap1) e1 ((fl O ++ [Value.int .i64 0, Value.int .i64 0, Value.int .i64 0]).take ((m + 1) * 3) ++ (fl O).drop (m * 3))) := by rw [EE.out]; exact own_spliced HOl.out rfl (by omega) hbase (by have := EE.out; omega) ROW.out.1 ROW.out.2.1 ROW.out.2.2 HG4
                  have hlen : ((fl O ++ [Value.int .i64 0, Value.int .i64 0, Value.int .i64 0]).take ((m + 1) * 3) ++ (fl O).drop (m * 3)).length = e1 * 3 := OW4.out.1
                  have HE := EE.out
                  have HQ := QE.out
                  obtain ⟨v0, hv0⟩ : ∃ v, w4.cell? ⟨g1, m * 3, none⟩ = some v := ⟨_, (OW4.out.cellAt (m * 3) (by omega)).trans (List.getElem?_eq_getElem (by rw [hlen]; omega))⟩
                  obtain ⟨v1, hv1⟩ : ∃ v, w4.cell? ⟨g1, m * 3 + 1, none⟩ = some v := ⟨_, (OW4.out.cellAt (m * 3 + 1) (by omega)).trans (List.getElem?_eq_getElem (by rw [hlen]; omega))⟩
                  obtain ⟨v2, hv2⟩ : ∃ v, w4.cell? ⟨g1, m * 3 + 2, none⟩ = some v := ⟨_, (OW4.out.cellAt (m * 3 + 2) (by omega)).trans (List.getElem?_eq_getElem (by rw [hlen]; omega))⟩
                  have fz0 := OW4.out.frozenAt (m * 3)
                  have fz1 := OW4.out.frozenAt (m * 3 + 1)
                  have fz2 := OW4.out.frozenAt (m * 3 + 2)
                  clear hlen HE HQ HG4
                  go_wp2
                  have FIN : Aside (Strict (O.take m ++ (x0, x1, x2) :: O.drop m) ∧ ∀ z, z ∈ O.take m ++ (x0, x1, x2) :: O.drop m ↔ z ∈ O ∨ z = (x0, x1, x2)) := ins_strict HO.out.1 (by rw [HOl.out]; omega) (fun j h1 h2 => AL.out j h1 (by rw [← HOl.out]; exact h2)) NE.out
                  refine ⟨⟨k + 1, O.take m ++ (x0, x1, x2) :: O.drop m, e1, by simp, by omega, FIN.out.1, fun z => ?mem, by have := EE.out; rw [List.length_append, List.length_take, List.length_cons, List.length_drop, HOl.out]; omega, by have := EE.out; omega, ?own, ((hB4.setCell (by exact hbase) _).setCell (by exact hbase) _).setCell (by exact hbase) _⟩, by simp only [intOf]; omega⟩
                  case mem => rw [FIN.out.2, take_mem (by rw [HL.out.2]; exact hlt), XX.out, HO.out.2.1]
                  case own =>
                    rw [← ins_cells O [Value.int .i64 0, Value.int .i64 0, Value.int .i64 0] rfl (x0, x1, x2) m (by rw [HOl.out]; omega)]
                    exact (((OW4.out.stored (m * 3) _).1.stored (m * 3 + 1) _).1.stored (m * 3 + 2) _).1
              · have NE : Aside (∀ j, j + 1 = m → ¬ Go.DiagLaw.ahead (x0, x1, x2) (O.getD j (0, 0, 0)) = true ∧ O.getD j (0, 0, 0) ≠ (x0, x1, x2)) := fun j hj => by
                  have hjp : j = p := by have := PP.out; omega
                  subst hjp
                  rw [YY.out]
                  exact ⟨by rw [hah]; decide, fun e => t1 (congrArg (fun z => z.2.1) e)⟩
                go_wp2
                go_quiet (fail)
                have HOl : Aside (O.length = cnt) := HO.out.2.2
                go_wp2_with (at_builtin; refine wpList_append_own _ rfl (.tmp 44) (.tmp 46) 29 rfl w.heap.size 34 i0 (dg 0 0 0) 3 24 Try.underlying29 hi hz0 hz1 hz2 rfl (by decide) _ _ _ rfl ((own_below OW1.out (below_drewN (Below.refl _ _) _)).alloc _) ⟨W1.heap.size, 0, none⟩ 1 1 [.int .i64 0, .int .i64 0, .int .i64 0] rfl rfl ?c1 ?c2 ?c3 ?c4 ?c5 ?_)
                case c1 =>
                  intro j u hj
                  match j, hj with
                  | 0, hj => simp at hj; subst hj; exact new_cell _ _ _ _ _ _ (by simp) rfl
                  | 1, hj => simp at hj; subst hj; exact new_cell _ _ _ _ _ _ (by simp) rfl
                  | 2, hj => simp at hj; subst hj; exact new_cell _ _ _ _ _ _ (by simp) rfl
                case c2 => intro u hu; simp at hu; rcases hu with rfl | rfl | rfl <;> rfl
                case c3 => unfold maxLen; omega
                case c4 => omega
                case c5 => simp; omega
                intro v1 w3 hown1 hgrow1 hnil1
                have hB3 : Below w.heap.size w w3 := (hBB.trans (((below_drewN (Below.refl _ W1) _).alloc (by simp) _).mono hs1)).grown hgrow1 (by simp; omega) (fun j hj => (OW1.out.lt j hj).1)
                have hcell := (hB3.size)
                rcases hown1.2 with ⟨_, hv0⟩ | ⟨g1, cap1, cur, rfl, hbase, hgc, hcap1, hcap2, hcur, htake⟩
                · omega
                have SRC : Aside (∀ j v, ((fl O).drop (m * 3))[j]? = some v → w3.cell? ⟨g1, m * 3 + j, none⟩ = some v) := by
                  intro j v hj
                  rw [List.getElem?_drop] at hj
                  have hl := (List.getElem?_eq_some_iff.1 hj).1
                  have hl2 := hl
                  rw [fl_length, HOl.out] at hl2
                  rw [hown1.cellAt _ (by omega), List.getElem?_append_left hl, hj]
                have ROW : Aside (cap1 ≤ maxLen ∧ cur.size = cap1 * 3 ∧ cur.toList.take ((cnt + 1) * 3) = fl O ++ [.int .i64 0, .int .i64 0, .int .i64 0]) := ⟨hcap2, hcur, htake⟩
                have GC : Aside (w3.drew.heap[g1]? = some (.cells cur.toList.toArray 34 (0, 0))) := by show w3.heap[g1]? = _; simpa using hgc
                clear hcur htake hgrow1 hnil1 hown1 hgc hcell c0 c1 c2
                obtain ⟨e1, he1⟩ : ∃ e1, e1 = cnt + 1 := ⟨_, rfl⟩
                rw [← he1] at hcap1 ⊢
                obtain ⟨q, hq⟩ : ∃ q, q = m + 1 := ⟨_, rfl⟩
                have hwq : IntKind.i64.wrap ((m : Int) + 1) = (q : Int) := by
                  unfold IntKind.wrap
                  simp [IntKind.signed, IntKind.bits]
                  omega
                have zn : ¬ cap1 = m := by omega
                have QE : Aside (q = m + 1) := hq
                have z1 : (0 : Int) ≤ m := by omega
                have z2 : (m : Int) ≤ e1 := by omega
                have z3 : (0 : Int) ≤ q := by omega
                have z4 : (q : Int) ≤ e1 := by omega
                have z5 : (e1 : Int) ≤ cap1 := by omega
                have z6 : (m : Int) ≤ cap1 := by omega
                have z7 : (q : Int) ≤ cap1 := by omega
                have z8 : m < e1 := by omega
                have z9 : (m : Int) < e1 := by omega
                have EE : Aside (e1 = cnt + 1) := he1
                clear he1 hq
                have HE := EE.out
                have HQ := QE.out
                have D1 : Aside (Nat.min (e1 - m) (e1 - q) = cnt - m) := by show min _ _ = _; omega
                have D2 : Aside (((fl O).drop (m * 3)).length = (cnt - m) * 3) := by show _ = _; rw [List.length_drop, fl_length, HOl.out]; omega
                have D3 : Aside (0 < cnt - m → ((if cap1 = q then some ⟨g1, 0, none⟩ else some ⟨g1, q * 3, none⟩) : Option Addr) = some ⟨g1, (q * 3), none⟩ ∧ ∃ ad : Addr, ((some ⟨g1, m * 3, none⟩) : Option Addr) = some ad ∧ ∀ j v, ((fl O).drop (m * 3))[j]? = some v → w3.drew.cell? (ad.add j) = some v) := fun h0 => ⟨by first | rfl | rw [if_neg (by omega)], ⟨g1, m * 3, none⟩, by first | rfl | rw [if_neg (by omega)], fun j v hj => by rw [show (⟨g1, m * 3, none⟩ : Addr).add j = ⟨g1, m * 3 + j, none⟩ by (unfold Addr.add; split <;> simp_all)]; exact SRC.out j v hj⟩
                have D4 : Aside ((q * 3) + ((fl O).drop (m * 3)).length ≤ cur.toList.length) := by show _ ≤ _; rw [D2.out]; have := ROW.out.2.1; simp; omega
                clear HE HQ
                go_wp2
                go_region_law (refine step_copy_wide rfl (.tmp 51) (.tmp 54) 29 29 rfl 34 3 Try.underlying29 hsz34 (if cap1 = q then some ⟨g1, 0, none⟩ else some ⟨g1, q * 3, none⟩) (some ⟨g1, m * 3, none⟩) (e1 - q) (cap1 - q) (e1 - m) (cap1 - m) (by first | kernel_rfl | (go_simp; done)) (by first | kernel_rfl | (go_simp; done)) g1 (q * 3) (cnt - m) cur.toList 34 GC.out ((fl O).drop (m * 3)) D1.out D2.out D3.out D4.out (fun u hu => fl_one O u (List.mem_of_mem_drop hu)) w.heap.size w (by exact hB3.drew) (by exact hbase) ?_; intro w4 hg4 hB4 hs4; have q0 := (hB4.cell (p := ⟨b, o + k * 3, none⟩) hb0).trans C0.out.1; have q1 := (hB4.cell (p := ⟨b, o + k * 3 + 1, none⟩) hb0).trans C0.out.2.1; have q2 := (hB4.cell (p := ⟨b, o + k * 3 + 2, none⟩) hb0).trans C0.out.2.2)
                all_goals generalize ((if cap1 = q then some ⟨g1, 0, none⟩ else some ⟨g1, q * 3, none⟩) : Option Addr) = dpv
                have HG4 : w4.heap[g1]? = some (.cells (splice cur.toList ((m + 1) * 3) ((fl O).drop (m * 3))).toArray 34 (0, 0)) := by
                  have h := hg4.out
                  rw [QE.out] at h
                  exact h
                have OW4 : Aside (w4.ownsRow w.heap.size 34 3 (.slice (some ⟨g1, 0, none⟩) e1 cap1) e1 ((fl O ++ [Value.int .i64 0, Value.int .i64 0, Value.int .i64 0]).take ((m + 1) * 3) ++ (fl O).drop (m * 3))) := by rw [EE.out]; exact own_spliced HOl.out rfl (by omega) hbase (by have := EE.out; omega) ROW.out.1 ROW.out.2.1 ROW.out.2.2 HG4
                have hlen : ((fl O ++ [Value.int .i64 0, Value.int .i64 0, Value.int .i64 0]).take ((m + 1) * 3) ++ (fl O).drop (m * 3)).length = e1 * 3 := OW4.out.1
                have HE := EE.out
                have HQ := QE.out
                obtain ⟨v0, hv0⟩ : ∃ v, w4.cell? ⟨g1, m * 3, none⟩ = some v := ⟨_, (OW4.out.cellAt (m * 3) (by omega)).trans (List.getElem?_eq_getElem (by rw [hlen]; omega))⟩
                obtain ⟨v1, hv1⟩ : ∃ v, w4.cell? ⟨g1, m * 3 + 1, none⟩ = some v := ⟨_, (OW4.out.cellAt (m * 3 + 1) (by omega)).trans (List.getElem?_eq_getElem (by rw [hlen]; omega))⟩
                obtain ⟨v2, hv2⟩ : ∃ v, w4.cell? ⟨g1, m * 3 + 2, none⟩ = some v := ⟨_, (OW4.out.cellAt (m * 3 + 2) (by omega)).trans (List.getElem?_eq_getElem (by rw [hlen]; omega))⟩
                have fz0 := OW4.out.frozenAt (m * 3)
                have fz1 := OW4.out.frozenAt (m * 3 + 1)
                have fz2 := OW4.out.frozenAt (m * 3 + 2)
                clear hlen HE HQ HG4
                go_wp2
                have FIN : Aside (Strict (O.take m ++ (x0, x1, x2) :: O.drop m) ∧ ∀ z, z ∈ O.take m ++ (x0, x1, x2) :: O.drop m ↔ z ∈ O ∨ z = (x0, x1, x2)) := ins_strict HO.out.1 (by rw [HOl.out]; omega) (fun j h1 h2 => AL.out j h1 (by rw [← HOl.out]; exact h2)) NE.out
                refine ⟨⟨k + 1, O.take m ++ (x0, x1, x2) :: O.drop m, e1, by simp, by omega, FIN.out.1, fun z => ?mem, by have := EE.out; rw [List.length_append, List.length_take, List.length_cons, List.length_drop, HOl.out]; omega, by have := EE.out; omega, ?own, ((hB4.setCell (by exact hbase) _).setCell (by exact hbase) _).setCell (by exact hbase) _⟩, by simp only [intOf]; omega⟩
                case mem => rw [FIN.out.2, take_mem (by rw [HL.out.2]; exact hlt), XX.out, HO.out.2.1]
                case own =>
                  rw [← ins_cells O [Value.int .i64 0, Value.int .i64 0, Value.int .i64 0] rfl (x0, x1, x2) m (by rw [HOl.out]; omega)]
                  exact (((OW4.out.stored (m * 3) _).1.stored (m * 3 + 1) _).1.stored (m * 3 + 2) _).1
            · have NE : Aside (∀ j, j + 1 = m → ¬ Go.DiagLaw.ahead (x0, x1, x2) (O.getD j (0, 0, 0)) = true ∧ O.getD j (0, 0, 0) ≠ (x0, x1, x2)) := fun j hj => by
                have hjp : j = p := by have := PP.out; omega
                subst hjp
                rw [YY.out]
                exact ⟨by rw [hah]; decide, fun e => t0 (congrArg Prod.fst e)⟩
              go_wp2
              go_quiet (fail)
              have HOl : Aside (O.length = cnt) := HO.out.2.2
              go_wp2_with (at_builtin; refine wpList_append_own _ rfl (.tmp 44) (.tmp 46) 29 rfl w.heap.size 34 i0 (dg 0 0 0) 3 24 Try.underlying29 hi hz0 hz1 hz2 rfl (by decide) _ _ _ rfl ((own_below OW1.out (below_drewN (Below.refl _ _) _)).alloc _) ⟨W1.heap.size, 0, none⟩ 1 1 [.int .i64 0, .int .i64 0, .int .i64 0] rfl rfl ?c1 ?c2 ?c3 ?c4 ?c5 ?_)
              case c1 =>
                intro j u hj
                match j, hj with
                | 0, hj => simp at hj; subst hj; exact new_cell _ _ _ _ _ _ (by simp) rfl
                | 1, hj => simp at hj; subst hj; exact new_cell _ _ _ _ _ _ (by simp) rfl
                | 2, hj => simp at hj; subst hj; exact new_cell _ _ _ _ _ _ (by simp) rfl
              case c2 => intro u hu; simp at hu; rcases hu with rfl | rfl | rfl <;> rfl
              case c3 => unfold maxLen; omega
              case c4 => omega
              case c5 => simp; omega
              intro v1 w3 hown1 hgrow1 hnil1
              have hB3 : Below w.heap.size w w3 := (hBB.trans (((below_drewN (Below.refl _ W1) _).alloc (by simp) _).mono hs1)).grown hgrow1 (by simp; omega) (fun j hj => (OW1.out.lt j hj).1)
              have hcell := (hB3.size)
              rcases hown1.2 with ⟨_, hv0⟩ | ⟨g1, cap1, cur, rfl, hbase, hgc, hcap1, hcap2, hcur, htake⟩
              · omega
              have SRC : Aside (∀ j v, ((fl O).drop (m * 3))[j]? = some v → w3.cell? ⟨g1, m * 3 + j, none⟩ = some v) := by
                intro j v hj
                rw [List.getElem?_drop] at hj
                have hl := (List.getElem?_eq_some_iff.1 hj).1
                have hl2 := hl
                rw [fl_length, HOl.out] at hl2
                rw [hown1.cellAt _ (by omega), List.getElem?_append_left hl, hj]
              have ROW : Aside (cap1 ≤ maxLen ∧ cur.size = cap1 * 3 ∧ cur.toList.take ((cnt + 1) * 3) = fl O ++ [.int .i64 0, .int .i64 0, .int .i64 0]) := ⟨hcap2, hcur, htake⟩
              have GC : Aside (w3.drew.heap[g1]? = some (.cells cur.toList.toArray 34 (0, 0))) := by show w3.heap[g1]? = _; simpa using hgc
              clear hcur htake hgrow1 hnil1 hown1 hgc hcell c0 c1 c2
              obtain ⟨e1, he1⟩ : ∃ e1, e1 = cnt + 1 := ⟨_, rfl⟩
              rw [← he1] at hcap1 ⊢
              obtain ⟨q, hq⟩ : ∃ q, q = m + 1 := ⟨_, rfl⟩
              have hwq : IntKind.i64.wrap ((m : Int) + 1) = (q : Int) := by
                unfold IntKind.wrap
                simp [IntKind.signed, IntKind.bits]
                omega
              have zn : ¬ cap1 = m := by omega
              have QE : Aside (q = m + 1) := hq
              have z1 : (0 : Int) ≤ m := by omega
              have z2 : (m : Int) ≤ e1 := by omega
              have z3 : (0 : Int) ≤ q := by omega
              have z4 : (q : Int) ≤ e1 := by omega
              have z5 : (e1 : Int) ≤ cap1 := by omega
              have z6 : (m : Int) ≤ cap1 := by omega
              have z7 : (q : Int) ≤ cap1 := by omega
              have z8 : m < e1 := by omega
              have z9 : (m : Int) < e1 := by omega
              have EE : Aside (e1 = cnt + 1) := he1
              clear he1 hq
              have HE := EE.out
              have HQ := QE.out
              have D1 : Aside (Nat.min (e1 - m) (e1 - q) = cnt - m) := by show min _ _ = _; omega
              have D2 : Aside (((fl O).drop (m * 3)).length = (cnt - m) * 3) := by show _ = _; rw [List.length_drop, fl_length, HOl.out]; omega
              have D3 : Aside (0 < cnt - m → ((if cap1 = q then some ⟨g1, 0, none⟩ else some ⟨g1, q * 3, none⟩) : Option Addr) = some ⟨g1, (q * 3), none⟩ ∧ ∃ ad : Addr, ((some ⟨g1, m * 3, none⟩) : Option Addr) = some ad ∧ ∀ j v, ((fl O).drop (m * 3))[j]? = some v → w3.drew.cell? (ad.add j) = some v) := fun h0 => ⟨by first | rfl | rw [if_neg (by omega)], ⟨g1, m * 3, none⟩, by first | rfl | rw [if_neg (by omega)], fun j v hj => by rw [show (⟨g1, m * 3, none⟩ : Addr).add j = ⟨g1, m * 3 + j, none⟩ by (unfold Addr.add; split <;> simp_all)]; exact SRC.out j v hj⟩
              have D4 : Aside ((q * 3) + ((fl O).drop (m * 3)).length ≤ cur.toList.length) := by show _ ≤ _; rw [D2.out]; have := ROW.out.2.1; simp; omega
              clear HE HQ
              go_wp2
              go_region_law (refine step_copy_wide rfl (.tmp 51) (.tmp 54) 29 29 rfl 34 3 Try.underlying29 hsz34 (if cap1 = q then some ⟨g1, 0, none⟩ else some ⟨g1, q * 3, none⟩) (some ⟨g1, m * 3, none⟩) (e1 - q) (cap1 - q) (e1 - m) (cap1 - m) (by first | kernel_rfl | (go_simp; done)) (by first | kernel_rfl | (go_simp; done)) g1 (q * 3) (cnt - m) cur.toList 34 GC.out ((fl O).drop (m * 3)) D1.out D2.out D3.out D4.out (fun u hu => fl_one O u (List.mem_of_mem_drop hu)) w.heap.size w (by exact hB3.drew) (by exact hbase) ?_; intro w4 hg4 hB4 hs4; have q0 := (hB4.cell (p := ⟨b, o + k * 3, none⟩) hb0).trans C0.out.1; have q1 := (hB4.cell (p := ⟨b, o + k * 3 + 1, none⟩) hb0).trans C0.out.2.1; have q2 := (hB4.cell (p := ⟨b, o + k * 3 + 2, none⟩) hb0).trans C0.out.2.2)
              all_goals generalize ((if cap1 = q then some ⟨g1, 0, none⟩ else some ⟨g1, q * 3, none⟩) : Option Addr) = dpv
              have HG4 : w4.heap[g1]? = some (.cells (splice cur.toList ((m + 1) * 3) ((fl O).drop (m * 3))).toArray 34 (0, 0)) := by
                have h := hg4.out
                rw [QE.out] at h
                exact h
              have OW4 : Aside (w4.ownsRow w.heap.size 34 3 (.slice (some ⟨g1, 0, none⟩) e1 cap1) e1 ((fl O ++ [Value.int .i64 0, Value.int .i64 0, Value.int .i64 0]).take ((m + 1) * 3) ++ (fl O).drop (m * 3))) := by rw [EE.out]; exact own_spliced HOl.out rfl (by omega) hbase (by have := EE.out; omega) ROW.out.1 ROW.out.2.1 ROW.out.2.2 HG4
              have hlen : ((fl O ++ [Value.int .i64 0, Value.int .i64 0, Value.int .i64 0]).take ((m + 1) * 3) ++ (fl O).drop (m * 3)).length = e1 * 3 := OW4.out.1
              have HE := EE.out
              have HQ := QE.out
              obtain ⟨v0, hv0⟩ : ∃ v, w4.cell? ⟨g1, m * 3, none⟩ = some v := ⟨_, (OW4.out.cellAt (m * 3) (by omega)).trans (List.getElem?_eq_getElem (by rw [hlen]; omega))⟩
              obtain ⟨v1, hv1⟩ : ∃ v, w4.cell? ⟨g1, m * 3 + 1, none⟩ = some v := ⟨_, (OW4.out.cellAt (m * 3 + 1) (by omega)).trans (List.getElem?_eq_getElem (by rw [hlen]; omega))⟩
              obtain ⟨v2, hv2⟩ : ∃ v, w4.cell? ⟨g1, m * 3 + 2, none⟩ = some v := ⟨_, (OW4.out.cellAt (m * 3 + 2) (by omega)).trans (List.getElem?_eq_getElem (by rw [hlen]; omega))⟩
              have fz0 := OW4.out.frozenAt (m * 3)
              have fz1 := OW4.out.frozenAt (m * 3 + 1)
              have fz2 := OW4.out.frozenAt (m * 3 + 2)
              clear hlen HE HQ HG4
              go_wp2
              have FIN : Aside (Strict (O.take m ++ (x0, x1, x2) :: O.drop m) ∧ ∀ z, z ∈ O.take m ++ (x0, x1, x2) :: O.drop m ↔ z ∈ O ∨ z = (x0, x1, x2)) := ins_strict HO.out.1 (by rw [HOl.out]; omega) (fun j h1 h2 => AL.out j h1 (by rw [← HOl.out]; exact h2)) NE.out
              refine ⟨⟨k + 1, O.take m ++ (x0, x1, x2) :: O.drop m, e1, by simp, by omega, FIN.out.1, fun z => ?mem, by have := EE.out; rw [List.length_append, List.length_take, List.length_cons, List.length_drop, HOl.out]; omega, by have := EE.out; omega, ?own, ((hB4.setCell (by exact hbase) _).setCell (by exact hbase) _).setCell (by exact hbase) _⟩, by simp only [intOf]; omega⟩
              case mem => rw [FIN.out.2, take_mem (by rw [HL.out.2]; exact hlt), XX.out, HO.out.2.1]
              case own =>
                rw [← ins_cells O [Value.int .i64 0, Value.int .i64 0, Value.int .i64 0] rfl (x0, x1, x2) m (by rw [HOl.out]; omega)]
                exact (((OW4.out.stored (m * 3) _).1.stored (m * 3 + 1) _).1.stored (m * 3 + 2) _).1
    · have hk' : k = n := by omega
      subst hk'
      have hlt' : ¬ (k : Int) < k := by omega
      have SO : Aside (O = sortD L) := uniq HO.out.1 (sortD_strict L) (fun z => by rw [HO.out.2.1, mem_sortD, List.take_of_length_le (by rw [HL.out.2]; omega)])
      go_wp2
      go_ret
      exact ⟨a0, ⟨s0, by rw [← SO.out, HO.out.2.2]; rfl⟩, SO.out ▸ RO.out, hB⟩
end D
end Go.Proofs.Ytjecgapnlnmloaa
#print axioms Go.Proofs.Ytjecgapnlnmloaa.D.sort22
