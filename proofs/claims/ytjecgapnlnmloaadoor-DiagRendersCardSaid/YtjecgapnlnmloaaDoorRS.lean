/- A part of the proof: an interpreter of the program, shown right once, and the laws that it computes. -/
import Derived.Test.YtjecgapnlnmloaaDoorRQ
import Derived.Test.YtjecgapnlnmloaaDoorShP
import Derived.Lib.OwnBridge
import Derived.Deep.DeepMust
namespace Go.Proofs.YtjecgapnlnmloaaDoor.PRender
open Go.RowKit Go.Proofs.YtjecgapnlnmloaaDoorW.PrintWords Go.Proofs.YtjecgapnlnmloaaDoorW.PrintLast Go.Proofs.YtjecgapnlnmloaaDoorW.PrintMore
set_option linter.unusedVariables false
/-- What the first byte says. -/
theorem sg_first (xs : List Int) (hb : Byt xs) (hne : xs ≠ []) : (rd xs 0 < 128 → nxd (sg xs) = (rd xs 0, 1)) ∧ (128 ≤ rd xs 0 → (nxd (sg xs)).1 ≠ 10 ∧ (nxd (sg xs)).1 ≠ 13 ∧ ∀ j : Nat, j < (sg xs).2 → 128 ≤ rd xs j) := by
  have hl : 0 < xs.length := List.length_pos_iff.2 hne
  have g0 := strOf_get hb 0 hl
  have g1 := strOf_get hb 1
  have g2 := strOf_get hb 2
  have g3 := strOf_get hb 3
  unfold sg
  rw [Lib.decode_at, strOf_size, Nat.sub_zero]
  simp only [Nat.zero_add]
  have l0 := byte_lt (strOfNums xs) 0
  generalize ((strOfNums xs).get! 0).toNat = b0 at *
  generalize ((strOfNums xs).get! 1).toNat = b1 at *
  generalize ((strOfNums xs).get! 2).toNat = b2 at *
  generalize ((strOfNums xs).get! 3).toNat = b3 at *
  have g0' : rd xs 0 = (b0 : Int) := g0
  have g1' : 1 < xs.length → rd xs 1 = (b1 : Int) := g1
  have g2' : 2 < xs.length → rd xs 2 = (b2 : Int) := g2
  have g3' : 3 < xs.length → rd xs 3 = (b3 : Int) := g3
  clear g0 g1 g2 g3
  rw [g0']
  refine ⟨fun h => ?_, fun h => ?_⟩
  · rw [Lib.decodeN, if_pos (by omega), nxd, if_neg (by simp; omega)]
    rfl
  · have e0 : 128 ≤ rd xs 0 := by omega
    unfold Lib.decodeN
    rw [if_neg (by omega)]
    have one : ∀ j : Nat, j < 1 → 128 ≤ rd xs j := fun j hj => by obtain rfl : j = 0 := by omega
                                                                  exact e0
    by_cases c1 : b0 / 32 = 6 ∧ 1 < xs.length ∧ b1 / 64 = 2
    · rw [if_pos c1]
      have e1 := g1' c1.2.1
      split
      · rw [nxd, if_neg (by simp)]
        refine ⟨by simp only; omega, by simp only; omega, fun j hj => ?_⟩
        rcases (show j = 0 ∨ j = 1 by simp only at hj; omega) with rfl | rfl
        · exact e0
        · show 128 ≤ rd xs 1; omega
      · exact ⟨by decide, by decide, one⟩
    · rw [if_neg c1]
      by_cases c2 : b0 / 16 = 14 ∧ (1 < xs.length ∧ b1 / 64 = 2) ∧ 2 < xs.length ∧ b2 / 64 = 2
      · rw [if_pos c2]
        have e1 := g1' c2.2.1.1
        have e2 := g2' c2.2.2.1
        split
        · rw [nxd, if_neg (by simp)]
          refine ⟨by simp only; omega, by simp only; omega, fun j hj => ?_⟩
          rcases (show j = 0 ∨ j = 1 ∨ j = 2 by simp only at hj; omega) with rfl | rfl | rfl
          · exact e0
          · show 128 ≤ rd xs 1; omega
          · show 128 ≤ rd xs 2; omega
        · exact ⟨by decide, by decide, one⟩
      · rw [if_neg c2]
        by_cases c3 : b0 / 8 = 30 ∧ (1 < xs.length ∧ b1 / 64 = 2) ∧ (2 < xs.length ∧ b2 / 64 = 2) ∧ 3 < xs.length ∧ b3 / 64 = 2
        · rw [if_pos c3]
          have e1 := g1' c3.2.1.1
          have e2 := g2' c3.2.2.1.1
          have e3 := g3' c3.2.2.2.1
          split
          · rw [nxd, if_neg (by simp)]
            refine ⟨by simp only; omega, by simp only; omega, fun j hj => ?_⟩
            rcases (show j = 0 ∨ j = 1 ∨ j = 2 ∨ j = 3 by simp only at hj; omega) with rfl | rfl | rfl | rfl
            · exact e0
            · show 128 ≤ rd xs 1; omega
            · show 128 ≤ rd xs 2; omega
            · show 128 ≤ rd xs 3; omega
          · exact ⟨by decide, by decide, one⟩
        · rw [if_neg c3]
          exact ⟨by decide, by decide, one⟩
theorem rd_drop (xs : List Int) (i j : Nat) : rd (xs.drop i) (j : Int) = rd xs ((i + j : Nat) : Int) := by
  unfold rd
  rw [Int.toNat_natCast, Int.toNat_natCast, List.getD_eq_getElem?_getD, List.getD_eq_getElem?_getD, List.getElem?_drop]
/-- The places where lines begin, over one sign more. -/
theorem st_sign (xs : List Int) (hb : Byt xs) (i : Nat) (hi : i < xs.length) (h128 : 128 ≤ rd xs i) : st xs (i + (sg (xs.drop i)).2) = st xs i ∧ (nxd (sg (xs.drop i))).1 ≠ 10 ∧ (nxd (sg (xs.drop i))).1 ≠ 13 := by
  have hne : xs.drop i ≠ [] := fun h => by have := congrArg List.length h; rw [List.length_drop, List.length_nil] at this; omega
  have e0 : rd (xs.drop i) 0 = rd xs i := rd_drop xs i 0
  obtain ⟨h1, h2, h3⟩ := (sg_first _ (hb.drop i) hne).2 (by omega)
  refine ⟨st_more xs i _ fun j h4 h5 => ?_, h1, h2⟩
  have := h3 (j - i) (by omega)
  rw [rd_drop, show i + (j - i) = j by omega] at this
  unfold brk
  have a : ¬ rd xs j = 10 := by omega
  have b : ¬ rd xs j = 13 := by omega
  simp [a, b]
theorem st_ascii (xs : List Int) (hb : Byt xs) (i : Nat) (hi : i < xs.length) (h128 : rd xs i < 128) : nxd (sg (xs.drop i)) = (rd xs i, 1) := by
  have hne : xs.drop i ≠ [] := fun h => by have := congrArg List.length h; rw [List.length_drop, List.length_nil] at this; omega
  have e0 : rd (xs.drop i) 0 = rd xs i := rd_drop xs i 0
  rw [← e0]
  exact (sg_first _ (hb.drop i) hne).1 (by omega)
theorem own_bel {w W : World} {B e size n : Nat} {v : Value} {xs : List Value} (h : w.ownsRow B e size v n xs) (hb : Below w.heap.size w W) : W.ownsRow B e size v n xs :=
  h.kept (row := none) ⟨hb.os, hb.tape, hb.output, hb.size, fun k hk _ => hb.block k hk⟩ (Classical.em _)
theorem new_cell (w : World) (cs : Array Value) (e B j : Nat) (v : Value) (hB : B = w.heap.size) (hv : cs[j]? = some v) : (w.alloc (.cells cs e)).cell? ⟨B, j, none⟩ = some v := by
  subst hB
  have h : (w.alloc (.cells cs e)).heap[w.heap.size]? = some (.cells cs e) := by
    show (w.heap.push _)[w.heap.size]? = _
    exact Array.getElem?_push_size
  unfold World.cell?
  simp only [h]
  exact hv
theorem info3' : (Tryd.prog.info? 3).map (fun i => (i.zero, i.size, i.bytes)) = some (some (.int .i64 0), 1, 8) := by kernel_rfl
set_option maxRecDepth 100000 in
set_option maxHeartbeats 1000000 in
theorem starts23 (A : Option Addr) (c : Nat) (xs : List Int) (w : World) (hC : Kd.C (Kd.int .u8) w A xs.length xs) (hc : xs.length ≤ c) (hb : Byt xs) (hl : xs.length < 1000000) :
    Calls Tryd.prog 23 #[.slice A xs.length c] w fun e w' => ∃ A' c', e = .returned (.slice A' (st xs xs.length).length c') ∧ Kd.C (Kd.int .i64) w' A' (st xs xs.length).length (st xs xs.length) ∧ (st xs xs.length).length ≤ c' ∧ Below w.heap.size w w' := by
  have HC : Aside0 (Kd.C (Kd.int .u8) w A xs.length xs ∧ Byt xs) := ⟨⟨hC, hb⟩⟩
  clear hC hb
  obtain ⟨i5, hi5, _, hsz5, _⟩ := info_parts info5
  obtain ⟨i0, hi, hz0, hz1, hz2⟩ := info_parts info3'
  go_enter Tryd.func23, Tryd.ntmps23
  go_wp2
  go_loopw [3, 4] (fun v i wr => ∃ k : Nat, i = .int .i64 k ∧ k ≤ xs.length ∧ wr.ownsRow w.heap.size 3 1 v (st xs k).length (nums .i64 (st xs k)) ∧ Below w.heap.size w wr) (fun _ i _ => xs.length - (intOf i).toNat)
  case atStart =>
    refine ⟨0, rfl, Nat.zero_le _, ?_, (Below.refl _ w).alloc (Nat.le_refl _) _⟩
    exact World.ownsRow_lit (base := w.heap.size) (e := 3) (size := 1) w #[.int .i64 0] 1 (Nat.le_refl _) (by unfold maxLen; omega) rfl
  case round =>
    obtain ⟨k, rfl, hk, hown, hB⟩ := hrel
    by_cases hlt : k < xs.length
    · have hlt' : (k : Int) < xs.length := by omega
      have hne : xs.drop k ≠ [] := fun h => by have := congrArg List.length h; rw [List.length_drop, List.length_nil] at this; omega
      obtain ⟨A', hcut, hA, hC2⟩ := print_drop_of (P := Tryd.prog) (Value.int .u8) 0 22 5 .i64 Tryd.underlying22 hi5 hsz5 A c xs (k : Int) (by omega) (by omega) hc
      rw [Int.toNat_natCast] at hcut hA hC2
      have hR := Kd.C_of_reads (h1 := fun _ => rfl) (hA _ (Kd.reads_of_C (Kd.C_below HC.out.1 hB)))
      have hN := next27 A' (c - k) (xs.drop k) wr hR hC2 (HC.out.2.drop k) hne
      rw [List.length_drop] at hN
      have hsn := sg_n _ (HC.out.2.drop k) hne
      rw [List.length_drop] at hsn
      clear hA hC2 hR
      by_cases h128 : 128 ≤ rd xs k
      · obtain ⟨e1, e2, e3⟩ := st_sign xs HC.out.2 k hlt h128
        have e4 := nxd_snd (sg (xs.drop k))
        generalize nxd (sg (xs.drop k)) = d at hN e2 e3 e4
        generalize (sg (xs.drop k)).2 = K at e1 e4 hsn
        obtain ⟨d1, d2⟩ := d
        dsimp only at hN e2 e3 e4
        subst e4
        have hkk : k + K ≤ xs.length := by omega
        have hk1 : 1 ≤ K := hsn.1
        clear h128 hsn
        have hs := hB.size
        have q1 : (d1 == 10) = false := beq_eq_false_iff_ne.2 e2
        have q2 : (d1 == 13) = false := beq_eq_false_iff_ne.2 e3
        go_wp2_with (go_at_call 27; (with_reducible refine hN.mono ?_); rintro e w2 ⟨rfl, hB2⟩)
        go_roundw
        case rel => exact ⟨k + K, by simp, hkk, by rw [e1]; exact own_bel hown hB2, hB.trans (hB2.mono hs)⟩
        case measure => simp only [intOf]; omega
      · have e1 := st_ascii xs HC.out.2 k hlt (by omega)
        rw [e1] at hN
        dsimp only at hN
        have hw : IntKind.i64.wrap ((k : Int) + 1) = ((k + 1 : Nat) : Int) := by unfold IntKind.wrap; simp [IntKind.signed, IntKind.bits]; omega
        have hs := hB.size
        clear hsn h128
        by_cases h13 : rd xs k = 13
        · rw [h13] at hN
          by_cases h1 : k + 1 < xs.length
          · have h1' : ((k + 1 : Nat) : Int) < xs.length := by omega
            by_cases h10 : rd xs ((k + 1 : Nat) : Int) = 10
            · have hbk : ¬ brk xs k = true := by unfold brk; rw [decide_eq_true hlt, decide_eq_true h13, decide_eq_true h1, decide_eq_true h10, show decide (rd xs (k : Int) = 10) = false from decide_eq_false (by omega)]; decide
              go_wp2_with (go_at_call 27; (with_reducible refine hN.mono ?_); rintro e w2 ⟨rfl, hB2⟩; obtain ⟨ad, rfl, hc3⟩ := Kd.at_int (Kd.C_below HC.out.1 (hB.trans (hB2.mono hs))) ((k + 1 : Nat) : Int) (by omega) (by omega); rw [Int.toNat_natCast, show ad.add (k + 1) = ⟨ad.block, ad.off + (k + 1), none⟩ by (unfold Addr.add; rw [if_neg (by omega)])] at hc3; rw [h10] at hc3)
              go_roundw
              case rel => exact ⟨k + 1, by simp, by omega, by rw [st_succ, if_neg hbk]; exact own_bel hown hB2, hB.trans (hB2.mono hs)⟩
              case measure => simp only [intOf]; omega
            · have hbk : brk xs k = true := by unfold brk; rw [decide_eq_true hlt, decide_eq_true h13, decide_eq_true h1, decide_eq_false h10]; simp
              have q10 : (rd xs ((k + 1 : Nat) : Int) == 10) = false := beq_eq_false_iff_ne.2 h10
              generalize hbb : rd xs ((k + 1 : Nat) : Int) = bb at h10 q10
              go_wp2_with (first
                | (go_at_call 27; (with_reducible refine hN.mono ?_); rintro e w2 ⟨rfl, hB2⟩; obtain ⟨ad, rfl, hc3⟩ := Kd.at_int (Kd.C_below HC.out.1 (hB.trans (hB2.mono hs))) ((k + 1 : Nat) : Int) (by omega) (by omega); rw [Int.toNat_natCast, show ad.add (k + 1) = ⟨ad.block, ad.off + (k + 1), none⟩ by (unfold Addr.add; rw [if_neg (by omega)])] at hc3; rw [hbb] at hc3)
                | (at_builtin; go_must (refine wpList_append_own _ rfl (.tmp 43) (.tmp 45) 46 rfl w.heap.size 3 i0 (.int .i64 0) 1 8 Tryd.underlying46 hi hz0 hz1 hz2 rfl (by decide) _ _ _ rfl ((own_bel hown hB2).alloc _) ⟨w2.heap.size, 0, none⟩ 1 1 [.int .i64 ((k + 1 : Nat) : Int)] rfl rfl (by intro j u hj; match j, hj with | 0, hj => (simp at hj; subst hj; exact new_cell _ _ _ _ _ _ rfl (by simp))) (by intro u hu; simp at hu; subst hu; rfl) (by have := st_len xs k; unfold maxLen; omega) (by have := st_len xs k; omega) (by have := hB2.size; simp; omega) ?_)))
              intro v' w3 hown' hgrow hnil'
              go_wp2
              go_roundw
              case rel =>
                refine ⟨k + 1, by simp, by omega, ?_, ((hB.trans (hB2.mono hs)).alloc (by have := hB2.size; omega) _).grown hgrow (by have := hB2.size; simp; omega) (fun j hj => (hown.lt j hj).1)⟩
                rw [st_succ, if_pos hbk, List.length_append, List.length_singleton, nums_append]
                exact hown'
              case measure => simp only [intOf]; omega
          · have h1' : ¬ ((k + 1 : Nat) : Int) < xs.length := by omega
            have hbk : brk xs k = true := by unfold brk; rw [decide_eq_true hlt, decide_eq_true h13, decide_eq_false h1]; simp
            go_wp2_with (first
              | (go_at_call 27; (with_reducible refine hN.mono ?_); rintro e w2 ⟨rfl, hB2⟩)
              | (at_builtin; go_must (refine wpList_append_own _ rfl (.tmp 43) (.tmp 45) 46 rfl w.heap.size 3 i0 (.int .i64 0) 1 8 Tryd.underlying46 hi hz0 hz1 hz2 rfl (by decide) _ _ _ rfl ((own_bel hown hB2).alloc _) ⟨w2.heap.size, 0, none⟩ 1 1 [.int .i64 ((k + 1 : Nat) : Int)] rfl rfl (by intro j u hj; match j, hj with | 0, hj => (simp at hj; subst hj; exact new_cell _ _ _ _ _ _ rfl (by simp))) (by intro u hu; simp at hu; subst hu; rfl) (by have := st_len xs k; unfold maxLen; omega) (by have := st_len xs k; omega) (by have := hB2.size; simp; omega) ?_)))
            intro v' w3 hown' hgrow hnil'
            go_wp2
            go_roundw
            case rel =>
              refine ⟨k + 1, by simp, by omega, ?_, ((hB.trans (hB2.mono hs)).alloc (by have := hB2.size; omega) _).grown hgrow (by have := hB2.size; simp; omega) (fun j hj => (hown.lt j hj).1)⟩
              rw [st_succ, if_pos hbk, List.length_append, List.length_singleton, nums_append]
              exact hown'
            case measure => simp only [intOf]; omega
        · by_cases h10 : rd xs k = 10
          · rw [h10] at hN
            have hbk : brk xs k = true := by unfold brk; rw [decide_eq_true hlt, decide_eq_true h10]; rfl
            go_wp2_with (first
              | (go_at_call 27; (with_reducible refine hN.mono ?_); rintro e w2 ⟨rfl, hB2⟩)
              | (at_builtin; go_must (refine wpList_append_own _ rfl (.tmp 43) (.tmp 45) 46 rfl w.heap.size 3 i0 (.int .i64 0) 1 8 Tryd.underlying46 hi hz0 hz1 hz2 rfl (by decide) _ _ _ rfl ((own_bel hown hB2).alloc _) ⟨w2.heap.size, 0, none⟩ 1 1 [.int .i64 ((k + 1 : Nat) : Int)] rfl rfl (by intro j u hj; match j, hj with | 0, hj => (simp at hj; subst hj; exact new_cell _ _ _ _ _ _ rfl (by simp))) (by intro u hu; simp at hu; subst hu; rfl) (by have := st_len xs k; unfold maxLen; omega) (by have := st_len xs k; omega) (by have := hB2.size; simp; omega) ?_)))
            intro v' w3 hown' hgrow hnil'
            go_wp2
            go_roundw
            case rel =>
              refine ⟨k + 1, by simp, by omega, ?_, ((hB.trans (hB2.mono hs)).alloc (by have := hB2.size; omega) _).grown hgrow (by have := hB2.size; simp; omega) (fun j hj => (hown.lt j hj).1)⟩
              rw [st_succ, if_pos hbk, List.length_append, List.length_singleton, nums_append]
              exact hown'
            case measure => simp only [intOf]; omega
          · have hbk : ¬ brk xs k = true := by simp [brk, h10, h13]
            have q1 : (rd xs (k : Int) == 10) = false := beq_eq_false_iff_ne.2 h10
            have q2 : (rd xs (k : Int) == 13) = false := beq_eq_false_iff_ne.2 h13
            generalize rd xs (k : Int) = bb at hN q1 q2 h10 h13
            go_wp2_with (go_at_call 27; (with_reducible refine hN.mono ?_); rintro e w2 ⟨rfl, hB2⟩)
            go_roundw
            case rel => exact ⟨k + 1, by simp, by omega, by rw [st_succ, if_neg hbk]; exact own_bel hown hB2, hB.trans (hB2.mono hs)⟩
            case measure => simp only [intOf]; omega
    · have hk' : k = xs.length := by omega
      subst hk'
      have hlt' : ¬ (xs.length : Int) < xs.length := by omega
      have hn0 : 0 < (st xs xs.length).length := List.length_pos_iff.2 (st_ne _ _)
      have hsl := st_len xs xs.length
      obtain ⟨g, cap, rfl, hg1, hg2⟩ := hown.form hn0
      have hcl := Tryd.slices_Clone_int g 0 (st xs xs.length).length cap (st xs xs.length) wr (Nat.le_refl _) (by omega) (fun j hj => by
        rw [Nat.zero_add, hown.cellAt j (by omega)]
        unfold nums
        rw [List.getElem?_map, List.getElem?_eq_getElem hj, List.getD_eq_getElem?_getD, List.getElem?_eq_getElem hj]
        rfl)
      rw [List.take_length] at hcl
      have hs := hB.size
      clear hown
      obtain ⟨L, hL⟩ : ∃ L, st xs xs.length = L := ⟨_, rfl⟩
      rw [hL] at hcl hn0
      go_wp2_with (go_at_call 28; (with_reducible refine hcl.mono ?_); rintro e w2 ⟨v', rfl, ho, hnn, hB2⟩)
      have hn1 : 0 < L.length := hn0
      obtain ⟨g', cap', rfl, _, _⟩ := ho.form hn1
      have hlc : L.length ≤ cap' := by
        rcases ho.2 with ⟨h, h0⟩ | ⟨g2, cap2, cur2, hv, _, _, hle, _⟩
        · cases h
        · cases hv; exact hle
      go_ret
      subst hL
      exact ⟨_, _, rfl, Kd.C_of_reads (enc := Value.int .i64) (d := (0 : Int)) (h1 := fun _ => rfl) (own_reads' ho), hlc, hB.trans (hB2.mono hs)⟩
end Go.Proofs.YtjecgapnlnmloaaDoor.PRender
