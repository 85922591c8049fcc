/- A part of the proof: an interpreter of the program, shown right once, and the laws that it computes. -/
import Derived.Test.YtjecgapnlnmloaaDoorRPc
import Derived.Lib.OthersKept
import Derived.Lib.FieldsP
namespace Go.Proofs.YtjecgapnlnmloaaDoor.PRender
open Go.RowKit Go.Proofs.YtjecgapnlnmloaaDoorW.PrintWords Go.Proofs.YtjecgapnlnmloaaDoorW.PrintLast Go.Proofs.YtjecgapnlnmloaaDoorW.PrintMore
attribute [local go_sem] max2_int min2_int max_two min_two max_three min_three max_four min_four
set_option linter.unusedVariables false
theorem decodeN_same {n m b0 b1 b2 b3 c1 c2 c3 : Nat} (h1 : 1 < n ↔ 1 < m) (h2 : 2 < n ↔ 2 < m) (h3 : 3 < n ↔ 3 < m) (e1 : 1 < m → b1 = c1) (e2 : 2 < m → b2 = c2) (e3 : 3 < m → b3 = c3) : Lib.decodeN n b0 b1 b2 b3 = Lib.decodeN m b0 c1 c2 c3 := by
  simp only [Lib.decodeN, h1, h2, h3]
  by_cases d1 : 1 < m
  · rw [e1 d1]
    by_cases d2 : 2 < m
    · rw [e2 d2]
      by_cases d3 : 3 < m
      · rw [e3 d3]
      · simp [d3]
    · simp [d2, show ¬ 3 < m by omega]
  · simp [d1]
theorem sg_take (xs : List Int) (hb : Byt xs) (hne : xs ≠ []) (m : Nat) (hm : m = min xs.length 4) : sg (xs.take m) = sg xs := by
  have hl : 0 < xs.length := List.length_pos_iff.2 hne
  unfold sg
  rw [Lib.decode_at, Lib.decode_at, strOf_size, strOf_size, Nat.sub_zero, Nat.sub_zero, List.length_take]
  have hg : ∀ i, i < 4 → i < xs.length → (strOfNums (xs.take m)).get! i = (strOfNums xs).get! i := by
    intro i hi hi2
    have h1 := strOf_get (hb.take m) i (by rw [List.length_take]; omega)
    have h2 := strOf_get hb i hi2
    have e : rd (xs.take m) (i : Int) = rd xs (i : Int) := by
      unfold rd
      rw [Int.toNat_natCast, List.getD_eq_getElem?_getD, List.getD_eq_getElem?_getD, List.getElem?_take_of_lt (by omega)]
    rw [e, h2] at h1
    exact UInt8.toNat_inj.1 (by omega)
  rw [show (0 + 1) = 1 from rfl, show (0 + 2) = 2 from rfl, show (0 + 3) = 3 from rfl, hg 0 (by omega) hl]
  exact decodeN_same (by omega) (by omega) (by omega) (fun h => by rw [hg 1 (by omega) h]) (fun h => by rw [hg 2 (by omega) h]) (fun h => by rw [hg 3 (by omega) h])
theorem sg_err (xs : List Int) : (sg xs).1 = 65533 → (sg xs).2 = 1 ∨ (sg xs).2 = 3 := by
  unfold sg
  rw [Lib.decode_at]
  have l0 := byte_lt (strOfNums xs) 0
  have l1 := byte_lt (strOfNums xs) (0 + 1)
  have l2 := byte_lt (strOfNums xs) (0 + 2)
  have l3 := byte_lt (strOfNums xs) (0 + 3)
  generalize ((strOfNums xs).get! 0).toNat = b0 at *
  generalize ((strOfNums xs).get! (0 + 1)).toNat = b1 at *
  generalize ((strOfNums xs).get! (0 + 2)).toNat = b2 at *
  generalize ((strOfNums xs).get! (0 + 3)).toNat = b3 at *
  unfold Lib.decodeN
  repeat' split
  all_goals (intro h; first | (left; rfl) | (right; rfl) | (exfalso; simp only at h; omega))
theorem sg_le (xs : List Int) : (sg xs).1 ≤ 1114111 := by
  unfold sg
  exact Lib.rune_le _ _
set_option maxRecDepth 100000 in
set_option maxHeartbeats 1000000 in
theorem next27 (A : Option Addr) (c : Nat) (xs : List Int) (w : World) (hC : Kd.C (Kd.int .u8) w A xs.length xs) (hc : xs.length ≤ c) (hb : Byt xs) (hne : xs ≠ []) :
    Calls Tryd.prog 27 #[.slice A xs.length c] w fun e w' => e = .returned (.tuple #[.int .i32 (nxd (sg xs)).1, .int .i64 (nxd (sg xs)).2]) ∧ Below w.heap.size w w' := by
  have hl : 0 < xs.length := List.length_pos_iff.2 hne
  have hst := sg_take xs hb hne _ rfl
  have hn := sg_n xs hb hne
  have her := sg_err xs
  have hle := sg_le xs
  obtain ⟨i0, hi, _, hsz, _⟩ := info_parts info5
  obtain ⟨hcut, hA, hC2⟩ := print_take_of (P := Tryd.prog) (Value.int .u8) 0 22 5 .i64 Tryd.underlying22 hi hsz A c xs ((min xs.length 4 : Nat) : Int) (by omega) (by omega) hc
  rw [Int.toNat_natCast] at hcut hA hC2
  have hR := Kd.C_of_reads (h1 := fun _ => rfl) (hA _ (Kd.reads_of_C hC))
  have hcv : (convert 22 9 (.slice A (xs.take (min xs.length 4)).length c)).run Tryd.prog w = .ok (.string (strOfNums (xs.take (min xs.length 4)))) w := Kd.C_string Tryd.underlying22 Tryd.underlying5 Tryd.underlying9 hR
  have hts : (strOfNums (xs.take (min xs.length 4))).size = min xs.length 4 := by rw [strOf_size, List.length_take]; omega
  have hlt : (xs.take (min xs.length 4)).length = min xs.length 4 := by rw [List.length_take]; omega
  rw [hlt] at hcv
  unfold sg at hst
  generalize strOfNums (xs.take (min xs.length 4)) = t at hcv hst hts
  have hx0 : ¬ (xs.length : Int) = 0 := by omega
  clear hA hR hC hC2 hcut hlt
  have h2 : 0 < t.size := by omega
  have h3 : (sg xs).2 ≤ t.size := by omega
  have hts2 : t.size = min xs.length 4 := hts
  clear hts
  have hsg : Utf8.decode t 0 = sg xs := hst
  clear hst
  generalize sg xs = d at *
  obtain ⟨R, K⟩ := d
  dsimp only at hn her hle h3
  have HT : Aside0 (0 < t.size ∧ K ≤ t.size ∧ 1 ≤ K ∧ K ≤ 4 ∧ R ≤ 1114111 ∧ (R = 65533 → K = 1 ∨ K = 3) ∧ Utf8.decode t 0 = (R, K) ∧ t.size = min xs.length 4 ∧ 0 < xs.length) := ⟨⟨h2, h3, hn.1, hn.2.1, hle, her, hsg, hts2, hl⟩⟩
  clear h2 h3 hn her hle hsg hi hts2
  rcases Nat.lt_trichotomy xs.length 4 with h4 | h4 | h4
  · rw [show min xs.length 4 = xs.length by omega] at hcv
    have g4 : (xs.length : Int) < 4 := by omega
    have g5 : ¬ (4 : Int) < xs.length := by omega
    go_enter Tryd.func27, Tryd.ntmps27
    go_wp2
    go_loopg [2] 2 (fun gf r wr => wr.heap[w.heap.size]? = some (.stringIter t (if gf = 2 then 0 else K)) ∧ Below w.heap.size w wr ∧ gf ≤ 2 ∧ 1 ≤ gf ∧ (gf = 2 → r = .int .i32 0) ∧ (gf = 1 → r = .int .i32 (R : Int)))
    case atStart => exact ⟨World.iter_heap w t 0, (Below.refl _ w).alloc (Nat.le_refl _) _, by omega, by omega, fun _ => rfl, fun h => by omega⟩
    case round =>
      obtain ⟨hit, hB, hg2, hg1, hr2, hr1⟩ := hrel
      have HH := HT.out
      rcases (show gk = 2 ∨ gk = 1 by omega) with rfl | rfl
      · obtain rfl := hr2 rfl
        rw [if_pos rfl] at hit
        have hnx : ∀ ty, (Instr.next (.pointer (some ⟨w.heap.size, 0, none⟩)) true ty).run Tryd.prog wr = _ := fun ty => Lib.run_next_any_at wr w.heap.size t 0 ty hit HH.1
        rw [HH.2.2.2.2.2.2.1] at hnx
        have hit2 := Lib.iterAt_heap wr w.heap.size t 0 (0 + K) hit
        have hB2 := Lib.below_iterAt hB (k := w.heap.size) (Nat.le_refl _) t (0 + K)
        dsimp only at hnx
        generalize wr.iterAt w.heap.size t (0 + K) = W at hnx hit2 hB2
        clear hr1 hr2 hit HH
        go_wp2
        go_roundg 1
        case measure => omega
        case rel => exact ⟨by rw [if_neg (by omega)]; simpa using hit2, hB2, by omega, by omega, fun h => by omega, fun _ => rfl⟩
      · obtain rfl := hr1 rfl
        rw [if_neg (by omega)] at hit
        have k0 : (0 : Int) < (K : Int) := by omega
        by_cases hlt : K < t.size
        · have hnx : ∀ ty, (Instr.next (.pointer (some ⟨w.heap.size, 0, none⟩)) true ty).run Tryd.prog wr = _ := fun ty => Lib.run_next_any_at wr w.heap.size t K ty hit hlt
          have hB2 := Lib.below_iterAt hB (k := w.heap.size) (Nat.le_refl _) t (K + (Utf8.decode t K).2)
          generalize wr.iterAt w.heap.size t (K + (Utf8.decode t K).2) = W at hnx hB2
          generalize (Utf8.decode t K).1 = R2 at hnx
          by_cases h5 : R = 65533
          · rcases HH.2.2.2.2.2.1 h5 with h1 | h1
            · subst h5 h1
              clear hr1 hr2 hit HH HT
              go_wp2
              go_ret2
              exact ⟨rfl, hB2⟩
            · subst h5 h1
              clear hr1 hr2 hit HH HT
              go_wp2
              go_ret2
              exact ⟨rfl, hB2⟩
          · have n5 : ¬ (R : Int) = 65533 := by omega
            have hnd : nxd (R, K) = ((R : Int), (K : Int)) := if_neg (fun h => h5 h.1)
            clear hr1 hr2 hit HH HT
            go_wp2
            go_ret2
            exact ⟨by rw [hnd]; rfl, hB2⟩
        · have hnx : ∀ ty, (Instr.next (.pointer (some ⟨w.heap.size, 0, none⟩)) true ty).run Tryd.prog wr = _ := fun ty => Lib.run_next_end_at wr w.heap.size t K ty hit hlt
          have hk : t.size = K := by omega
          by_cases h5 : R = 65533
          · rcases HH.2.2.2.2.2.1 h5 with h1 | h1
            · subst h5 h1
              clear hr1 hr2 hit HH HT
              go_wp2
              go_ret2
              exact ⟨rfl, hB⟩
            · subst h5 h1
              clear hr1 hr2 hit HH HT
              go_wp2
              go_ret2
              exact ⟨rfl, hB⟩
          · have n5 : ¬ (R : Int) = 65533 := by omega
            have hnd : nxd (R, K) = ((R : Int), (K : Int)) := if_neg (fun h => h5 h.1)
            clear hr1 hr2 hit HH HT
            go_wp2
            go_ret2
            exact ⟨by rw [hnd]; rfl, hB⟩
  · rw [show min xs.length 4 = xs.length by omega] at hcv
    have g4 : ¬ (xs.length : Int) < 4 := by omega
    have g5 : ¬ (4 : Int) < xs.length := by omega
    have hcv2 := hcv
    rw [h4] at hcv2
    go_enter Tryd.func27, Tryd.ntmps27
    go_wp2
    go_loopg [2] 2 (fun gf r wr => wr.heap[w.heap.size]? = some (.stringIter t (if gf = 2 then 0 else K)) ∧ Below w.heap.size w wr ∧ gf ≤ 2 ∧ 1 ≤ gf ∧ (gf = 2 → r = .int .i32 0) ∧ (gf = 1 → r = .int .i32 (R : Int)))
    case atStart => exact ⟨World.iter_heap w t 0, (Below.refl _ w).alloc (Nat.le_refl _) _, by omega, by omega, fun _ => rfl, fun h => by omega⟩
    case round =>
      obtain ⟨hit, hB, hg2, hg1, hr2, hr1⟩ := hrel
      have HH := HT.out
      rcases (show gk = 2 ∨ gk = 1 by omega) with rfl | rfl
      · obtain rfl := hr2 rfl
        rw [if_pos rfl] at hit
        have hnx : ∀ ty, (Instr.next (.pointer (some ⟨w.heap.size, 0, none⟩)) true ty).run Tryd.prog wr = _ := fun ty => Lib.run_next_any_at wr w.heap.size t 0 ty hit HH.1
        rw [HH.2.2.2.2.2.2.1] at hnx
        have hit2 := Lib.iterAt_heap wr w.heap.size t 0 (0 + K) hit
        have hB2 := Lib.below_iterAt hB (k := w.heap.size) (Nat.le_refl _) t (0 + K)
        dsimp only at hnx
        generalize wr.iterAt w.heap.size t (0 + K) = W at hnx hit2 hB2
        clear hr1 hr2 hit HH
        go_wp2
        go_roundg 1
        case measure => omega
        case rel => exact ⟨by rw [if_neg (by omega)]; simpa using hit2, hB2, by omega, by omega, fun h => by omega, fun _ => rfl⟩
      · obtain rfl := hr1 rfl
        rw [if_neg (by omega)] at hit
        have k0 : (0 : Int) < (K : Int) := by omega
        by_cases hlt : K < t.size
        · have hnx : ∀ ty, (Instr.next (.pointer (some ⟨w.heap.size, 0, none⟩)) true ty).run Tryd.prog wr = _ := fun ty => Lib.run_next_any_at wr w.heap.size t K ty hit hlt
          have hB2 := Lib.below_iterAt hB (k := w.heap.size) (Nat.le_refl _) t (K + (Utf8.decode t K).2)
          generalize wr.iterAt w.heap.size t (K + (Utf8.decode t K).2) = W at hnx hB2
          generalize (Utf8.decode t K).1 = R2 at hnx
          by_cases h5 : R = 65533
          · rcases HH.2.2.2.2.2.1 h5 with h1 | h1
            · subst h5 h1
              clear hr1 hr2 hit HH HT
              go_wp2
              go_ret2
              exact ⟨rfl, hB2⟩
            · subst h5 h1
              clear hr1 hr2 hit HH HT
              go_wp2
              go_ret2
              exact ⟨rfl, hB2⟩
          · have n5 : ¬ (R : Int) = 65533 := by omega
            have hnd : nxd (R, K) = ((R : Int), (K : Int)) := if_neg (fun h => h5 h.1)
            clear hr1 hr2 hit HH HT
            go_wp2
            go_ret2
            exact ⟨by rw [hnd]; rfl, hB2⟩
        · have hnx : ∀ ty, (Instr.next (.pointer (some ⟨w.heap.size, 0, none⟩)) true ty).run Tryd.prog wr = _ := fun ty => Lib.run_next_end_at wr w.heap.size t K ty hit hlt
          have hk : t.size = K := by omega
          by_cases h5 : R = 65533
          · rcases HH.2.2.2.2.2.1 h5 with h1 | h1
            · subst h5 h1
              clear hr1 hr2 hit HH HT
              go_wp2
              go_ret2
              exact ⟨rfl, hB⟩
            · subst h5 h1
              clear hr1 hr2 hit HH HT
              go_wp2
              go_ret2
              exact ⟨rfl, hB⟩
          · have n5 : ¬ (R : Int) = 65533 := by omega
            have hnd : nxd (R, K) = ((R : Int), (K : Int)) := if_neg (fun h => h5 h.1)
            clear hr1 hr2 hit HH HT
            go_wp2
            go_ret2
            exact ⟨by rw [hnd]; rfl, hB⟩
  · rw [show min xs.length 4 = 4 by omega] at hcv
    have g4 : ¬ (xs.length : Int) < 4 := by omega
    have g5 : (4 : Int) < xs.length := by omega
    go_enter Tryd.func27, Tryd.ntmps27
    go_wp2
    go_loopg [2] 2 (fun gf r wr => wr.heap[w.heap.size]? = some (.stringIter t (if gf = 2 then 0 else K)) ∧ Below w.heap.size w wr ∧ gf ≤ 2 ∧ 1 ≤ gf ∧ (gf = 2 → r = .int .i32 0) ∧ (gf = 1 → r = .int .i32 (R : Int)))
    case atStart => exact ⟨World.iter_heap w t 0, (Below.refl _ w).alloc (Nat.le_refl _) _, by omega, by omega, fun _ => rfl, fun h => by omega⟩
    case round =>
      obtain ⟨hit, hB, hg2, hg1, hr2, hr1⟩ := hrel
      have HH := HT.out
      rcases (show gk = 2 ∨ gk = 1 by omega) with rfl | rfl
      · obtain rfl := hr2 rfl
        rw [if_pos rfl] at hit
        have hnx : ∀ ty, (Instr.next (.pointer (some ⟨w.heap.size, 0, none⟩)) true ty).run Tryd.prog wr = _ := fun ty => Lib.run_next_any_at wr w.heap.size t 0 ty hit HH.1
        rw [HH.2.2.2.2.2.2.1] at hnx
        have hit2 := Lib.iterAt_heap wr w.heap.size t 0 (0 + K) hit
        have hB2 := Lib.below_iterAt hB (k := w.heap.size) (Nat.le_refl _) t (0 + K)
        dsimp only at hnx
        generalize wr.iterAt w.heap.size t (0 + K) = W at hnx hit2 hB2
        clear hr1 hr2 hit HH
        go_wp2
        go_roundg 1
        case measure => omega
        case rel => exact ⟨by rw [if_neg (by omega)]; simpa using hit2, hB2, by omega, by omega, fun h => by omega, fun _ => rfl⟩
      · obtain rfl := hr1 rfl
        rw [if_neg (by omega)] at hit
        have k0 : (0 : Int) < (K : Int) := by omega
        by_cases hlt : K < t.size
        · have hnx : ∀ ty, (Instr.next (.pointer (some ⟨w.heap.size, 0, none⟩)) true ty).run Tryd.prog wr = _ := fun ty => Lib.run_next_any_at wr w.heap.size t K ty hit hlt
          have hB2 := Lib.below_iterAt hB (k := w.heap.size) (Nat.le_refl _) t (K + (Utf8.decode t K).2)
          generalize wr.iterAt w.heap.size t (K + (Utf8.decode t K).2) = W at hnx hB2
          generalize (Utf8.decode t K).1 = R2 at hnx
          by_cases h5 : R = 65533
          · rcases HH.2.2.2.2.2.1 h5 with h1 | h1
            · subst h5 h1
              clear hr1 hr2 hit HH HT
              go_wp2
              go_ret2
              exact ⟨rfl, hB2⟩
            · subst h5 h1
              clear hr1 hr2 hit HH HT
              go_wp2
              go_ret2
              exact ⟨rfl, hB2⟩
          · have n5 : ¬ (R : Int) = 65533 := by omega
            have hnd : nxd (R, K) = ((R : Int), (K : Int)) := if_neg (fun h => h5 h.1)
            clear hr1 hr2 hit HH HT
            go_wp2
            go_ret2
            exact ⟨by rw [hnd]; rfl, hB2⟩
        · have hnx : ∀ ty, (Instr.next (.pointer (some ⟨w.heap.size, 0, none⟩)) true ty).run Tryd.prog wr = _ := fun ty => Lib.run_next_end_at wr w.heap.size t K ty hit hlt
          have hk : t.size = K := by omega
          by_cases h5 : R = 65533
          · rcases HH.2.2.2.2.2.1 h5 with h1 | h1
            · subst h5 h1
              clear hr1 hr2 hit HH HT
              go_wp2
              go_ret2
              exact ⟨rfl, hB⟩
            · subst h5 h1
              clear hr1 hr2 hit HH HT
              go_wp2
              go_ret2
              exact ⟨rfl, hB⟩
          · have n5 : ¬ (R : Int) = 65533 := by omega
            have hnd : nxd (R, K) = ((R : Int), (K : Int)) := if_neg (fun h => h5 h.1)
            clear hr1 hr2 hit HH HT
            go_wp2
            go_ret2
            exact ⟨by rw [hnd]; rfl, hB⟩
end Go.Proofs.YtjecgapnlnmloaaDoor.PRender
