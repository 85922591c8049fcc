/- A part of the proof: an interpreter of the program, shown right once, and the laws that it computes. -/
import Derived.Test.YtjecgapnlnmloaaDoorRS
namespace Go.Proofs.YtjecgapnlnmloaaDoor.PRender
open Go.RowKit Go.Proofs.YtjecgapnlnmloaaDoorW.PrintWords Go.Proofs.YtjecgapnlnmloaaDoorW.PrintLast Go.Proofs.YtjecgapnlnmloaaDoorW.PrintMore
set_option linter.unusedVariables false
theorem decode_drop (xs : List Int) (hb : Byt xs) (p : Nat) (h0 : p < xs.length) : Utf8.decode (strOfNums xs) p = sg (xs.drop p) := by
  unfold sg
  rw [Lib.decode_at, Lib.decode_at, strOf_size, strOf_size, Nat.sub_zero, List.length_drop]
  have hg : ∀ i, p + i < xs.length → ((strOfNums xs).get! (p + i)).toNat = ((strOfNums (xs.drop p)).get! i).toNat := by
    intro i hi
    have h1 := strOf_get hb (p + i) hi
    have h2 := strOf_get (hb.drop p) i (by rw [List.length_drop]; omega)
    rw [rd_drop] at h2
    omega
  simp only [Nat.zero_add]
  have := hg 0 h0
  rw [Nat.add_zero] at this
  rw [this]
  exact decodeN_same Iff.rfl Iff.rfl Iff.rfl (fun h => hg 1 (by omega)) (fun h => hg 2 (by omega)) (fun h => hg 3 (by omega))
/-- Where the line begins, of so many that begin ahead. -/
def fr (D : List Int) : Nat → Int
  | 0 => 0
  | j + 1 => rd D j
set_option maxRecDepth 100000 in
set_option maxHeartbeats 1000000 in
theorem place18 (A : Option Addr) (c : Nat) (xs : List Int) (a : Nat) (w : World) (hC : Kd.C (Kd.int .u8) w A xs.length xs) (hc : xs.length ≤ c) (hb : Byt xs) (hl : xs.length < 1000000) (ha : a ≤ xs.length) :
    Calls Tryd.prog 18 #[.slice A xs.length c, .int .i64 a] w fun e w' => e = .returned (.tuple #[.int .i64 (placeOf xs a).1, .int .i64 (placeOf xs a).2]) ∧ Below w.heap.size w w' := by
  have HC : Aside0 (Kd.C (Kd.int .u8) w A xs.length xs ∧ Byt xs) := ⟨⟨hC, hb⟩⟩
  have h23 := starts23 A c xs w hC hc hb hl
  clear hC hb
  have h0 : ¬ (a : Int) < 0 := by omega
  have h1 : ¬ (xs.length : Int) < a := by omega
  obtain ⟨R, hR, hg⟩ := st_parts xs a (xs.length - a)
  rw [show a + (xs.length - a) = xs.length by omega] at hR
  have hnl := st_len xs xs.length
  rw [hR] at h23 hnl
  have hm := st_mem_le xs a
  have hD0 : 0 < (st xs a).length := List.length_pos_iff.2 (st_ne _ _)
  have hDl := st_len xs a
  have hlast : fr (st xs a) (st xs a).length = (fromOf xs a : Nat) := by
    obtain ⟨q, hq⟩ : ∃ q, (st xs a).length = q + 1 := ⟨(st xs a).length - 1, by omega⟩
    have h := hm _ (List.getLast_mem (st_ne xs a))
    rw [hq]
    show rd (st xs a) (q : Int) = _
    unfold rd fromOf
    rw [Int.toNat_natCast, List.getD_eq_getElem?_getD, List.getElem?_eq_getElem (by omega), Option.getD_some]
    rw [List.getLast_eq_getElem] at h ⊢
    simp only [hq, Nat.add_sub_cancel] at h ⊢
    omega
  have hpl : placeOf xs a = ((st xs a).length, 1 + rc ((xs.take a).drop (fromOf xs a))) := rfl
  rw [hpl]
  have hfa := fromOf_le xs a
  generalize st xs a = D at *
  generalize fromOf xs a = F at *
  have HD : Aside0 ((∀ x ∈ R, (a : Int) < x) ∧ (∀ x ∈ D, 0 ≤ x ∧ x ≤ a) ∧ 0 < D.length ∧ D.length ≤ a + 1 ∧ fr D D.length = (F : Int)) := ⟨⟨hg, hm, hD0, hDl, hlast⟩⟩
  clear hg hm hD0 hDl hlast hpl hR
  obtain ⟨n, hn⟩ : ∃ n, (D ++ R).length = n := ⟨_, rfl⟩
  have HN : Aside0 ((D ++ R).length = n) := ⟨hn⟩
  rw [hn] at h23 hnl
  clear hn
  go_enter Tryd.func18, Tryd.ntmps18
  go_wp2_with (go_at_call 23; (with_reducible refine h23.mono ?_); rintro e w1 ⟨A', c', rfl, hL, hlc, hB1⟩)
  have hs1 := hB1.size
  have HL : Aside0 (Kd.C (Kd.int .i64) w1 A' n (D ++ R)) := ⟨hL⟩
  clear hL h23
  go_loopw [4, 6, 20] (fun v4 v6 v20 wr => ∃ j : Nat, v20 = .int .i64 j ∧ v4 = .int .i64 ((min j D.length : Nat) : Int) ∧ v6 = .int .i64 (fr D (min j D.length)) ∧ j ≤ n ∧ wr = w1) (fun _ _ v20 _ => n - (intOf v20).toNat)
  case atStart => exact ⟨0, rfl, by simp, by simp [fr], Nat.zero_le _, rfl⟩
  case round =>
    obtain ⟨j, rfl, rfl, rfl, hj, rfl⟩ := hrel
    have hnn := HN.out
    rw [List.length_append] at hnn
    have HDD := HD.out
    by_cases hlt : j < n
    · have hlt' : (j : Int) < n := by omega
      obtain ⟨ad, rfl, hcell⟩ := Kd.at_int HL.out (j : Int) (by omega) (by omega)
      rw [Int.toNat_natCast] at hcell
      by_cases hjm : j < D.length
      · have e1 := rd_append_left D R j hjm
        have e2 := HDD.2.1 _ (List.getElem_mem hjm)
        have e3 : fr D (min (j + 1) D.length) = D[j] := by
          rw [show min (j + 1) D.length = j + 1 by omega]
          show rd D (j : Int) = _
          have := rd_append_left D [] j hjm
          rwa [List.append_nil] at this
        rw [e1] at hcell
        have e4 : (D[j] : Int) ≤ a := e2.2
        generalize D[j] = X at *
        rw [show min j D.length = j by omega]
        generalize fr D j = Y
        clear HDD e2 e1 hnn
        go_wp2
        go_roundw
        case rel => exact ⟨j + 1, by simp, by rw [show min (j + 1) D.length = j + 1 by omega]; simp, by rw [e3], by omega, by first | rfl | trivial⟩
        case measure => simp only [intOf]; omega
      · have e2 : (a : Int) < rd (D ++ R) (j : Int) := by
          refine HDD.1 _ ?_
          unfold rd
          rw [Int.toNat_natCast, List.getD_eq_getElem?_getD, List.getElem?_append_right (by omega), List.getElem?_eq_getElem (by omega)]
          exact List.getElem_mem _
        generalize rd (D ++ R) (j : Int) = X at *
        have e4 : ¬ X ≤ (a : Int) := by omega
        rw [show min j D.length = D.length by omega]
        generalize hY : fr D D.length = Y
        clear HDD hnn
        go_wp2
        go_roundw
        case rel => exact ⟨j + 1, by simp, by rw [show min (j + 1) D.length = D.length by omega], by rw [show min (j + 1) D.length = D.length by omega, hY], by omega, by first | rfl | trivial⟩
        case measure => simp only [intOf]; omega
    · have hj' : j = n := by omega
      subst hj'
      have hlt' : ¬ (j : Int) < j := by omega
      rw [show min j D.length = D.length by omega, HDD.2.2.2.2]
      obtain ⟨i5, hi5, _, hsz5, _⟩ := info_parts info5
      obtain ⟨A2, hcut, hA, hC2⟩ := print_mid_of (P := Tryd.prog) (Value.int .u8) 0 22 5 .i64 .i64 Tryd.underlying22 hi5 hsz5 A c xs (F : Int) (a : Int) (by omega) (by omega) (by omega) hc
      rw [Int.toNat_natCast, Int.toNat_natCast] at hcut hA hC2
      have hB1' := hB1
      have hR2 := Kd.C_of_reads (h1 := fun _ => rfl) (hA _ (Kd.reads_of_C (Kd.C_below HC.out.1 hB1)))
      have hcv : (convert 22 9 (.slice A2 ((xs.take a).drop F).length (c - F))).run Tryd.prog wr = .ok (.string (strOfNums ((xs.take a).drop F))) wr := Kd.C_string Tryd.underlying22 Tryd.underlying5 Tryd.underlying9 hR2
      have hyb : Byt ((xs.take a).drop F) := (HC.out.2.take a).drop F
      have hyl : ((xs.take a).drop F).length ≤ a := by rw [List.length_drop, List.length_take]; omega
      have hy2 : ((xs.take a).drop F).length = a - F := by rw [List.length_drop, List.length_take]; omega
      rw [hy2] at hcut hcv
      have HY : Aside0 (Byt ((xs.take a).drop F) ∧ ((xs.take a).drop F).length ≤ a) := ⟨⟨hyb, hyl⟩⟩
      clear hA hC2 hR2 hyb hyl hy2 HDD hnn
      generalize hys : (xs.take a).drop F = ys at *
      have HYS : Aside0 ((xs.take a).drop F = ys) := ⟨hys⟩
      clear hys
      have hle0 := rc_le _ ys HY.out.1 (Nat.le_refl _)
      go_wp2
      obtain ⟨IT, hIT⟩ : ∃ b, wr.heap.size = b := ⟨_, rfl⟩
      have hit0 := World.iter_heap wr (strOfNums ys) 0
      have hB0 : Below w.heap.size w (wr.alloc (.stringIter (strOfNums ys) 0)) := hB1.alloc hs1 _
      have hITw : w.heap.size ≤ IT := by omega
      rw [hIT] at hit0 ⊢
      go_loopg [5] ys.length (fun gf v5 wx => ∃ pos col : Nat, v5 = .int .i64 col ∧ wx.heap[IT]? = some (.stringIter (strOfNums ys) pos) ∧ Below w.heap.size w wx ∧ pos ≤ ys.length ∧ ys.length ≤ pos + gf ∧ col + rc (ys.drop pos) = 1 + rc ys)
      case atStart => exact ⟨0, 1, rfl, hit0, hB0, by omega, by omega, by simp⟩
      case round =>
        obtain ⟨pos, col, rfl, hit, hB2, hp1, hp2, hcol⟩ := hrel
        by_cases hpl : pos < ys.length
        · have hne : ys.drop pos ≠ [] := fun h => by have := congrArg List.length h; rw [List.length_drop, List.length_nil] at this; omega
          have hnx : ∀ ty, (Instr.next (.pointer (some ⟨IT, 0, none⟩)) true ty).run Tryd.prog wr = _ := fun ty => Lib.run_next_any_at wr IT (strOfNums ys) pos ty hit (by rw [strOf_size]; exact hpl)
          rw [decode_drop ys HY.out.1 pos hpl] at hnx
          have hsn := sg_n _ (HY.out.1.drop pos) hne
          rw [List.length_drop] at hsn
          have hst := rc_step (HY.out.1.drop pos) hne
          rw [List.drop_drop] at hst
          have hit2 := Lib.iterAt_heap wr IT (strOfNums ys) pos (pos + (sg (ys.drop pos)).2) hit
          have hB3 := Lib.below_iterAt hB2 (k := IT) hITw (strOfNums ys) (pos + (sg (ys.drop pos)).2)
          generalize (sg (ys.drop pos)).2 = K at *
          generalize (sg (ys.drop pos)).1 = R1 at *
          generalize wr.iterAt IT (strOfNums ys) (pos + K) = W at *
          have hyl := HY.out.2
          obtain ⟨gk, rfl⟩ : ∃ m, gk = m + 1 := ⟨gk - 1, by omega⟩
          go_wp2
          go_roundg gk
          case measure => omega
          case rel => exact ⟨pos + K, col + 1, by simp, hit2, hB3, by omega, by omega, by omega⟩
        · have hnx : ∀ ty, (Instr.next (.pointer (some ⟨IT, 0, none⟩)) true ty).run Tryd.prog wr = _ := fun ty => Lib.run_next_end_at wr IT (strOfNums ys) pos ty hit (by rw [strOf_size]; exact hpl)
          rw [List.drop_of_length_le (by omega), rc_nil] at hcol
          go_wp2
          go_ret2
          exact ⟨by rw [HYS.out, show 1 + rc ys = col by omega]; rfl, hB2⟩
end Go.Proofs.YtjecgapnlnmloaaDoor.PRender
