/- A part of the proof: an interpreter of the program, shown right once, and the laws that it computes. -/
import Derived.Test.YtpanfhfcpniodaaGreatDoorTWq
import Derived.Test.YtpanfhfcpniodaaGreatDoorTWg1
import Derived.Test.YtpanfhfcpniodaaGreatDoorTWg2
import Derived.Test.YtpanfhfcpniodaaGreatDoorTWg3
import Derived.Deep.RegionHeld3
import Derived.Laws.BytesArg
import Derived.Lib.ConvBytes
import Derived.Lib.SmallJoins
import Derived.Deep.RegionLaw
import Derived.Deep.CutRange
import Derived.Deep.CutBlock
namespace Go.Proofs.YtpanfhfcpniodaaGreatDoor
open Go.Eng Go.RowKit Go.MapF Go.MapKept
set_option linter.unusedVariables false
/-- The key's letter. -/
def kf (ks : Nat → Int) (i : Nat) : Nat := 97 + wth (ks i)
theorem kf_ok (ks : Nat → Int) (i : Nat) : 97 ≤ kf ks i ∧ kf ks i ≤ 102 := by
  have := wth_lt (ks i)
  unfold kf; omega
theorem own_drewN {B n : Nat} {v : Value} {xs : List Value} {w : World} (h : w.ownsRow B 3 1 v n xs) : ∀ q, (w.drewN q).ownsRow B 3 1 v n xs
  | 0 => h
  | q + 1 => (own_drewN h q).drew
def dupTo (K : Nat → Nat) (k j : Nat) : Bool := (List.range j).any fun i => K i == K k
theorem dupTo_succ (K : Nat → Nat) (k j : Nat) : dupTo K k (j + 1) = (dupTo K k j || (K j == K k)) := by
  unfold dupTo
  rw [List.range_succ, List.any_append]
  simp
def KRow (w : World) (a : Option Addr) (n : Nat) (ks : Nat → Int) : Prop := ∀ i, i < n → ∃ b o, a = some ⟨b, o, none⟩ ∧ b < w.heap.size ∧ w.cell? ⟨b, o + i, none⟩ = some (.int .i64 (ks i))
theorem add_eq (t u : ByteArray) (h : t.size + u.size ≤ 9223372036854775807) : ∃ T : ByteArray, T = t ++ u ∧ T.size = t.size + u.size ∧ ∀ w, (Op.stringOp .add t u).run Tryz.prog w = .ok (.string T) w :=
  ⟨t ++ u, rfl, by simp [ByteArray.size_append], fun w => run_string_add_sum w t u h⟩
theorem strN_app (a b : List Nat) : strN a ++ strN b = strN (a ++ b) := by
  apply ByteArray.ext
  simp [strN]
theorem row_text (K : Nat → Nat) (k : Nat) {s T1 T2 T3 T4 T5 : ByteArray} {x d : Nat} (hs : s = strN (byteF K k)) (h1 : T1 = s ++ ⟨#[107]⟩) (h2 : T2 = T1 ++ strN [x]) (h3 : T3 = T2 ++ ⟨#[58, 32]⟩) (h4 : T4 = T3 ++ strN [48 + d]) (h5 : T5 = T4 ++ ⟨#[10]⟩)
    (hx : K k = x) (hd : k % 10 = d) : T5 = strN (byteF K (k + 1)) := by
  have e1 : (⟨#[107]⟩ : ByteArray) = strN [107] := rfl
  have e2 : (⟨#[58, 32]⟩ : ByteArray) = strN [58, 32] := rfl
  have e3 : (⟨#[10]⟩ : ByteArray) = strN [10] := rfl
  subst hx; subst hd
  rw [h5, h4, h3, h2, h1, hs, e1, e2, e3]
  simp only [strN_app]
  rw [byteF]
  simp
theorem conv_one (W : World) (b M : Nat) (h : W.cell? ⟨b, 0, none⟩ = some (.int .u8 (M : Int))) : (convert 29 9 (.slice (some ⟨b, 0, none⟩) 1 1)).run Tryz.prog W = .ok (.string (strN [M])) W := by
  have h2 := run_convert_bytes_arg (P := Tryz.prog) W 29 5 Tryz.underlying29 Tryz.underlying5 b 0 1 1 [(M : Int)] rfl (fun i hi => by
    obtain rfl : i = 0 := by omega
    exact h) 9 Tryz.underlying9
  have e : strOfNums [(M : Int)] = strN [M] := by simp [strOfNums, strN]
  rw [e] at h2
  exact h2
theorem gAll (n : Nat) (h : 0 < n) (h2 : n ≤ 15) : gRun n = true := by
  rcases (show n = 1 ∨ n = 2 ∨ n = 3 ∨ n = 4 ∨ n = 5 ∨ n = 6 ∨ n = 7 ∨ n = 8 ∨ n = 9 ∨ n = 10 ∨ n = 11 ∨ n = 12 ∨ n = 13 ∨ n = 14 ∨ n = 15 by omega) with rfl | rfl | rfl | rfl | rfl | rfl | rfl | rfl | rfl | rfl | rfl | rfl | rfl | rfl | rfl
  · exact gk1
  · exact gk2
  · exact gk3
  · exact gk4
  · exact gk5
  · exact gk6
  · exact gk7
  · exact gk8
  · exact gk9
  · exact gk10
  · exact gk11
  · exact gk12
  · exact gk13
  · exact gk14
  · exact gk15
/-- 'compose' at the text of the rows. -/
theorem compose_conv {n : Nat} {K : Nat → Nat} (hn : 0 < n) (hn2 : n ≤ 15) (hK : ∀ i, i < n → 97 ≤ K i ∧ K i ≤ 102) (wr : World) (s : ByteArray) (hs : s = strN (byteF K n)) (M N : Nat) (hM : M = 2 * n) (hN : N = M + 1) :
    Calls Tryz.prog 7 #[.slice (some ⟨wr.heap.size, 0, none⟩) s.size (grownCap wr s.size 0 5)] (Lib.bytesWorld wr 5 s) fun e w' => ∃ bv ov cv bd od cd bk ok ck xa xn xc, e = .returned (.agg #[.slice (some ⟨bv, ov, none⟩) N cv, .slice (some ⟨bd, od, none⟩) 1 cd, .slice xa xn xc]) ∧
      Below wr.heap.size wr w' ∧ GraphW w' n K bv ov bk ok ck ∧ w'.cell? ⟨bd, od, none⟩ = some (.int .i64 M) ∧ bv < w'.heap.size ∧ bd < w'.heap.size ∧ bk < w'.heap.size := by
  have hsz : s.size = 6 * n := by rw [hs, strN_size, byteF_len]
  have hge := grownCap_ge wr s.size 0 5
  have hcap : (Lib.bytesCells wr 5 s).size = grownCap wr s.size 0 5 := by
    unfold Lib.bytesCells
    have : s.data.size = s.size := rfl
    simp; omega
  have hnew := Lib.bytesWorld_at_new wr 5 s
  have := compose_of hn hn2 (gAll n hn hn2) hK (w := Lib.bytesWorld wr 5 s) (b := wr.heap.size) (c := grownCap wr s.size 0 5) hnew hcap.symm (by omega) (fun j x hj => by
    have hj' : j < (byteF K n).length := by
      rcases Nat.lt_or_ge j (byteF K n).length with h | h
      · exact h
      · rw [List.getElem?_eq_none h] at hj; cases hj
    have hjs : j < s.size := by rw [hsz, ← byteF_len K n]; exact hj'
    have hc := Lib.bytesWorld_cell wr 5 s j hjs
    rw [cell_eq hnew] at hc
    rw [hc, hs]
    have hb : ∀ y ∈ byteF K n, y < 256 := fun y hy => by
      rw [← byteF_eq K n (by omega)] at hy
      obtain ⟨c, c1, c2⟩ := List.mem_map.1 hy
      rcases txtF_ok n (by omega) hK c c1 with h | ⟨h1, _, h3⟩
      · rw [den_small h] at c2; omega
      · have := den_let h1 h3
        have h4 : hiL (c - 256) ≤ 122 := by
          unfold hiL; split <;> omega
        omega
    have e : ((strN (byteF K n)).data.toList)[j]? = some (UInt8.ofNat x) := by
      show ((byteF K n).map UInt8.ofNat)[j]? = _
      rw [List.getElem?_map, hj]; rfl
    rw [List.getD_eq_getElem?_getD, e]
    have hx : x < 256 := hb x (List.mem_of_getElem? hj)
    simp; omega)
  rw [hsz]
  rw [hsz] at this
  refine this.mono ?_
  rintro e w' ⟨bv, ov, cv, bd, od, cd, bk, ok, ck, x, rfl, hB, hG, hd, h1, h2, h3, xa, xn, xc, rfl⟩
  refine ⟨bv, ov, cv, bd, od, cd, bk, ok, ck, xa, xn, xc, by rw [hN, hM], ?_, hG, by rw [hd, hM], h1, h2, h3⟩
  exact (Go.Joins.below_bytesWorld wr.heap.size wr 5 s (Nat.le_refl _)).trans (hB _ (Nat.le_refl _))
/-- A row of numbers, whether there are any or not. -/
theorem own_any {w : World} {B : Nat} {v : Value} {L : List Nat} (h : w.ownsRow B 3 1 v L.length (ints L)) (hn : L = [] → v = .slice none 0 0) : ∃ bb cb, v = .slice bb L.length cb ∧ ∀ j x, L[j]? = some x → ∃ g, bb = some ⟨g, 0, none⟩ ∧ w.cell? ⟨g, j, none⟩ = some (.int .i64 (x : Nat)) := by
  by_cases hl : L = []
  · refine ⟨none, 0, by rw [hn hl, hl]; rfl, fun j x hj => ?_⟩
    rw [hl] at hj; simp at hj
  · obtain ⟨g, cap, rfl, _, _, h3⟩ := own_cells h hl
    exact ⟨_, cap, rfl, fun j x hj => ⟨g, rfl, h3 j x hj⟩⟩
set_option maxRecDepth 100000 in
set_option maxHeartbeats 8000000 in
theorem law4 (a : Option Addr) (n0 c0 : Nat) (ks : Nat → Int) (w : World) (hr : KRow w a n0 ks) :
    Calls Tryz.prog 4 #[.slice a n0 c0] w fun e w' => e = .returned (.bool true) ∧ Below w.heap.size w w' := by
  obtain ⟨i0, hi, hz0, hz1, hz2⟩ := info_parts info3
  have HH : Aside0 (KRow w a n0 ks) := ⟨hr⟩
  clear hr
  have h5 := known5
  obtain ⟨n, hn⟩ : ∃ n : Nat, n = min n0 15 := ⟨_, rfl⟩
  have hn15 : n ≤ 15 := by omega
  have hn0 : n ≤ n0 := by omega
  have hmin : (if (15 : Int) < n0 then (15 : Int) else n0) = n := by split <;> omega
  have HN : Aside0 (n = min n0 15) := ⟨hn⟩
  clear hn
  go_enter Tryz.func4, Tryz.ntmps4
  go_wp2_with (go_at_call 5; (with_reducible refine (h5 _).mono ?_); rintro e w1 ⟨rfl, hB1⟩)
  go_loopw [3, 4, 6] (fun v3 v4 v6 wr => ∃ (k : Nat) (s : ByteArray), v3 = .string s ∧ s = strN (byteF (kf ks) k) ∧ v6 = .int .i64 k ∧ k ≤ n ∧ wr.ownsRow w.heap.size 3 1 v4 (dups (kf ks) k).length (ints (dups (kf ks) k)) ∧ (dups (kf ks) k = [] → v4 = .slice none 0 0) ∧ Below w.heap.size w wr) (fun _ _ v6 _ => n - (intOf v6).toNat)
  case atStart => exact ⟨0, _, rfl, rfl, rfl, Nat.zero_le _, World.ownsRow_nil _ _ 3 1, fun _ => rfl, hB1⟩
  case round =>
    obtain ⟨k, s, rfl, hs, rfl, hk, hown, hnil, hB⟩ := hrel
    by_cases hlt : k < n
    · have hlt' : (k : Int) < n := by omega
      have h0 : (0 : Int) ≤ k := by omega
      have hln : (k : Int) < n0 := by omega
      obtain ⟨b, o, rfl, hb, hc⟩ := HH.out k (by omega)
      have d1 := cellB hB hb hc
      have h6 := fun W => within6 (ks k) W
      have hx := wth_lt (ks k)
      have HX : Aside0 (kf ks k = 97 + wth (ks k)) := ⟨rfl⟩
      generalize hxx : wth (ks k) = x at *
      have e1 : IntKind.i64.wrap (97 + (x : Int)) = 97 + (x : Int) := by unfold IntKind.wrap; simp [IntKind.signed, IntKind.bits]; omega
      have e2 : IntKind.u8.wrap (97 + (x : Int)) = 97 + (x : Int) := by unfold IntKind.wrap; simp [IntKind.signed, IntKind.bits]; omega
      obtain ⟨d, hd⟩ : ∃ d : Nat, k % 10 = d := ⟨_, rfl⟩
      have hd2 : d < 10 := by omega
      have e3 : (k : Int).tmod 10 = (d : Int) := by rw [Int.tmod_eq_emod_of_nonneg (by omega)]; omega
      have e4 : IntKind.i64.wrap (48 + (d : Int)) = 48 + (d : Int) := by unfold IntKind.wrap; simp [IntKind.signed, IntKind.bits]; omega
      have e5 : IntKind.u8.wrap (48 + (d : Int)) = 48 + (d : Int) := by unfold IntKind.wrap; simp [IntKind.signed, IntKind.bits]; omega
      have hsz : s.size ≤ 100 := by rw [hs, strN_size, byteF_len]; omega
      have HS := Aside0.mk hs
      have HO : Aside0 (wr.ownsRow w.heap.size 3 1 u4 (dups (kf ks) k).length (ints (dups (kf ks) k)) ∧ (dups (kf ks) k = [] → u4 = .slice none 0 0)) := ⟨hown, hnil⟩
      have v1 : ∀ (W : World) (b' : Nat), W.cell? ⟨b', 0, none⟩ = some (.int .u8 (97 + (x : Int))) → (convert 29 9 (.slice (some ⟨b', 0, none⟩) 1 1)).run Tryz.prog W = .ok (.string (strN [97 + x])) W := fun W b' h => conv_one W b' (97 + x) (by rw [h]; simp)
      have v2 : ∀ (W : World) (b' : Nat), W.cell? ⟨b', 0, none⟩ = some (.int .u8 (48 + (d : Int))) → (convert 29 9 (.slice (some ⟨b', 0, none⟩) 1 1)).run Tryz.prog W = .ok (.string (strN [48 + d])) W := fun W b' h => conv_one W b' (48 + d) (by rw [h]; simp)
      obtain ⟨T1, r1, z1, q1⟩ := add_eq s ⟨#[107]⟩ (by show s.size + 1 ≤ _; omega)
      have y1 : T1.size ≤ 101 := by rw [z1]; show s.size + 1 ≤ _; omega
      obtain ⟨T2, r2, z2, q2⟩ := add_eq T1 (strN [97 + x]) (by rw [strN_size]; show T1.size + 1 ≤ _; omega)
      have y2 : T2.size ≤ 102 := by rw [z2, strN_size]; show T1.size + 1 ≤ _; omega
      obtain ⟨T3, r3, z3, q3⟩ := add_eq T2 ⟨#[58, 32]⟩ (by show T2.size + 2 ≤ _; omega)
      have y3 : T3.size ≤ 104 := by rw [z3]; show T2.size + 2 ≤ _; omega
      obtain ⟨T4, r4, z4, q4⟩ := add_eq T3 (strN [48 + d]) (by rw [strN_size]; show T3.size + 1 ≤ _; omega)
      have y4 : T4.size ≤ 105 := by rw [z4, strN_size]; show T3.size + 1 ≤ _; omega
      obtain ⟨T5, r5, z5, q5⟩ := add_eq T4 ⟨#[10]⟩ (by show T4.size + 1 ≤ _; omega)
      have y5 : T5.size ≤ 106 := by rw [z5]; show T4.size + 1 ≤ _; omega
      have HT : Aside0 (T5 = strN (byteF (kf ks) (k + 1))) := ⟨row_text (kf ks) k hs r1 r2 r3 r4 r5 HX.out hd⟩
      clear r1 r2 r3 r4 r5 hd hs hown hnil hxx hc z1 z2 z3 z4 z5
      go_upto_region 9 with (fail)
      go_cut [3] from 20 to 40 (fun v3 wx => v3 = .string T5 ∧ Below wr.heap.size wr wx)
      case first =>
        have da : ∀ X, (wr.alloc X).cell? ⟨b, o + k, none⟩ = some (.int .i64 (ks k)) := fun X => cellB ((Below.refl _ wr).alloc (Nat.le_refl _) X) (lt_cell d1) d1
        have db : ∀ X Y, ((wr.alloc X).alloc Y).cell? ⟨b, o + k, none⟩ = some (.int .i64 (ks k)) := fun X Y => cellB (((Below.refl _ wr).alloc (Nat.le_refl _) X).alloc (by simp) Y) (lt_cell d1) d1
        have n1 : wr.heap.size ≠ b := by have := hB.size; omega
        have n2 : b ≠ wr.heap.size := by have := hB.size; omega
        have n3 : wr.heap.size + 1 ≠ b := by have := hB.size; omega
        have n4 : b ≠ wr.heap.size + 1 := by have := hB.size; omega
        go_region_law (go_simp; go_at_call 6; (with_reducible refine (h6 _).mono ?_); rintro e w2 ⟨rfl, rfl⟩)
        all_goals (go_wp2_with fail)
        all_goals go_meet
        all_goals exact ⟨rfl, (((Below.refl _ wr).alloc (Nat.le_refl _) _).alloc (by simp) _).drew⟩
      case rest =>
        obtain ⟨rfl, hBx⟩ := hcut
        have hB2 := hB.trans (hBx.mono hB.size)
        have HO2 : Aside0 (wc.ownsRow w.heap.size 3 1 u4 (dups (kf ks) k).length (ints (dups (kf ks) k)) ∧ (dups (kf ks) k = [] → u4 = .slice none 0 0)) := ⟨own_below HO.out.1 hBx, HO.out.2⟩
        clear v1 v2 e1 e2 e3 e4 e5 q1 q2 q3 q4 q5 h6 hB hBx d1 y1 y2 y3 y4
        go_wp2
        go_loopw [7, 8] (fun v7 v8 wy => ∃ (j : Nat), v7 = .bool (dupTo (kf ks) k j) ∧ v8 = .int .i64 j ∧ j ≤ k ∧ Below w.heap.size w wy ∧ wy.ownsRow w.heap.size 3 1 u4 (dups (kf ks) k).length (ints (dups (kf ks) k))) (fun _ v8 _ => k - (intOf v8).toNat)
        case atStart => exact ⟨0, rfl, rfl, Nat.zero_le _, hB2, HO2.out.1⟩
        case round =>
          obtain ⟨j, rfl, rfl, hj, hBy, hown⟩ := hrel
          by_cases hjk : j < k
          · have hjk' : (j : Int) < k := by omega
            have hj0 : (0 : Int) ≤ j := by omega
            have hjn : (j : Int) < n0 := by omega
            obtain ⟨b1, o1, hbo, hb1, hc1⟩ := HH.out j (by omega)
            obtain ⟨b2, o2, hbo2, hb2, hc2⟩ := HH.out k (by omega)
            cases hbo
            cases hbo2
            have d1 := cellB hBy hb hc1
            have d2 := cellB hBy hb hc2
            have h6j := fun W => within6 (ks j) W
            have h6k := fun W => within6 (ks k) W
            have hds := dupTo_succ (kf ks) k j
            have hkj : (kf ks j == kf ks k) = decide ((wth (ks j) : Int) = (wth (ks k) : Int)) := by
              unfold kf
              rw [Bool.eq_iff_iff]
              simp
              omega
            have hy := wth_lt (ks j)
            have HOW := Aside0.mk hown
            generalize wth (ks j) = y at *
            generalize wth (ks k) = z at *
            cases hb7 : dupTo (kf ks) k j with
            | true =>
              rw [hb7] at hds
              have HD := Aside0.mk hds
              clear hds hkj hown hc1 hc2 hb7 h6j h6k
              go_wp2
              go_quiet (fail)
              go_wp2
              go_roundw
              case rel => exact ⟨j + 1, by rw [HD.out]; rfl, by simp, by omega, below_drewN hBy _, own_drewN HOW.out _⟩
              case measure => simp only [intOf]; omega
            | false =>
              rw [hb7, hkj] at hds
              have HD := Aside0.mk hds
              clear hds hkj hown hc1 hc2 hb7
              go_wp2
              go_region_held3 (fun V => V.cell? ⟨b, o + j, none⟩ = some (.int .i64 (ks j)) ∧ V.cell? ⟨b, o + k, none⟩ = some (.int .i64 (ks k))) (go_keep) (first
                | (go_at_call 6; (with_reducible refine (h6j _).mono ?_); rintro e w2 ⟨rfl, rfl⟩)
                | (go_at_call 6; (with_reducible refine (h6k _).mono ?_); rintro e w2 ⟨rfl, rfl⟩)
                | fail)
              go_wp2
              go_roundw
              case rel => exact ⟨j + 1, by rw [HD.out]; rfl, by simp, by omega, hBy.drew, HOW.out.drew⟩
              case measure => simp only [intOf]; omega
          · have hj' : j = k := by omega
            subst hj'
            have hjk' : ¬ (j : Int) < j := by omega
            have hdl := dups_len (kf ks) j
            cases hdk : dupTo (kf ks) j j with
            | false =>
              have hd1 : dups (kf ks) (j + 1) = dups (kf ks) j := by
                rw [dups, if_neg]
                show ¬ dupTo (kf ks) j j = true
                rw [hdk]; simp
              have HD : Aside0 (dups (kf ks) (j + 1) = dups (kf ks) j ∧ wr.ownsRow w.heap.size 3 1 u4 (dups (kf ks) j).length (ints (dups (kf ks) j))) := ⟨hd1, hown⟩
              clear hd1 hdk hown
              go_wp2
              go_roundw
              case rel => exact ⟨j + 1, T5, rfl, HT.out, by simp, by omega, by rw [HD.out.1]; exact HD.out.2, by rw [HD.out.1]; exact HO2.out.2, hBy⟩
              case measure => simp only [intOf]; omega
            | true =>
              have hd1 : dups (kf ks) (j + 1) = dups (kf ks) j ++ [j] := by
                rw [dups, if_pos]
                exact hdk
              have HD : Aside0 (dups (kf ks) (j + 1) = dups (kf ks) j ++ [j]) := ⟨hd1⟩
              generalize dups (kf ks) j = D at *
              clear hd1 hdk
              go_wp2_with (at_builtin; refine wpList_append_own _ rfl (.tmp 61) (.tmp 63) 25 rfl w.heap.size 3 i0 (.int .i64 0) 1 8 Tryz.underlying25 hi hz0 hz1 hz2 rfl (by decide) _ _ _ rfl (hown.alloc _) ⟨wr.heap.size, 0, none⟩ 1 1 [.int .i64 (j : Nat)] rfl rfl ?c1 ?c2 ?c3 ?c4 ?c5 ?_)
              case c2 => exact rfl
              case c3 => unfold maxLen; omega
              case c4 => omega
              case c5 => have := hBy.size; omega
              · intro v' w3 hown' hgrow hnil'
                have hB3 := (hBy.alloc hBy.size (.cells #[.int .i64 (j : Nat)] 3)).grown hgrow (by have := hBy.size; simp; omega) (fun i hi => (hown.lt i hi).1)
                have HX : Aside0 (w3.ownsRow w.heap.size 3 1 v' (D.length + 1) (ints D ++ [.int .i64 (j : Nat)])) := ⟨hown'⟩
                clear hown hown' hgrow hnil'
                go_wp2
                go_roundw
                case rel => exact ⟨j + 1, T5, rfl, HT.out, by simp, by omega, by rw [HD.out, ← ints_add]; simpa using HX.out, fun h => (by rw [HD.out] at h; simp at h), hB3⟩
                case measure => simp only [intOf]; omega
    · have hk' : k = n := by omega
      subst hk'
      have hlt' : ¬ (k : Int) < k := by omega
      by_cases hk0 : k = 0
      · subst hk0
        clear hown hnil hs
        go_wp2
        go_ret
        exact ⟨rfl, hB⟩
      · have hkn : ¬ (k : Int) = 0 := by omega
        have hcv := Lib.run_convert_string_bytes (P := Tryz.prog) wr 9 29 5 s Tryz.underlying9 Tryz.underlying29 Tryz.underlying5
        have HS := Aside0.mk hs
        have HO : Aside0 (wr.ownsRow w.heap.size 3 1 u4 (dups (kf ks) k).length (ints (dups (kf ks) k)) ∧ (dups (kf ks) k = [] → u4 = .slice none 0 0)) := ⟨hown, hnil⟩
        clear hs hown hnil
        obtain ⟨M, hM⟩ : ∃ M, M = 2 * k := ⟨_, rfl⟩
        obtain ⟨N, hN⟩ : ∃ N, N = M + 1 := ⟨_, rfl⟩
        have hkpos : 0 < k := by omega
        have hKk : ∀ i, i < k → 97 ≤ kf ks i ∧ kf ks i ≤ 102 := fun i _ => kf_ok ks i
        have c7 := compose_conv hkpos hn15 hKk wr s HS.out M N hM hN
        have HM : Aside0 (M = 2 * k ∧ N = M + 1 ∧ (∀ i, i < k → 97 ≤ kf ks i ∧ kf ks i ≤ 102)) := ⟨hM, hN, hKk⟩
        clear hM hN hKk
        obtain ⟨bb, cb, rfl, hbb⟩ := own_any HO.out.1 HO.out.2
        have hdl := dups_len (kf ks) k
        have htw := fun (V : World) (bv ov cv bk ok ck : Nat) (x1 x2 : Value) (o1 : x1.oneCell' = true) (o2 : x2.oneCell' = true) (hG : GraphW V k (kf ks) bv ov bk ok ck) (h1 : bv < V.heap.size) (h2 : bk < V.heap.size) => twice14 hkpos hn15 HM.out.2.2 bv ov cv bk ok ck M N HM.out.1 HM.out.2.1 x1 x2 o1 o2 V hG h1 h2
        obtain ⟨d, hd⟩ : ∃ d, (dups (kf ks) k).length = d := ⟨_, rfl⟩
        rw [hd] at htw hdl ⊢
        have hin := fun (V : World) (ta : Option Addr) (tc : Nat) (h1 : ∀ j x, (dups (kf ks) k)[j]? = some x → ∃ g, ta = some ⟨g, 0, none⟩ ∧ V.cell? ⟨g, j, none⟩ = some (.int .i64 (x : Nat))) (h2 : ∀ j x, (dups (kf ks) k)[j]? = some x → ∃ g, bb = some ⟨g, 0, none⟩ ∧ V.cell? ⟨g, j, none⟩ = some (.int .i64 (x : Nat))) => ints13 ta bb tc cb (dups (kf ks) k) d hd (by omega) V h1 h2
        have HB := Aside0.mk hbb
        clear hd hbb
        go_wp2_with (go_at_call 7; (with_reducible refine c7.mono ?_); rintro e w5 ⟨bv, ov, cv, bd, od, cd, bk, ok, ck, xa, xn, xc, rfl, hB5, hG5, hd5, l1, l2, l3⟩)
        have e0 : (w5.alloc (.cells #[.slice (some ⟨bv, ov, none⟩) N cv, .slice (some ⟨bd, od, none⟩) 1 cd, .slice xa xn xc] 27)).heap[w5.heap.size]? = some (.cells #[.slice (some ⟨bv, ov, none⟩) N cv, .slice (some ⟨bd, od, none⟩) 1 cd, .slice xa xn xc] 27) := heap_alloc_new w5 _
        have hs0 : (w5.alloc (.cells #[.slice (some ⟨bv, ov, none⟩) N cv, .slice (some ⟨bd, od, none⟩) 1 cd, .slice xa xn xc] 27)).heap.size = w5.heap.size + 1 := by simp
        have hBa : Below w5.heap.size w5 (w5.alloc (.cells #[.slice (some ⟨bv, ov, none⟩) N cv, .slice (some ⟨bd, od, none⟩) 1 cd, .slice xa xn xc] 27)) := (Below.refl _ w5).alloc (Nat.le_refl _) _
        generalize (w5.alloc (.cells #[.slice (some ⟨bv, ov, none⟩) N cv, .slice (some ⟨bd, od, none⟩) 1 cd, .slice xa xn xc] 27)) = W at *
        have f0 : W.cell? ⟨w5.heap.size, 0, none⟩ = some (.slice (some ⟨bv, ov, none⟩) N cv) := cell_eq e0
        have f1 : W.cell? ⟨w5.heap.size, 1, none⟩ = some (.slice (some ⟨bd, od, none⟩) 1 cd) := cell_eq e0
        have f2 : W.cell? ⟨w5.heap.size, 2, none⟩ = some (.slice xa xn xc) := cell_eq e0
        have f3 := cellB hBa l2 hd5
        have hGW := hG5.below hBa l1 l3
        have hBW : Below wr.heap.size wr W := hB5.trans (hBa.mono hB5.size)
        have hzg : w5.heap.size < W.heap.size := by omega
        have hzd : bd < W.heap.size := by omega
        have hzv : bv < W.heap.size := by omega
        have hzk : bk < W.heap.size := by omega
        generalize w5.heap.size = gb at *
        have t14 : ∀ V, Below W.heap.size W V → Calls Tryz.prog 14 #[.agg #[.slice (some ⟨bv, ov, none⟩) N cv, .slice (some ⟨bd, od, none⟩) 1 cd, .slice xa xn xc], .int .i64 M] V fun e w' => ∃ (a : Option Addr) (c : Nat), e = .returned (.slice a d c) ∧ (∀ j x, (dups (kf ks) k)[j]? = some x → ∃ g, a = some ⟨g, 0, none⟩ ∧ w'.cell? ⟨g, j, none⟩ = some (.int .i64 (x : Nat))) ∧ Below V.heap.size V w' := fun V hV =>
          htw V bv ov cv bk ok ck _ _ rfl rfl (hGW.below hV hzv hzk) (Nat.lt_of_lt_of_le hzv hV.size) (Nat.lt_of_lt_of_le hzk hV.size)
        have t13 : ∀ V ta tc, Below W.heap.size W V → (∀ j x, (dups (kf ks) k)[j]? = some x → ∃ g, ta = some ⟨g, 0, none⟩ ∧ V.cell? ⟨g, j, none⟩ = some (.int .i64 (x : Nat))) → Calls Tryz.prog 13 #[.slice ta d tc, .slice bb d cb] V fun e w' => e = .returned (.bool true) ∧ Below V.heap.size V w' := fun V ta tc hV h1 =>
          hin V ta tc h1 (fun j x hj => by
            obtain ⟨g, hg1, hg2⟩ := HB.out j x hj
            exact ⟨g, hg1, cellB hV (Nat.lt_of_lt_of_le (lt_cell hg2) hBW.size) (cellB hBW (lt_cell hg2) hg2)⟩)
        clear e0 hs0 hBa hG5 hd5 hB5 hGW htw hin l1 l2 l3 c7
        go_region_held3 (fun V => V.cell? ⟨gb, 0, none⟩ = some (.slice (some ⟨bv, ov, none⟩) N cv) ∧ V.cell? ⟨gb, 1, none⟩ = some (.slice (some ⟨bd, od, none⟩) 1 cd) ∧ V.cell? ⟨gb, 2, none⟩ = some (.slice xa xn xc) ∧ V.cell? ⟨bd, od, none⟩ = some (.int .i64 M)) (go_keep) (first
          | (go_at_call 10; (with_reducible refine (of10 _ _ _ rfl rfl rfl _).mono ?_); rintro e w6 ⟨rfl, hB6⟩; have hC6 : Below W.heap.size W w6 := ((Below.refl _ W).drew).trans hB6; have r0 := cellB hC6 hzg f0; have r1 := cellB hC6 hzg f1; have r2 := cellB hC6 hzg f2; have r3 := cellB hC6 hzd f3; have g14 := t14 w6 hC6)
          | (go_at_call 14; (with_reducible refine g14.mono ?_); rintro e w7 ⟨ta, tc, rfl, hta, hB7⟩; have hC7 : Below W.heap.size W w7 := hC6.trans (hB7.mono hC6.size); have r0 := cellB hC7 hzg f0; have r1 := cellB hC7 hzg f1; have r2 := cellB hC7 hzg f2; have r3 := cellB hC7 hzd f3; have g13 := t13 w7 ta tc hC7 hta)
          | (go_at_call 13; (with_reducible refine g13.mono ?_); rintro e w8 ⟨rfl, hB8⟩; have hC8 : Below W.heap.size W w8 := hC7.trans (hB8.mono hC7.size); have r0 := cellB hC8 hzg f0; have r1 := cellB hC8 hzg f1; have r2 := cellB hC8 hzg f2; have r3 := cellB hC8 hzd f3)
          | fail)
        go_wp2
        go_ret
        exact ⟨rfl, hB.trans ((hBW.mono hB.size).trans (hC8.mono (Nat.le_trans hB.size hBW.size)))⟩
end Go.Proofs.YtpanfhfcpniodaaGreatDoor
