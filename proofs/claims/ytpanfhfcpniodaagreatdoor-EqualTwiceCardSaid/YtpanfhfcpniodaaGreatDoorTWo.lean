/- A part of the proof: an interpreter of the program, shown right once, and the laws that it computes. -/
import Derived.Test.YtpanfhfcpniodaaGreatDoorTWn
namespace Go.Proofs.YtpanfhfcpniodaaGreatDoor
open Go.Eng Go.RowKit Go.MapF Go.MapKept
set_option linter.unusedVariables false
/-- The cells of the value with a number, and its word. -/
theorem vals_at {w wr : World} {n : Nat} {K : Nat → Nat} {bv ov bk ok ck mb B : Nat} (hG : GraphW w n K bv ov bk ok ck) (hn : 0 < n) (hn2 : n ≤ 15) (hK : ∀ i, i < n → 97 ≤ K i ∧ K i ≤ 102) (hB : Below mb w wr) (hbv : bv < mb) (hbk : bk < mb) (hmb : mb ≤ wr.heap.size)
    {v : Value} {L : List Nat} (hown : wr.ownsRow B 3 1 v L.length (ints L)) (hL : L.length < 2 * n + 1) (hc : ∀ c ∈ L, c < 32) (h1 : v.oneCell' = true) :
    ∃ (q0 : Int) (q1 q2 : ByteArray) (q3 : Option Addr) (n3 k3 : Nat), wr.cell? ⟨bv, ov + L.length * 4, none⟩ = some (.int .i64 q0) ∧ wr.cell? ⟨bv, ov + L.length * 4 + 1, none⟩ = some (.string q1) ∧ wr.cell? ⟨bv, ov + L.length * 4 + 2, none⟩ = some (.string q2) ∧ wr.cell? ⟨bv, ov + L.length * 4 + 3, none⟩ = some (.slice q3 n3 k3) ∧
      ∀ wx, Below wr.heap.size wr wx → Calls Tryz.prog 34 #[.agg #[.int .i64 q0, .string q1, .string q2, .slice q3 n3 k3], v] wx fun e w' => ∃ s, e = .returned (.string s) ∧ (L.length < 2 * n → s = kw K L.length) ∧ Below wx.heap.size wx w' := by
  have at0 : ∀ i r q, L.length * 4 + q = 8 * i + r → (⟨bv, ov + (8 * i + r), none⟩ : Addr) = ⟨bv, ov + L.length * 4 + q, none⟩ := fun i r q h => by
    congr 1; omega
  have cell : ∀ i r q x, L.length * 4 + q = 8 * i + r → w.cell? ⟨bv, ov + (8 * i + r), none⟩ = some x → wr.cell? ⟨bv, ov + L.length * 4 + q, none⟩ = some x := fun i r q x h hx => by
    rw [at0 i r q h] at hx
    exact cellB hB hbv hx
  by_cases hlt : L.length < 2 * n
  · by_cases he : L.length % 2 = 0
    · have hi : L.length / 2 < n := by omega
      have e : L.length = 2 * (L.length / 2) := by omega
      refine ⟨_, _, _, _, _, _, cell (L.length / 2) 0 0 _ (by omega) (hG.key0 _ hi), cell (L.length / 2) 1 1 _ (by omega) (hG.key1 _ hi), cell (L.length / 2) 2 2 _ (by omega) (hG.key2 _ hi), cell (L.length / 2) 3 3 _ (by omega) (hG.key3 _ hi), fun wx _ => ?_⟩
      refine (key34 (K (L.length / 2)) (hK _ hi).1 (hK _ hi).2 v h1 wx).mono ?_
      rintro e w' ⟨rfl, hb⟩
      exact ⟨_, rfl, fun _ => by unfold kw; rw [if_pos he], hb⟩
    · have hi : L.length / 2 < n := by omega
      refine ⟨_, _, _, _, _, _, cell (L.length / 2) 4 0 _ (by omega) (hG.val0 _ hi), cell (L.length / 2) 5 1 _ (by omega) (hG.val1 _ hi), cell (L.length / 2) 6 2 _ (by omega) (hG.val2 _ hi), cell (L.length / 2) 7 3 _ (by omega) (hG.val3 _ hi), fun wx _ => ?_⟩
      refine (key34d (48 + L.length / 2 % 10) (by omega) (by omega) v h1 wx).mono ?_
      rintro e w' ⟨rfl, hb⟩
      exact ⟨_, rfl, fun _ => by unfold kw; rw [if_neg he], hb⟩
  · have hl : L.length = 2 * n := by omega
    refine ⟨_, _, _, _, _, _, cell n 0 0 _ (by omega) hG.top0, cell n 1 1 _ (by omega) hG.top1, cell n 2 2 _ (by omega) hG.top2, cell n 3 3 _ (by omega) hG.top3, fun wx hx => ?_⟩
    obtain ⟨g, cap, rfl, hg1, hg2, hg3⟩ := own_cells hown (by intro h; rw [h] at hl; simp at hl; omega)
    rw [hl]
    refine (key34m bk ok ck g 0 cap (2 * n) (by omega) wx (fun j hj => ?_) (fun j hj => ?_) (by have := hx.size; omega) (by have := hx.size; omega)).mono ?_
    · exact cellB hx (by show bk < _; omega) (cellB hB hbk (hG.kid j hj))
    · have hj' : j < L.length := by omega
      refine ⟨L[j], hc _ (List.getElem_mem _), ?_⟩
      rw [Nat.zero_add]
      exact cellB hx hg2 (hg3 j _ (List.getElem?_eq_getElem hj'))
    · rintro e w' ⟨s, rfl, hb⟩
      exact ⟨s, rfl, fun h => absurd h (by omega), hb⟩
theorem new_cell0 (w : World) (v : Value) (e : TypeId) : (w.alloc (.cells #[v] e)).cell? (({ block := w.heap.size, off := 0 } : Addr).add 0) = some v := by
  unfold World.cell?
  show (match (w.alloc (.cells #[v] e)).heap[w.heap.size]? with | some (.cells c _ _) => _ | _ => _) = _
  rw [heap_alloc_new]
  rfl
theorem own_one {w : World} {B n : Nat} {v : Value} {xs : List Value} (h : w.ownsRow B 3 1 v n xs) : v.oneCell' = true := by
  rcases h.2 with ⟨h, _⟩ | ⟨g, cap, cur, hv, _⟩
  · rw [h]; rfl
  · rw [hv]; rfl
set_option maxRecDepth 100000 in
set_option maxHeartbeats 4000000 in
theorem of22 {n : Nat} {K : Nat → Nat} (hn : 0 < n) (hn2 : n ≤ 15) (hK : ∀ i, i < n → 97 ≤ K i ∧ K i ≤ 102) (bv ov cv bk ok ck mb N : Nat) (hN : N = 2 * n + 1) (x1 x2 : Value) (o1 : x1.oneCell' = true) (o2 : x2.oneCell' = true) (w : World) (hm : w.heap[mb]? = some (.map #[] 0)) (hG : GraphW w n K bv ov bk ok ck) (hbv : bv < mb) (hbk : bk < mb) :
    Calls Tryz.prog 22 #[.map (some mb), .agg #[.slice (some ⟨bv, ov, none⟩) N cv, x1, x2]] w fun e w' => ∃ (bo co : Nat) (L : List Nat), e = .returned (.slice (some ⟨bo, 0, none⟩) N co) ∧ L.length = N ∧ (∀ c ∈ L, c < 32) ∧ (∀ j x, L[j]? = some x → w'.cell? ⟨bo, j, none⟩ = some (.int .i64 (x : Nat))) ∧
      (∀ i i', i < n → i' < n → (L.getD (2 * i) 0 = L.getD (2 * i') 0 ↔ K i = K i')) ∧ Below mb w w' ∧ bo < w'.heap.size ∧ mb < bo := by
  obtain ⟨i0, hi, hz0, hz1, hz2⟩ := info_parts info3
  have hmb : mb < w.heap.size := (Array.getElem?_eq_some_iff.1 hm).1
  have HH : Aside0 (N = 2 * n + 1 ∧ GraphW w n K bv ov bk ok ck ∧ (∀ i, i < n → 97 ≤ K i ∧ K i ≤ 102) ∧ w.heap[mb]? = some (.map #[] 0)) := ⟨hN, hG, hK, hm⟩
  have hN2 : N ≤ 31 := by omega
  clear hN hG hK hm
  go_enter Tryz.func22, Tryz.ntmps22
  go_wp2
  go_loopw [5, 14] (fun v i wr => ∃ (j cnt : Nat) (L : List Nat) (F : Value → Option Value), i = .int .i64 j ∧ j ≤ N ∧ L.length = j ∧ wr.ownsRow (w.heap.size + 1) 3 1 v j (ints L) ∧ Seen wr mb cnt F K L n ∧ Below mb w wr ∧ w.heap.size + 1 ≤ wr.heap.size) (fun _ i _ => N - (intOf i).toNat)
  case atStart => exact ⟨0, 0, [], fun _ => none, rfl, Nat.zero_le _, rfl, World.ownsRow_nil _ _ 3 1, (Seen.first w mb K n HH.out.2.2.2).keep (((Below.refl w.heap.size w).alloc (Nat.le_refl _) _).block mb hmb), (Below.refl mb w).alloc (Nat.le_of_lt hmb) _, by simp⟩
  case round =>
    obtain ⟨j, cnt, L, F, rfl, hj, hL, hown, hS, hB, hsz⟩ := hrel
    by_cases hlt : j < N
    · have hlt' : (j : Int) < N := by omega
      have hcl : ∀ c ∈ L, c < 32 := fun c hc => by have := hS.lt c hc; have := hS.cnt; omega
      obtain ⟨q0, q1, q2, q3, n3, k3, c0, c1, c2, c3, hkey⟩ := vals_at HH.out.2.1 hn hn2 HH.out.2.2.1 hB hbv hbk (by omega) (hL ▸ hown) (by rw [hL, ← HH.out.1]; exact hlt) hcl (own_one hown)
      rw [hL] at c0 c1 c2 c3 hkey
      have HX : Aside0 (wr.ownsRow (w.heap.size + 1) 3 1 u5 j (ints L) ∧ Seen wr mb cnt F K L n ∧ L.length = j) := ⟨hown, hS, hL⟩
      clear hown hS hL
      go_wp2_with (go_at_call 34; (with_reducible refine (hkey _ ((Below.refl _ wr).alloc (Nat.le_refl _) _)).mono ?_); rintro e w4 ⟨s, rfl, hs, hB4⟩)
      have hBa : Below wr.heap.size wr (wr.alloc (.cells #[.int .i64 q0, .string q1, .string q2, .slice q3 n3 k3] 62)) := (Below.refl _ wr).alloc (Nat.le_refl _) _
      have hsz4 : wr.heap.size + 1 ≤ w4.heap.size := by have := hB4.size; simpa using this
      have own4 := own_below (own_below HX.out.1 hBa) hB4
      have hB5 : Below wr.heap.size wr w4 := hBa.trans (hB4.mono (by simp))
      have hS4 := HX.out.2.1.keep (hB5.block mb (by omega))
      have hBw : Below mb w w4 := hB.trans (hB5.mono (by omega))
      clear hB4 hkey hBa hB5 hcl c0 c1 c2 c3
      rcases hS4.look s with ⟨c, hF, hlk⟩ | ⟨hF, hlk⟩
      · have hSn := Aside0.mk (hS4.old (s := s) (by rw [HX.out.2.2]; exact hs) hF)
        clear hS4 hF hs
        rw [hlk]
        go_wp2_with (at_builtin; refine wpList_append_own _ rfl (.tmp 34) (.tmp 36) 25 rfl (w.heap.size + 1) 3 i0 (.int .i64 0) 1 8 Tryz.underlying25 hi hz0 hz1 hz2 rfl (by decide) _ _ _ rfl (own4.alloc _) ⟨w4.heap.size, 0, none⟩ 1 1 [.int .i64 (c : Nat)] rfl rfl ?c1 ?c2 ?c3 ?c4 ?c5 ?_)
        case c1 =>
          intro j' u hj'
          match j', hj' with
          | 0, hj' => simp at hj'; subst hj'; exact new_cell0 _ _ _
        case c2 => intro u hu; simp at hu; subst hu; rfl
        case c3 => unfold maxLen; omega
        case c4 => omega
        case c5 => simp; omega
        · intro v' w3 hown' hgrow _
          have hw : w.heap.size + 1 ≤ w4.heap.size := by omega
          have hS3 := hSn.out.keep ((hgrow.block mb (by simp; omega) (by
            intro e
            have := (own4.lt mb e.symm).1
            omega)).trans (heap_alloc_old w4 _ (by omega)))
          have hB3 := (hBw.alloc (by omega) (.cells #[.int .i64 (c : Nat)] 3)).grown hgrow (by simp; omega) (fun i hi => by have := (own4.lt i hi).1; omega)
          have hz3 := hgrow.size
          go_wp2
          go_roundw
          case rel => exact ⟨j + 1, cnt, L ++ [c], F, by simp, by omega, by simp [HX.out.2.2], by rw [← ints_add]; exact hown', hS3, hB3, by simp at hz3; omega⟩
          case measure => simp only [intOf]; omega
      · obtain ⟨W2, hup, hsame, hB2, F', hS2⟩ := hS4.new (s := s) (by rw [HX.out.2.2]; exact hs) hF
        have HS2 := Aside0.mk hS2
        obtain ⟨es, clk, hes, hesz, _⟩ := hS4.map
        have own2 := own_keep own4 (by omega : mb < w.heap.size + 1) hsame
        have hBw2 := hBw.trans hB2
        have hzB := hB2.size
        have hlen : (Builtin.len_ #[56] 3 #[.map (some mb)]).run Tryz.prog w4 = .ok (.int .i64 (cnt : Nat)) w4 := by
          simp [Builtin.len_, run_underlying und56, MapKept.run_getObj_map hes, goInt, hesz]
        clear hS4 hF hs hS2 hes hesz
        rw [hlk]
        go_wp2_with (at_builtin; refine wpList_append_own _ rfl (.tmp 34) (.tmp 36) 25 rfl (w.heap.size + 1) 3 i0 (.int .i64 0) 1 8 Tryz.underlying25 hi hz0 hz1 hz2 rfl (by decide) _ _ _ rfl (own2.alloc _) ⟨W2.heap.size, 0, none⟩ 1 1 [.int .i64 (cnt : Nat)] rfl rfl ?d1 ?d2 ?d3 ?d4 ?d5 ?_)
        case d1 =>
          intro j' u hj'
          match j', hj' with
          | 0, hj' => simp at hj'; subst hj'; exact new_cell0 _ _ _
        case d2 => intro u hu; simp at hu; subst hu; rfl
        case d3 => unfold maxLen; omega
        case d4 => omega
        case d5 => simp; omega
        · intro v' w3 hown' hgrow _
          have hS3 := HS2.out.keep ((hgrow.block mb (by simp; omega) (by
            intro e
            have := (own2.lt mb e.symm).1
            omega)).trans (heap_alloc_old W2 _ (by omega)))
          have hB3 := (hBw2.alloc (by omega) (.cells #[.int .i64 (cnt : Nat)] 3)).grown hgrow (by simp; omega) (fun i hi => by have := (own2.lt i hi).1; omega)
          have hz3 := hgrow.size
          go_wp2
          go_roundw
          case rel => exact ⟨j + 1, cnt + 1, L ++ [cnt], F', by simp, by omega, by simp [HX.out.2.2], by rw [← ints_add]; exact hown', hS3, hB3, by simp at hz3; omega⟩
          case measure => simp only [intOf]; omega
    · have hk : j = N := by omega
      subst hk
      have hlt' : ¬ (j : Int) < j := by omega
      obtain ⟨g, cap, rfl, hg1, hg2, hg3⟩ := own_cells (hL ▸ hown) (by intro h; rw [h] at hL; simp at hL; have := HH.out.1; omega)
      have hSA := Aside0.mk hS
      clear hS hown
      go_wp2
      go_ret
      refine ⟨g, ⟨cap, by rw [← hL]; rfl⟩, L, hL, fun c hc => ?_, hg3, fun i i' hi hi' => ?_, hB, hg2, by omega⟩
      · have := hSA.out.lt c hc; have := hSA.out.cnt; omega
      · have := hSA.out.same (by rw [hL, HH.out.1]; omega) (fun i hi => by have := HH.out.2.2.1 i hi; omega) hi hi'
        simpa using this
end Go.Proofs.YtpanfhfcpniodaaGreatDoor
