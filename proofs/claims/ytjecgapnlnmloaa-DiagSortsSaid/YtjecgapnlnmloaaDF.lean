/- A part of the proof: an interpreter of the program, shown right once, and the laws that it computes. -/
import Derived.Test.YtjecgapnlnmloaaDE
import Derived.Carry
namespace Go.Proofs.Ytjecgapnlnmloaa
open Go.RowKit Go.Shelf Go.Lib Go.Sort Go.DiagLaw
set_option linter.unusedVariables false
namespace D
/-- Each once, of the first k. -/
def outK (L : List Dg) (k : Nat) : List Dg := (L.take k).foldl (fun out x => if x ∈ out then out else out ++ [x]) []
theorem outK_succ (L : List Dg) (k : Nat) (hk : k < L.length) : outK L (k + 1) = if L.getD k (0, 0, 0) ∈ outK L k then outK L k else outK L k ++ [L.getD k (0, 0, 0)] := by
  unfold outK
  rw [List.take_succ_eq_append_getElem hk, List.foldl_append, DiagLaw.getD_lt hk]
  rfl
theorem outK_all (L : List Dg) : outK L L.length = once L := by unfold outK once; rw [List.take_length]
theorem outK_length (L : List Dg) : ∀ k, k ≤ L.length → (outK L k).length ≤ k
  | 0, _ => by simp [outK]
  | k + 1, h => by
    rw [outK_succ L k (by omega)]
    have := outK_length L k (by omega)
    split
    · omega
    · simp; omega
theorem fl_append (M : List Dg) (p : Dg) : fl (M ++ [p]) = fl M ++ encD p := by
  apply List.ext_getElem?
  intro j
  by_cases h : j < M.length * 3
  · rw [List.getElem?_append_left (by rw [fl_length]; exact h), fl_get h, fl_get (by simp; omega), fl_cell h, fl_cell (by simp; omega)]
    have e : (M ++ [p]).getD (j / 3) (0, 0, 0) = M.getD (j / 3) (0, 0, 0) := by
      rw [List.getD, List.getD, List.getElem?_append_left (by omega)]
    rw [e]
  · rw [List.getElem?_append_right (by rw [fl_length]; omega), fl_length]
    by_cases h2 : j < (M.length + 1) * 3
    · have e : (M ++ [p]).getD (j / 3) (0, 0, 0) = p := by
        rw [List.getD, List.getElem?_append_right (by omega), show j / 3 - M.length = 0 by omega]
        rfl
      rw [fl_get (by simpa using h2), fl_cell (by simpa using h2), e]
      have : j - M.length * 3 = 0 ∨ j - M.length * 3 = 1 ∨ j - M.length * 3 = 2 := by omega
      rcases this with h | h | h
      · rw [h, if_pos (by omega)]; rfl
      · rw [h, if_neg (by omega), if_pos (by omega)]; rfl
      · rw [h, if_neg (by omega), if_neg (by omega)]; rfl
    · rw [List.getElem?_eq_none (by rw [fl_length]; simpa using h2), List.getElem?_eq_none (by simp [encD]; omega)]
theorem rel_add {w3 : World} {B : Nat} {v' : Value} {O : List Dg} {cnt : Nat} (x0 x1 x2 : Int)
    (h : w3.ownsRow B 34 3 v' (cnt + 1) (fl O ++ [.int .i64 x0, .int .i64 x1, .int .i64 x2])) : w3.ownsRow B 34 3 v' (cnt + 1) (fl (O ++ [(x0, x1, x2)])) := by
  rw [fl_append]
  exact h
theorem own_keep {w w' : World} {B n mb : Nat} {v : Value} {xs : List Value} (h : w.ownsRow B 34 3 v n xs) (hb : mb < B) (hs : ∀ b, b ≠ mb → w'.heap[b]? = w.heap[b]?) : w'.ownsRow B 34 3 v n xs := by
  refine ⟨h.1, ?_⟩
  rcases h.2 with h | ⟨g, cap, cur, hv, h1, h2, h3, h4, h5, h6⟩
  · exact .inl h
  · exact .inr ⟨g, cap, cur, hv, h1, (hs g (by omega)).trans h2, h3, h4, h5, h6⟩
theorem cell_keep {w w' : World} {mb : Nat} {p : Addr} (hs : ∀ b, b ≠ mb → w'.heap[b]? = w.heap[b]?) (hp : p.block ≠ mb) : w'.cell? p = w.cell? p := World.cell?_of_block (hs p.block hp)
set_option maxRecDepth 100000 in
set_option maxHeartbeats 1000000 in
theorem sort21 (a : Option Addr) (L : List Dg) (n c : Nat) (hLn : L.length = n) (hn : n ≤ 60) (w : World) (hL : DRow w a L) :
    Calls Try.prog 21 #[.slice a n c] w fun e w' => ∃ a' c', e = .returned (.slice a' (sortD L).length c') ∧ DRow w' a' (sortD L) ∧ Below w.heap.size w w' := by
  obtain ⟨i0, hi, hz0, hz1, hz2⟩ := info_parts info34
  have HL : Aside (DRow w a L ∧ L.length = n) := ⟨hL, hLn⟩
  clear hL hLn
  have hmm := @run_makeMap Try.prog
  go_enter Try.func21, Try.ntmps21
  go_wp2
  go_loopw [4, 12] (fun v i wr => ∃ (k : Nat) (O : List Dg) (cnt : Nat) (es : Array MapEntry) (clock : Nat), i = .int .i64 k ∧ k ≤ n ∧ O = outK L k ∧ O.length = cnt ∧ wr.ownsRow (w.heap.size + 1) 34 3 v cnt (fl O) ∧ (cnt = 0 → v = .slice none 0 0) ∧ (v = .slice none 0 0 → cnt = 0) ∧ wr.heap[w.heap.size]? = some (.map es clock) ∧ es.toList.map (·.key) = O.map dv ∧ Below w.heap.size w wr) (fun _ i _ => n - (intOf i).toNat)
  case atStart => exact ⟨0, [], 0, #[], 0, rfl, Nat.zero_le _, rfl, rfl, by simpa [fl, flatK] using World.ownsRow_nil (w.alloc (.map #[] 0)) (w.heap.size + 1) 34 3, fun _ => rfl, fun _ => rfl, by show (w.heap.push _)[w.heap.size]? = _; exact Array.getElem?_push_size, rfl, (Below.refl _ w).alloc (Nat.le_refl _) _⟩
  case round =>
    obtain ⟨k, O, cnt, es, clock, rfl, hk, hO, hOc, hown, hnil0, hnil, hmap, hkeys, hB⟩ := hrel
    have hcnt : cnt ≤ k := by rw [← hOc, hO]; exact outK_length L k (by rw [HL.out.2]; exact hk)
    have HO : Aside (O = outK L k ∧ O.length = cnt) := ⟨hO, hOc⟩
    have hmb : w.heap.size < wr.heap.size := (Array.getElem?_eq_some_iff.1 hmap).1
    by_cases hlt : k < n
    · have hlt' : (k : Int) < n := by omega
      obtain ⟨b, o, ha, hb, c0, c1, c2⟩ := HL.out.1.below hB k (by rw [HL.out.2]; exact hlt)
      subst ha
      generalize hx : L.getD k (0, 0, 0) = x at c0 c1 c2
      have XX : Aside (L.getD k (0, 0, 0) = x) := hx
      clear hx
      obtain ⟨x0, x1, x2⟩ := x
      dsimp only at c0 c1 c2
      obtain ⟨v0, s0, rfl, _⟩ := drow_of_own hOc hown
      have hmap1 : (wr.alloc (.cells #[.int .i64 x0, .int .i64 x1, .int .i64 x2] 34)).heap[w.heap.size]? = some (.map es clock) := by
        show (wr.heap.push _)[w.heap.size]? = _
        rw [Array.getElem?_push, if_neg (by omega)]; exact hmap
      obtain ⟨vl, hlk⟩ := lookup42 hmap1 hkeys (x0, x1, x2)
      by_cases hx : (x0, x1, x2) ∈ O
      · rw [decide_eq_true hx] at hlk
        have OW : Aside (wr.ownsRow (w.heap.size + 1) 34 3 (.slice v0 cnt s0) cnt (fl O)) := hown
        have MM : Aside ((wr.alloc (.cells #[.int .i64 x0, .int .i64 x1, .int .i64 x2] 34)).heap[w.heap.size]? = some (.map es clock)) := hmap1
        have KK : Aside (es.toList.map (·.key) = O.map dv) := hkeys
        have NN : Aside ((cnt = 0 → Value.slice v0 cnt s0 = .slice none 0 0) ∧ (Value.slice v0 cnt s0 = .slice none 0 0 → cnt = 0)) := ⟨hnil0, hnil⟩
        have IN : Aside ((x0, x1, x2) ∈ O) := hx
        clear hown hmap hmap1 hkeys hnil0 hnil hx hO hOc
        go_wp2
        go_roundw
        case rel => exact ⟨k + 1, O, cnt, es, clock, by simp, by omega, by rw [outK_succ L k (by rw [HL.out.2]; exact hlt), XX.out, ← HO.out.1, if_pos IN.out], HO.out.2, OW.out.alloc _, NN.out.1, NN.out.2, MM.out, KK.out, hB.alloc hB.size _⟩
        case measure => simp only [intOf]; omega
      · rw [decide_eq_false hx] at hlk
        obtain ⟨W2, es', hup, hm2, hk2, hsame, hsz, hos, htp, hout⟩ := update42 hmap1 hkeys (x0, x1, x2) hx (.int .i64 cnt)
        have hne : wr.heap.size ≠ w.heap.size := by omega
        have e0 : W2.cell? ⟨wr.heap.size, 0, none⟩ = some (.int .i64 x0) := (cell_keep hsame hne).trans (new_cell _ _ _ _ _ _ rfl rfl)
        have e1 : W2.cell? ⟨wr.heap.size, 1, none⟩ = some (.int .i64 x1) := (cell_keep hsame hne).trans (new_cell _ _ _ _ _ _ rfl rfl)
        have e2 : W2.cell? ⟨wr.heap.size, 2, none⟩ = some (.int .i64 x2) := (cell_keep hsame hne).trans (new_cell _ _ _ _ _ _ rfl rfl)
        have hown2 : W2.ownsRow (w.heap.size + 1) 34 3 (.slice v0 cnt s0) cnt (fl O) := own_keep (hown.alloc _) (by omega) hsame
        have hsz2 : W2.heap.size = wr.heap.size + 1 := by rw [hsz]; simp
        have hB2 : Below w.heap.size w W2 := by
          have hb := hB.alloc hB.size (.cells #[.int .i64 x0, .int .i64 x1, .int .i64 x2] 34)
          exact ⟨hos.trans hb.os, htp.trans hb.tape, hout.trans hb.output, by omega, fun j hj => (hsame j (by omega)).trans (hb.block j hj)⟩
        have M2 : Aside (W2.heap[w.heap.size]? = some (.map es' (clock + 1)) ∧ es'.toList.map (·.key) = (O ++ [(x0, x1, x2)]).map dv) := ⟨hm2, hk2⟩
        have IN : Aside ((x0, x1, x2) ∉ O) := hx
        clear hown hmap hmap1 hkeys hnil0 hnil hx hO hOc hm2 hk2 hsame hsz hos htp hout
        go_wp2_with (at_builtin; refine wpList_append_own _ rfl (.tmp 28) (.tmp 30) 29 rfl (w.heap.size + 1) 34 i0 (dg 0 0 0) 3 24 Try.underlying29 hi hz0 hz1 hz2 rfl (by decide) _ _ _ rfl (hown2.alloc _) ⟨wr.heap.size + 1, 0, none⟩ 1 1 [.int .i64 x0, .int .i64 x1, .int .i64 x2] rfl rfl ?c1 ?c2 ?c3 ?c4 ?c5 ?_)
        case c1 =>
          intro j u hj
          match j, hj with
          | 0, hj => simp at hj; subst hj; exact new_cell _ _ _ _ _ _ hsz2.symm rfl
          | 1, hj => simp at hj; subst hj; exact new_cell _ _ _ _ _ _ hsz2.symm rfl
          | 2, hj => simp at hj; subst hj; exact new_cell _ _ _ _ _ _ hsz2.symm rfl
        case c2 => intro u hu; simp at hu; rcases hu with rfl | rfl | rfl <;> rfl
        case c3 => unfold maxLen; omega
        case c4 => omega
        case c5 => simp; omega
        · intro v' w3 hown' hgrow hnil'
          have hmap3 : w3.heap[w.heap.size]? = some (.map es' (clock + 1)) := by
            rw [hgrow.block w.heap.size (by simp; omega) (by
              intro e
              have := (hown2.lt w.heap.size e.symm).1
              omega)]
            show (W2.heap.push _)[w.heap.size]? = _
            rw [Array.getElem?_push, if_neg (by omega)]
            exact M2.out.1
          have hB3 := (hB2.alloc (by omega) (.cells #[.int .i64 x0, .int .i64 x1, .int .i64 x2] 34)).grown hgrow (by simp; omega) (fun j hj => by have := (hown2.lt j hj).1; omega)
          have M3 : Aside (w3.heap[w.heap.size]? = some (.map es' (clock + 1))) := hmap3
          have O3 : Aside (w3.ownsRow (w.heap.size + 1) 34 3 v' (cnt + 1) (fl (O ++ [(x0, x1, x2)]))) := rel_add x0 x1 x2 hown'
          have N3 : Aside (v' = .slice none 0 0 → False) := by first | exact fun h => (hnil' h).elim | (intro h; simp_all)
          clear hown' hgrow hnil' hown2 hmap3
          go_wp2
          go_roundw
          case rel => exact ⟨k + 1, O ++ [(x0, x1, x2)], cnt + 1, es', clock + 1, by simp, by omega, by rw [outK_succ L k (by rw [HL.out.2]; exact hlt), XX.out, ← HO.out.1, if_neg IN.out], by rw [List.length_append, HO.out.2]; rfl, O3.out, (fun h => by omega), (fun h => (N3.out h).elim), M3.out, M2.out.2, hB3⟩
          case measure => simp only [intOf]; omega
    · have hk' : k = n := by omega
      subst hk'
      have hlt' : ¬ (k : Int) < k := by omega
      have hso : once L = O := by rw [HO.out.1, ← outK_all, HL.out.2]
      have hsd : sortD L = upD O := by unfold sortD; rw [hso]
      have hsl : (sortD L).length = cnt := by rw [hsd, upD_len, hOc]
      have SD : Aside (sortD L = upD O ∧ (sortD L).length = cnt) := ⟨hsd, hsl⟩
      clear hso hsd hsl
      by_cases hz : cnt = 0
      · have hv := hnil0 hz
        subst hv
        have h30 := sortFunc30_nil
        have h33 := clone33_nil
        clear hown hmap hkeys hnil0 hnil hO hOc
        go_wp2_with (first | (go_at_call 30; with_reducible refine (h30 _).mono ?_; rintro e w' ⟨rfl, rfl⟩) | (go_at_call 33; with_reducible refine (h33 _).mono ?_; rintro e w' ⟨rfl, rfl⟩))
        go_ret
        refine ⟨none, 0, ?_, fun i hi => ?_, hB⟩
        · rw [SD.out.2, hz]; rfl
        · rw [SD.out.2] at hi; omega
      · rcases hown.2 with ⟨hv, _⟩ | ⟨g, cap, cur, rfl, hbase, hg, hcap1, hcap2, hcur, htake⟩
        · exact absurd (hnil hv) hz
        · have hH := holds_of_own hOc hown
          have hgl : g < wr.heap.size := (Array.getElem?_eq_some_iff.1 hg).1
          have h30 := sortFunc30 g cap cnt O hOc wr hH hgl (by omega)
          clear hown hmap hkeys hnil0 hnil hO hH hg hcur htake
          go_wp2_with (go_at_call 30; with_reducible refine h30.mono ?_; rintro e w2 ⟨rfl, hR2, hB2⟩; have h33 := clone33 g cap cnt (upD O) (by rw [upD_len]; exact hOc) w2 hR2 (by omega); clear h30)
          go_wp2_with (go_at_call 33; with_reducible refine h33.mono ?_; rintro e w4 ⟨g4, cap4, rfl, hR4, hB4⟩; clear h33)
          go_ret
          rw [SD.out.2, SD.out.1]
          exact ⟨_, cap4, rfl, hR4, hB.trans ((hB2 _ (by omega)).trans (hB4.mono (Nat.le_trans hB.size (hB2 w.heap.size (by omega)).size)))⟩
end D
end Go.Proofs.Ytjecgapnlnmloaa
