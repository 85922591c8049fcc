/- A part of the proof: what the functions of the program compute, shown once each; the last text holds the statement. No condition beyond those of the statement. -/
import Derived.Test.YtcbmeklhmajglaaDoorCfC
set_option linter.unusedSimpArgs false
set_option linter.unusedVariables false
namespace Go.Proofs.YtcbmeklhmajglaaDoor
open Go.RowKit Go.CfgLaw Go.Proofs.YtcbmeklhmajglaaDoorW.PrintWords Go.Proofs.YtcbmeklhmajglaaDoorW.PrintLast Go.Proofs.YtcbmeklhmajglaaDoorW.PrintMore
set_option linter.unusedVariables false
attribute [local go_sem] setCell_drewN alloc_drewN
attribute [local simp] setCell_drewN alloc_drewN
theorem parseF_long' {S : List UInt8} (h : 2000 < S.length) : parseF S = (zeroC, 4) := by unfold parseF; rw [if_pos h]
theorem parseF_word' {S : List UInt8} (h : ¬ 2000 < S.length) (e : linesF plain (lns S) = none) : parseF S = (zeroC, 5) := by unfold parseF; rw [if_neg h, e]
theorem parseF_some' {S : List UInt8} {f : Cfg} (h : ¬ 2000 < S.length) (e : linesF plain (lns S) = some f) : parseF S = if okC f then (f, 0) else (zeroC, 1) := by unfold parseF; rw [if_neg h, e]
theorem linesF_at (f : Cfg) (l : List (List UInt8)) (i : Nat) (h : i < l.length) : linesF f (l.drop i) = match lineF f (wds l[i]) with | none => none | some f' => linesF f' (l.drop (i + 1)) := by
  rw [List.drop_eq_getElem_cons h]
  rfl
set_option maxRecDepth 100000 in
set_option maxHeartbeats 20000000 in
theorem parse9 (s : ByteArray) (hs : s.size < 1000000) (m : Int) (w : World) (hm : w.cell? ⟨0, 0, none⟩ = some (.int .i64 m)) : Calls Tryd.prog 9 #[.string s] w fun e w' => e = .returned (.tuple #[cv (parseF s.data.toList).1, .int .i64 (parseF s.data.toList).2]) ∧ Below w.heap.size w w' := by
  have hlen : s.data.toList.length = s.size := by simp
  by_cases hl : 2000 < s.size
  · rw [parseF_long' (by omega)]
    go_enter Tryd.func9, Tryd.ntmps9
    go_wp2
    (try simp only [Exit.inBlock, Exit.then])
    refine bodyPost_ret (v := .tuple #[cv zeroC, .int .i64 4]) ?_ rfl ⟨rfl, ?_⟩
    · rw [results_cell_tmp rfl]
      go_simp
      simp [zeroC]
    · (repeat' (first | exact Below.refl _ _ | refine Below.drew ?_ | refine Below.alloc ?_ (by simp <;> omega) _ | refine below_drewN ?_ _))
  · have hl2 : s.size ≤ 2000 := by omega
    have hln : ¬ 2000 < s.data.toList.length := by omega
    obtain ⟨R, hR⟩ : ∃ R, parseF s.data.toList = R := ⟨_, rfl⟩
    rw [hR]
    have HR := Aside0.mk hR
    have HL := Aside0.mk hln
    have h15 := fun W hW => split15 s m W hs hW
    have hll := lns_len s.data.toList
    clear hR
    obtain ⟨S0, hS0⟩ : ∃ S0, lns s.data.toList = S0 := ⟨_, rfl⟩
    rw [hS0] at h15 hll
    have HS := Aside0.mk hS0
    clear hS0
    have h0w : 0 < w.heap.size := lt_of_cell hm
    have hlS : S0.length < 2000000 := by omega
    go_enter Tryd.func9, Tryd.ntmps9
    go_wp2_with (first
      | (go_at_call 11; (with_reducible refine (plain11 _).mono ?_); rintro e w2 ⟨rfl, hB2⟩; have hm2 : w2.cell? ⟨0, 0, none⟩ = some (.int .i64 m) := (hB2.cell (p := ⟨0, 0, none⟩) (by simp)).trans (al_cell _ hm))
      | (go_at_call 15; (with_reducible refine (h15 _ (al_cell _ hm2)).mono ?_); rintro e w3 ⟨rfl, hRow, hB3⟩)
      | fail)
    have hR0 : w2.heap[w.heap.size]? = some (.cells #[.bool false, .bool false, .bool false, .bool false, .bool false, .bool false, .bool false, .bool false, .bool false, .bool false, .int .i64 0, .int .i64 0, .int .i64 0, .int .i64 0] 28) := (hB2.block _ (by simp)).trans (heap_alloc_new w _)
    have hs2 : w.heap.size + 1 ≤ w2.heap.size := by have := hB2.size; simpa using this
    have hBw : Below w.heap.size w w2 := ((Below.refl _ w).alloc (Nat.le_refl _) _).trans (hB2.mono (by simp))
    have hsz : ∀ o, (w2.alloc o).heap.size = w2.heap.size + 1 := fun o => by simp
    have hB5 : Below w.heap.size w w3 := (hBw.alloc hBw.size _).trans (hB3.mono (by rw [hsz]; omega))
    have hR5 := keepb hB3 (heap_al hR0)
    have hb5 := keepb hB3 (heap_alloc_new w2 _)
    rw [hsz] at hRow
    clear hB2 hB3 hm2 hBw hR0
    have HI := Aside0.mk (And.intro hRow (And.intro hR5 (And.intro hb5 hB5)))
    clear hRow hR5 hb5 hB5
    go_loopw [16] (fun v wr => ∃ (i : Nat) (f : Cfg), v = .int .i64 i ∧ i ≤ S0.length ∧ linesF plain S0 = linesF f (S0.drop i) ∧ wr.heap[w2.heap.size]? = some (.cells (cells f) 28) ∧ wr.heap[w.heap.size]? = some (.cells #[.bool false, .bool false, .bool false, .bool false, .bool false, .bool false, .bool false, .bool false, .bool false, .bool false, .int .i64 0, .int .i64 0, .int .i64 0, .int .i64 0] 28) ∧ SRow wr (w2.heap.size + 1) (S0.map ofL) ∧ Below w.heap.size w wr) (fun v _ => S0.length - (intOf v).toNat)
    case atStart => exact ⟨0, plain, rfl, Nat.zero_le _, rfl, HI.out.2.2.1, HI.out.2.1, HI.out.1, HI.out.2.2.2⟩
    case round =>
      obtain ⟨i, f, rfl, hi, hp, hb, hr, hRow, hB⟩ := hrel
      obtain ⟨on, ca, cb, cc, cd⟩ := f
      simp only [cells] at hb
      have b0 := cellrow hb
      have r0 := cellrow hr
      have fb := fun j => froz hb j
      have fr := fun j => froz hr j
      have hne : w2.heap.size ≠ w.heap.size := by omega
      have hne' : w.heap.size ≠ w2.heap.size := by omega
      have hlb : w2.heap.size < wr.heap.size := heap_lt hb
      have hlr : w.heap.size < wr.heap.size := heap_lt hr
      by_cases hlt : i < S0.length
      · have hltz : (i : Int) < S0.length := by omega
        have h16a : ∀ (L : List (List UInt8)), L.length < 1000000 → ∀ (A : Nat) (W : World), W.heap[w2.heap.size]? = some (.cells (cells ⟨on, ca, cb, cc, cd⟩) 28) → SRow W A (L.map ofL) → w2.heap.size ≠ A → Calls Tryd.prog 16 #[.pointer (some ⟨w2.heap.size, 0, none⟩), .slice (some ⟨A, 0, none⟩) L.length L.length] W (LinePost ⟨on, ca, cb, cc, cd⟩ w2.heap.size W (lineF ⟨on, ca, cb, cc, cd⟩ L)) :=
          fun L hLl A W hq hR hqA => line16 ⟨on, ca, cb, cc, cd⟩ w2.heap.size A L.length L W hq hR hLl (Nat.le_refl _) hqA
        rw [linesF_at _ S0 i hlt] at hp
        have hx := hRow.cell i (x := ofL S0[i]) (by rw [List.getElem?_map, List.getElem?_eq_getElem hlt]; rfl)
        have hxl : S0[i].length ≤ s.size := by have := hll.2 S0[i] (List.getElem_mem hlt); omega
        have hw17 := words17 (ofL S0[i]) (by have : (ofL S0[i]).size = S0[i].length := by simp [ofL, ByteArray.size]
                                             omega)
        rw [show (ofL S0[i]).data.toList = S0[i] by simp [ofL]] at hw17
        have hLl : (wds S0[i]).length < 1000000 := by have := wds_len S0[i]; omega
        have h16 := h16a _ hLl
        clear h16a
        generalize wds S0[i] = L at hp hw17 hLl h16
        generalize ofL S0[i] = X at hx hw17
        generalize lineF ⟨on, ca, cb, cc, cd⟩ L = r at hp h16
        have HX := Aside0.mk (And.intro hRow hp)
        clear hRow hp hxl
        have HLi := Aside0.mk hi
        clear hi
        cases r with
        | none =>
          have hq := parseF_word' HL.out (by rw [HS.out]; exact HX.out.2)
          have hR := HR.out
          rw [hq] at hR
          subst hR
          clear HR hq
          go_wp2_with (first
            | (go_at_call 17; (with_reducible refine (hw17 _).mono ?_); rintro e w3 ⟨A2, rfl, hA2, hR2, hB3⟩; have e3 := keepb hB3 hb; have g3 := keepb hB3 hr; have L3 : Below w.heap.size w w3 := belK hB hB3; have hA2n : w2.heap.size ≠ A2 := by omega)
            | (go_at_call 16; (with_reducible refine (h16 _ w3 e3 hR2 hA2n).mono ?_); rintro e w4 ⟨rfl, g, hg, e4, hK⟩; have g4 := (hK.block _ (heap_lt g3) hne').trans g3; have L4 : Below w.heap.size w w4 := hK.below L3 (by omega) L3.size; have d4 := cellrow g4; have f4 := fun j => froz g4 j)
            | fail)
          (try simp only [Exit.inBlock, Exit.then])
          exact bodyPost_ret (retc rfl _ _ w.heap.size _ rfl (set14_heap g4 _ _ _ _ _ _ _ _ _ _ _ _ _ _) rfl) rfl ⟨rfl, set14_below L4 (Nat.le_refl _) _ _ _ _ _ _ _ _ _ _ _ _ _ _⟩
        | some f' =>
          go_wp2_with (first
            | (go_at_call 17; (with_reducible refine (hw17 _).mono ?_); rintro e w3 ⟨A2, rfl, hA2, hR2, hB3⟩; have e3 := keepb hB3 hb; have g3 := keepb hB3 hr; have L3 : Below w.heap.size w w3 := belK hB hB3; have hA2n : w2.heap.size ≠ A2 := by omega)
            | (go_at_call 16; (with_reducible refine (h16 _ w3 e3 hR2 hA2n).mono ?_); rintro e w4 ⟨rfl, g, hg, e4, hK⟩; have g4 := (hK.block _ (heap_lt g3) hne').trans g3; have L4 : Below w.heap.size w w4 := hK.below L3 (by omega) L3.size; have HG := Aside0.mk hg; have HE := Aside0.mk (And.intro e4 (And.intro g4 (HX.out.1.of_heap ((hK.block _ (Nat.lt_of_lt_of_le HX.out.1.lt hB3.size) (by omega)).trans (hB3.block _ HX.out.1.lt))))); clear hg e4 g4)
            | fail)
          go_roundw
          case rel =>
            have hgf := HG.out f' rfl
            subst hgf
            exact ⟨i + 1, g, by simp, by omega, HX.out.2, HE.out.1, HE.out.2.1, HE.out.2.2, L4⟩
          case measure => simp only [intOf]; omega
      · have hin : i = S0.length := by omega
        subst hin
        rw [List.drop_length] at hp
        have hp' : linesF plain S0 = some ⟨on, ca, cb, cc, cd⟩ := hp
        have hq := parseF_some' HL.out (by rw [HS.out]; exact hp')
        have HX := Aside0.mk (And.intro hb hr)
        clear hp hp' hb hr hi hRow
        have hch := check18e ⟨on, ca, cb, cc, cd⟩
        have hR := HR.out
        clear HR
        rw [hq] at hR
        cases hok : okC ⟨on, ca, cb, cc, cd⟩ with
        | true =>
          rw [hok] at hR hch
          rw [if_pos rfl] at hR hch
          subst hR
          go_wp2_with (go_at_call 18; (with_reducible refine (hch _).mono ?_); rintro e w3 ⟨rfl, rfl⟩)
          (try simp only [Exit.inBlock, Exit.then])
          exact bodyPost_ret (retc rfl _ _ w.heap.size _ rfl (heap_al (set14_heap HX.out.2 _ _ _ _ _ _ _ _ _ _ _ _ _ _)) rfl) rfl ⟨rfl, Below.alloc (set14_below hB (Nat.le_refl _) _ _ _ _ _ _ _ _ _ _ _ _ _ _) (by rw [set14_size]; exact hB.size) _⟩
        | false =>
          rw [hok] at hR hch
          rw [if_neg (by decide)] at hR hch
          subst hR
          go_wp2_with (go_at_call 18; (with_reducible refine (hch _).mono ?_); rintro e w3 ⟨rfl, rfl⟩)
          (try simp only [Exit.inBlock, Exit.then])
          exact bodyPost_ret (retc rfl _ _ w.heap.size _ rfl (heap_al (set14_heap HX.out.2 _ _ _ _ _ _ _ _ _ _ _ _ _ _)) rfl) rfl ⟨rfl, Below.alloc (set14_below hB (Nat.le_refl _) _ _ _ _ _ _ _ _ _ _ _ _ _ _) (by rw [set14_size]; exact hB.size) _⟩
end Go.Proofs.YtcbmeklhmajglaaDoor
