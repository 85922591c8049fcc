/- A part of the proof: what the functions of the program compute, shown once each; the last text holds the statement. No condition beyond those of the statement. -/
import Derived.Test.YtcbmeklhmajglaaDoorCfZ
set_option linter.unusedSimpArgs false
set_option linter.unusedVariables false
namespace Go.Proofs.YtcbmeklhmajglaaDoor
open Go.RowKit Go.CfgLaw Go.Proofs.YtcbmeklhmajglaaDoorW.PrintWords Go.Proofs.YtcbmeklhmajglaaDoorW.PrintLast Go.Proofs.YtcbmeklhmajglaaDoorW.PrintMore
set_option linter.unusedVariables false
attribute [local go_sem] setCell_drewN alloc_drewN
attribute [local simp] setCell_drewN alloc_drewN
theorem drop_at (s : ByteArray) (i : Nat) (h : i < s.size) : s.data.toList.drop i = s[i] :: s.data.toList.drop (i + 1) := by
  rw [List.drop_eq_getElem_cons (by simpa using h)]
  rfl
theorem ext_snoc (s : ByteArray) (a i : Nat) (ha : a ≤ i) (h : i < s.size) : ext s (a, i + 1) = ext s (a, i) ++ [s[i]] := by
  rw [ext_grow s a i 1 ha (by omega), drop_at s i h]
  rfl
theorem parseF_long {S : List UInt8} (h : 2000 < S.length) : parseF S = (zeroC, 4) := by unfold parseF; rw [if_pos h]
theorem parseF_word {S : List UInt8} (h : ¬ 2000 < S.length) (e : linesF plain (lns S) = none) : parseF S = (zeroC, 5) := by unfold parseF; rw [if_neg h, e]
theorem parseF_some {S : List UInt8} {f : Cfg} (h : ¬ 2000 < S.length) (e : linesF plain (lns S) = some f) : parseF S = if okC f then (f, 0) else (zeroC, 1) := by unfold parseF; rw [if_neg h, e]
set_option maxRecDepth 100000 in
set_option maxHeartbeats 20000000 in
theorem parse10 (s : ByteArray) (hs : s.size < 1000000) (w : World) : Calls Tryd.prog 10 #[.string s] w fun e w' => e = .returned (.tuple #[cv (parseF s.data.toList).1, .int .i64 (parseF s.data.toList).2]) ∧ Below w.heap.size w w' := by
  have hlen : s.data.toList.length = s.size := by simp
  by_cases hl : 2000 < s.size
  · rw [parseF_long (by omega)]
    go_enter Tryd.func10, Tryd.ntmps10
    go_wp2
    (try simp only [Exit.inBlock, Exit.then])
    refine bodyPost_ret (v := .tuple #[cv zeroC, .int .i64 4]) ?_ rfl ⟨rfl, ?_⟩
    · rw [results_cell_tmp rfl]
      go_simp
      simp [zeroC]
    · (repeat' (first | exact Below.refl _ _ | refine Below.drew ?_ | refine Below.alloc ?_ (by simp <;> omega) _ | refine below_drewN ?_ _))
  · have hl2 : s.size ≤ 2000 := by omega
    have hln : ¬ 2000 < s.data.toList.length := by omega
    obtain ⟨R, hR⟩ : ∃ R, parseF s.data.toList = R := ⟨_, rfl⟩
    rw [hR]
    have HR := Aside0.mk hR
    have HL := Aside0.mk hln
    clear hR hln hlen
    obtain ⟨S0, hS0⟩ : ∃ S0, s.data.toList = S0 := ⟨_, rfl⟩
    go_enter Tryd.func10, Tryd.ntmps10
    go_wp2_with (go_at_call 19; (with_reducible refine (plain19 _).mono ?_); rintro e w2 ⟨rfl, hB2⟩)
    have hR0 : w2.heap[w.heap.size]? = some (.cells #[.bool false, .bool false, .bool false, .bool false, .bool false, .bool false, .bool false, .bool false, .bool false, .bool false, .int .i64 0, .int .i64 0, .int .i64 0, .int .i64 0] 28) := (hB2.block _ (by simp)).trans (heap_alloc_new w _)
    have hs2 : w.heap.size + 1 ≤ w2.heap.size := by have := hB2.size; simpa using this
    have hBw : Below w.heap.size w w2 := ((Below.refl _ w).alloc (Nat.le_refl _) _).trans (hB2.mono (by simp))
    clear hB2
    go_loopw [5, 6] (fun v5 v6 wr => ∃ (a i : Nat) (f : Cfg), v5 = .int .i64 a ∧ v6 = .int .i64 i ∧ i ≤ s.size + 1 ∧ ((a ≤ i ∧ i ≤ s.size ∧ linesF plain (lns s.data.toList) = pend f (ext s (a, i)) (s.data.toList.drop i)) ∨ (i = s.size + 1 ∧ linesF plain (lns s.data.toList) = some f)) ∧ wr.heap[w2.heap.size]? = some (.cells (cells f) 28) ∧ wr.heap[w.heap.size]? = some (.cells #[.bool false, .bool false, .bool false, .bool false, .bool false, .bool false, .bool false, .bool false, .bool false, .bool false, .int .i64 0, .int .i64 0, .int .i64 0, .int .i64 0] 28) ∧ Below w.heap.size w wr) (fun _ v6 _ => s.size + 1 - (intOf v6).toNat)
    case atStart =>
      refine ⟨0, 0, plain, rfl, rfl, by omega, .inl ⟨Nat.le_refl _, Nat.zero_le _, ?_⟩, heap_alloc_new w2 _, ?_, hBw.alloc (by omega) _⟩
      · rw [List.drop_zero, show ext s (0, 0) = [] by simp [ext], pend_start]
      · exact (heap_alloc_old w2 _ (by omega)).trans hR0
    case round =>
      obtain ⟨a, i, f, rfl, rfl, hi, hinv, hb, hr, hB⟩ := hrel
      obtain ⟨on, ca, cb, cc, cd⟩ := f
      simp only [cells] at hb
      have b0 := cellrow hb
      have r0 := cellrow hr
      have fb := fun j => froz hb j
      have fr := fun j => froz hr j
      have hne : w2.heap.size ≠ w.heap.size := by omega
      have hne' : w.heap.size ≠ w2.heap.size := by omega
      have hlb : w2.heap.size < wr.heap.size := heap_lt hb
      have hlr : w.heap.size < wr.heap.size := heap_lt hr
      have n1 : w2.heap.size ≠ wr.heap.size := by omega
      have n2 : w.heap.size ≠ wr.heap.size := by omega
      have n1' : wr.heap.size ≠ w2.heap.size := by omega
      have n2' : wr.heap.size ≠ w.heap.size := by omega
      rcases hinv with ⟨ha, hi2, hp⟩ | ⟨rfl, hp⟩
      · have hiz : (i : Int) ≤ s.size := by omega
        have h0z : (0 : Int) ≤ i := by omega
        have h0a : (0 : Int) ≤ a := by omega
        have haz : (a : Int) ≤ i := by omega
        by_cases hc : ∃ h : i < s.size, s[i] ≠ 10
        · obtain ⟨hlt, hc⟩ := hc
          have hltz : (i : Int) < s.size := by omega
          have hcz : ((s[i].toNat : Int) != 10) = true := by
            rw [bne_iff_ne]
            intro h
            exact hc (UInt8.toNat_inj.1 (by have : (10 : UInt8).toNat = 10 := rfl; omega))
          have HP := Aside0.mk hp
          clear hp
          go_wp2
          go_roundw
          case rel =>
            refine ⟨a, i + 1, ⟨on, ca, cb, cc, cd⟩, rfl, by simp, by omega, .inl ⟨by omega, by omega, ?_⟩, hb, hr, hB⟩
            rw [HP.out, drop_at s i hlt, pend_byte _ _ _ _ hc, ext_snoc s a i ha hlt]
          case measure => simp only [intOf]; omega
        · have hline : (lineF ⟨on, ca, cb, cc, cd⟩ (wds (ext s (a, i))) = none → linesF plain (lns s.data.toList) = none) ∧ (∀ f', lineF ⟨on, ca, cb, cc, cd⟩ (wds (ext s (a, i))) = some f' → (i + 1 ≤ s.size ∧ linesF plain (lns s.data.toList) = pend f' (ext s (i + 1, i + 1)) (s.data.toList.drop (i + 1))) ∨ (i + 1 = s.size + 1 ∧ linesF plain (lns s.data.toList) = some f')) := by
            by_cases hlt : i < s.size
            · have h10 : s[i] = 10 := Classical.byContradiction (fun h => hc ⟨hlt, h⟩)
              rw [hp, drop_at s i hlt, h10, pend_line]
              constructor
              · intro h; rw [h]
              · intro f' h
                left
                rw [h]
                refine ⟨by omega, ?_⟩
                have : ext s (i + 1, i + 1) = [] := by rw [ext_eq]; simp
                rw [this]
            · obtain rfl : i = s.size := by omega
              rw [hp, List.drop_of_length_le (by simp), pend_end]
              exact ⟨id, fun f' h => .inr ⟨rfl, h⟩⟩
          have hcz : (if h : i < s.size then ((s[i].toNat : Int) != 10) else false) = false := by
            split
            · rename_i hlt
              have h10 : s[i] = 10 := Classical.byContradiction (fun h => hc ⟨hlt, h⟩)
              rw [h10]; rfl
            · rfl
          have hw21 := words21e s hs a i
          have hl20 := line20e ⟨on, ca, cb, cc, cd⟩ (wds (ext s (a, i))) (by have := wds_len (ext s (a, i)); have := ext_len s a i; omega)
          generalize wds (ext s (a, i)) = L at hw21 hl20 hline
          simp only [List.length_map] at hw21 hl20
          have HLn := Aside0.mk hline
          have HX := Aside0.mk (And.intro hb hr)
          clear hline hp hc
          generalize lineF ⟨on, ca, cb, cc, cd⟩ L = r at hl20 HLn
          by_cases hlt : i < s.size
          · have hltz : (i : Int) < s.size := by omega
            rw [dif_pos hlt] at hcz
            go_wp2
            show Code.wp Tryd.prog r9 _ _ _
            refine reg9 s a i w2.heap.size w.heap.size wr w (Nat.le_refl _) (by omega) (by omega) (by omega) (by omega) on ca cb cc cd HX.out.1 HX.out.2 hB L hw21 r hl20 _ _ _ _ _ _ _ _ _ _ _ _ _ _ _ _ _ _ _ _ _ _ _ _ _ _ _ _ _ _ _ _ _ _ _ _ _ _ _ _ _ _ _ _ _ _ _ _ _ _ _ ?_
            intro q A cp gg W5 hgg y5 e5 g5 L5 nq1 nq2
            have fe5 := fun j => froz e5 j
            have fg5 := fun j => froz g5 j
            have d5 := cellrow e5
            have h5 := cellrow g5
            have k5 := cellrow y5
            have HLo := HLn.out
            have HRo := HR.out
            have HX6 := Aside0.mk (And.intro (set14_heap g5 (W := W5)) (And.intro (set14_heap e5 (W := W5)) (And.intro g5 L5)))
            clear HLn HR hw21 hl20 b0 r0 fb fr y5 e5 g5
            cases r with
            | none =>
              have hq := parseF_word HL.out (HLo.1 rfl)
              rw [hq] at HRo
              subst HRo
              clear HLo hgg hq
              go_wp2
              (try simp only [Exit.inBlock, Exit.then])
              exact bodyPost_ret (retc rfl _ _ w.heap.size _ rfl (HX6.out.1 _ _ _ _ _ _ _ _ _ _ _ _ _ _) rfl) rfl ⟨rfl, set14_below HX6.out.2.2.2 (Nat.le_refl _) _ _ _ _ _ _ _ _ _ _ _ _ _ _⟩
            | some f' =>
              obtain rfl := hgg f' rfl
              have HR := Aside0.mk HRo
              have hinv2 : ((i + 1 ≤ i + 1 ∧ i + 1 ≤ s.size ∧ linesF plain (lns s.data.toList) = pend gg (ext s (i + 1, i + 1)) (s.data.toList.drop (i + 1))) ∨ (i + 1 = s.size + 1 ∧ linesF plain (lns s.data.toList) = some gg)) := by
                rcases HLo.2 gg rfl with h | h
                · exact .inl ⟨Nat.le_refl _, h⟩
                · exact .inr h
              have HI := Aside0.mk hinv2
              clear hinv2 HLo hgg HRo
              go_wp2
              go_roundw
              case rel => exact ⟨i + 1, i + 1, gg, by simp, by simp, by omega, HI.out, HX6.out.2.1 _ _ _ _ _ _ _ _ _ _ _ _ _ _, (set14_ne hne _ _ _ _ _ _ _ _ _ _ _ _ _ _).trans HX6.out.2.2.1, set14_below HX6.out.2.2.2 (by omega) _ _ _ _ _ _ _ _ _ _ _ _ _ _⟩
              case measure => simp only [intOf]; omega
          · have hltz : ¬ (i : Int) < s.size := by omega
            clear hcz
            go_wp2
            show Code.wp Tryd.prog r9 _ _ _
            refine reg9 s a i w2.heap.size w.heap.size wr w (Nat.le_refl _) (by omega) (by omega) (by omega) (by omega) on ca cb cc cd HX.out.1 HX.out.2 hB L hw21 r hl20 _ _ _ _ _ _ _ _ _ _ _ _ _ _ _ _ _ _ _ _ _ _ _ _ _ _ _ _ _ _ _ _ _ _ _ _ _ _ _ _ _ _ _ _ _ _ _ _ _ _ _ ?_
            intro q A cp gg W5 hgg y5 e5 g5 L5 nq1 nq2
            have fe5 := fun j => froz e5 j
            have fg5 := fun j => froz g5 j
            have d5 := cellrow e5
            have h5 := cellrow g5
            have k5 := cellrow y5
            have HLo := HLn.out
            have HRo := HR.out
            have HX6 := Aside0.mk (And.intro (set14_heap g5 (W := W5)) (And.intro (set14_heap e5 (W := W5)) (And.intro g5 L5)))
            clear HLn HR hw21 hl20 b0 r0 fb fr y5 e5 g5
            cases r with
            | none =>
              have hq := parseF_word HL.out (HLo.1 rfl)
              rw [hq] at HRo
              subst HRo
              clear HLo hgg hq
              go_wp2
              (try simp only [Exit.inBlock, Exit.then])
              exact bodyPost_ret (retc rfl _ _ w.heap.size _ rfl (HX6.out.1 _ _ _ _ _ _ _ _ _ _ _ _ _ _) rfl) rfl ⟨rfl, set14_below HX6.out.2.2.2 (Nat.le_refl _) _ _ _ _ _ _ _ _ _ _ _ _ _ _⟩
            | some f' =>
              obtain rfl := hgg f' rfl
              have HR := Aside0.mk HRo
              have hinv2 : ((i + 1 ≤ i + 1 ∧ i + 1 ≤ s.size ∧ linesF plain (lns s.data.toList) = pend gg (ext s (i + 1, i + 1)) (s.data.toList.drop (i + 1))) ∨ (i + 1 = s.size + 1 ∧ linesF plain (lns s.data.toList) = some gg)) := by
                rcases HLo.2 gg rfl with h | h
                · exact .inl ⟨Nat.le_refl _, h⟩
                · exact .inr h
              have HI := Aside0.mk hinv2
              clear hinv2 HLo hgg HRo
              go_wp2
              go_roundw
              case rel => exact ⟨i + 1, i + 1, gg, by simp, by simp, by omega, HI.out, HX6.out.2.1 _ _ _ _ _ _ _ _ _ _ _ _ _ _, (set14_ne hne _ _ _ _ _ _ _ _ _ _ _ _ _ _).trans HX6.out.2.2.1, set14_below HX6.out.2.2.2 (by omega) _ _ _ _ _ _ _ _ _ _ _ _ _ _⟩
              case measure => simp only [intOf]; omega
      · have hiz : ¬ ((s.size + 1 : Nat) : Int) ≤ s.size := by omega
        have hq := parseF_some HL.out hp
        have HX := Aside0.mk (And.intro hb hr)
        clear hp hb hr hi
        have hch := check22e ⟨on, ca, cb, cc, cd⟩
        have hR := HR.out
        clear HR
        rw [hq] at hR
        cases hok : okC ⟨on, ca, cb, cc, cd⟩ with
        | true =>
          rw [hok] at hR hch
          rw [if_pos rfl] at hR hch
          subst hR
          go_wp2_with (go_at_call 22; (with_reducible refine (hch _).mono ?_); rintro e w3 ⟨rfl, rfl⟩)
          (try simp only [Exit.inBlock, Exit.then])
          refine bodyPost_ret (retc rfl _ _ w.heap.size _ rfl (heap_al (set14_heap HX.out.2 _ _ _ _ _ _ _ _ _ _ _ _ _ _)) rfl) rfl ⟨rfl, Below.alloc (set14_below hB (Nat.le_refl _) _ _ _ _ _ _ _ _ _ _ _ _ _ _) (by rw [set14_size]; exact hB.size) _⟩
        | false =>
          rw [hok] at hR hch
          rw [if_neg (by decide)] at hR hch
          subst hR
          go_wp2_with (go_at_call 22; (with_reducible refine (hch _).mono ?_); rintro e w3 ⟨rfl, rfl⟩)
          (try simp only [Exit.inBlock, Exit.then])
          refine bodyPost_ret (retc rfl _ _ w.heap.size _ rfl (heap_al (set14_heap HX.out.2 _ _ _ _ _ _ _ _ _ _ _ _ _ _)) rfl) rfl ⟨rfl, Below.alloc (set14_below hB (Nat.le_refl _) _ _ _ _ _ _ _ _ _ _ _ _ _ _) (by rw [set14_size]; exact hB.size) _⟩
end Go.Proofs.YtcbmeklhmajglaaDoor
