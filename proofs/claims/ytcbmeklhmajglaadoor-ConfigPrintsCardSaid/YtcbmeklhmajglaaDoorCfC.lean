/- A part of the proof: what the functions of the program compute, shown once each; the last text holds the statement. No condition beyond those of the statement. -/
import Derived.Test.YtcbmeklhmajglaaDoorCfA
import Derived.MapKept
import Derived.Carry
import Derived.Test.YtcbmeklhmajglaaDoorSh
import Derived.Lib.ConvBytes
import Derived.Lib.SmallJoins
import Derived.Lib.OthersKept
import Derived.Test.YtcbmeklhmajglaaDoorCfB
set_option linter.unusedSimpArgs false
set_option linter.unusedVariables false
section
namespace Go.Proofs.YtcbmeklhmajglaaDoor
open Go.RowKit Go.CfgLaw Go.Proofs.YtcbmeklhmajglaaDoorW.PrintWords Go.Proofs.YtcbmeklhmajglaaDoorW.PrintLast Go.Proofs.YtcbmeklhmajglaaDoorW.PrintMore
set_option linter.unusedVariables false
theorem names23 (w : World) : Calls Tryd.prog 23 #[] w fun e w' => e = .returned (.slice (some ⟨w.heap.size, 0, none⟩) 10 10) ∧ w' = w.alloc namesO := by
  go_enter Tryd.func23, Tryd.ntmps23
  go_wp2
  go_ret
  exact ⟨rfl, rfl⟩
/-! ### The map of the rules -/
def ruleE (j : Nat) : MapEntry := { key := .string (ofL (NM.getD (j + 1) [])), val := .int .i64 (j + 1 : Nat), born := j }
def rulesE (n : Nat) : Array MapEntry := ((List.range n).map ruleE).toArray
theorem beq_ofL (x : ByteArray) (l : List UInt8) : (x == ofL l) = decide (x.data.toList = l) := by
  rw [Bool.eq_iff_iff, decide_eq_true_eq, MapKept.bytes_beq]
  constructor
  · rintro rfl; rfl
  · intro h
    apply ByteArray.ext
    apply Array.ext'
    exact h
theorem find_rules (x : ByteArray) (n : Nat) (hn : n ≤ 9) : Instr.findNow .string (.string x) (rulesE n).toList 0 =
    if 0 < fi x.data.toList (NM.take (n + 1)) 0 then some (some ((fi x.data.toList (NM.take (n + 1)) 0).toNat - 1, .int .i64 (fi x.data.toList (NM.take (n + 1)) 0))) else some none := by
  have h : ∀ (m i : Nat) (hx : x.data.toList ≠ []), i + m = n →
      Instr.findNow .string (.string x) ((List.range' i m).map ruleE) i = if 0 < fi x.data.toList ((NM.drop (i + 1)).take m) (i + 1) then some (some ((fi x.data.toList ((NM.drop (i + 1)).take m) (i + 1)).toNat - 1, .int .i64 (fi x.data.toList ((NM.drop (i + 1)).take m) (i + 1)))) else some none := by
    intro m
    induction m with
    | zero =>
      intro i hx hi
      simp [Instr.findNow, fi]
    | succ m ih =>
      intro i hx hi
      have hl : i + 1 < NM.length := by show i + 1 < 10; omega
      rw [List.drop_eq_getElem_cons hl, List.take_succ_cons, List.range'_succ, List.map_cons]
      unfold Instr.findNow fi
      have hk : (ruleE i).key = .string (ofL NM[i + 1]) := by
        unfold ruleE
        simp [List.getD_eq_getElem?_getD, List.getElem?_eq_getElem hl]
      rw [hk]
      show (match some (x == ofL NM[i + 1]) with | some true => _ | some false => _ | none => _) = _
      rw [beq_ofL]
      by_cases he : x.data.toList = NM[i + 1]
      · rw [decide_eq_true he, if_pos he.symm, if_pos (by omega)]
        show some (some (i, (ruleE i).val)) = _
        have : (((i + 1 : Nat) : Int)).toNat - 1 = i := by omega
        rw [this]
        rfl
      · have en : ¬ NM[i + 1] = x.data.toList := fun e => he e.symm
        rw [decide_eq_false he]
        simp only [if_neg en]
        exact ih (i + 1) hx (by omega)
  by_cases hx : x.data.toList = []
  · rw [hx]
    have h0 : ∀ m, fi [] (NM.take (m + 1)) 0 = 0 := fun m => rfl
    rw [h0, if_neg (by decide)]
    have g : ∀ (l : List Nat) (i : Nat), (∀ j ∈ l, j < 9) → Instr.findNow .string (.string x) (l.map ruleE) i = some none := by
      intro l
      induction l with
      | nil => intro i _; rfl
      | cons j l ih =>
        intro i hj
        rw [List.map_cons]
        unfold Instr.findNow
        show (match some (x == ofL (NM.getD (j + 1) [])) with | some true => _ | some false => _ | none => _) = _
        rw [beq_ofL, hx]
        have hj9 := hj j (by simp)
        have hd : decide ([] = NM.getD (j + 1) []) = false := by
          have : ∀ j : Fin 9, decide ([] = NM.getD (j.1 + 1) []) = false := by decide
          exact this ⟨j, hj9⟩
        rw [hd]
        exact ih (i + 1) (fun k hk => hj k (by simp [hk]))
    exact g _ 0 (fun j hj => by have := List.mem_range.1 hj; omega)
  · have h1 := h n 0 hx (by omega)
    have e : fi x.data.toList (NM.take (n + 1)) 0 = fi x.data.toList ((NM.drop 1).take n) 1 := by
      show (if [] = x.data.toList then _ else _) = _
      rw [if_neg (fun e => hx e.symm)]
      rfl
    rw [e]
    show Instr.findNow _ _ ((List.range n).map ruleE) 0 = _
    rw [List.range_eq_range']
    exact h1
theorem lookup58 {W : World} {mb c : Nat} (h : W.heap[mb]? = some (.map (rulesE 9) c)) (x : ByteArray) (k : Int) (hk : fi x.data.toList NM 0 = k) :
    (Instr.lookup 58 (.map (some mb)) (.string x) true).run Tryd.prog W = .ok (.tuple #[.int .i64 (if 0 < k then k else 0), .bool (decide (0 < k))]) W := by
  unfold Instr.lookup
  have hf := find_rules x 9 (by decide)
  have ht : NM.take (9 + 1) = NM := rfl
  rw [ht, hk] at hf
  simp only [Sem.run_bind, run_underlying Tryd.underlying58, Result.andThen_ok, MapKept.run_getObj_map h, Sem.run_pure, MapKept.run_checkKey Tryd.underlying9 (show MapKept.IsKey .string (.string x) from trivial)]
  by_cases h0 : 0 < k
  · rw [if_pos h0] at hf
    rw [MapKept.run_findKey Tryd.underlying9 hf, decide_eq_true h0, if_pos h0]
    simp
  · rw [if_neg h0] at hf
    rw [MapKept.run_findKey Tryd.underlying9 hf, decide_eq_false h0, if_neg h0]
    have hz : ∀ w, (zeroValue 3).run Tryd.prog w = .ok (.int .i64 0) w := fun w => by kernel_rfl
    simp [hz]
theorem update58 {W : World} {mb : Nat} (n : Nat) (hn : n < 9) (h : W.heap[mb]? = some (.map (rulesE n) n)) :
    (Instr.mapUpdate 58 (.map (some mb)) (.string (ofL (NM.getD (n + 1) []))) (.int .i64 (n + 1 : Nat))).run Tryd.prog W = .ok () { W with heap := W.heap.setIfInBounds mb (.map (rulesE (n + 1)) (n + 1)) } := by
  have hf := find_rules (ofL (NM.getD (n + 1) [])) n (by omega)
  have hq : ∀ j : Fin 9, ¬ 0 < fi (NM.getD (j.1 + 1) []) (NM.take (j.1 + 1)) 0 := by decide
  rw [show (ofL (NM.getD (n + 1) [])).data.toList = NM.getD (n + 1) [] from by simp [ofL], if_neg (hq ⟨n, hn⟩)] at hf
  have hp : rulesE (n + 1) = (rulesE n).push { key := .string (ofL (NM.getD (n + 1) [])), val := .int .i64 (n + 1 : Nat), born := n } := by
    unfold rulesE
    rw [List.range_succ, List.map_append]
    simp [ruleE]
  rw [hp]
  unfold Instr.mapUpdate
  simp only [Sem.run_bind, run_underlying Tryd.underlying58, Result.andThen_ok, MapKept.run_getObj_map h, MapKept.run_checkKey Tryd.underlying9 (show MapKept.IsKey .string (.string _) from trivial), MapKept.run_findKey Tryd.underlying9 hf]
  exact MapKept.run_setObj_map _ h
end Go.Proofs.YtcbmeklhmajglaaDoor
end
section
namespace Go.Proofs.YtcbmeklhmajglaaDoor
open Go.RowKit Go.CfgLaw Go.Proofs.YtcbmeklhmajglaaDoorW.PrintWords Go.Proofs.YtcbmeklhmajglaaDoorW.PrintLast Go.Proofs.YtcbmeklhmajglaaDoorW.PrintMore
set_option linter.unusedVariables false
attribute [local go_sem] setCell_drewN alloc_drewN
attribute [local simp] setCell_drewN alloc_drewN
theorem update58e {W : World} {mb : Nat} (n : Nat) (hn : n < 9) (h : W.heap[mb]? = some (.map (rulesE n) n)) :
    ∃ W2, (Instr.mapUpdate 58 (.map (some mb)) (.string (ofL (NM.getD (n + 1) []))) (.int .i64 (n + 1 : Nat))).run Tryd.prog W = .ok () W2 ∧ W2.heap[mb]? = some (.map (rulesE (n + 1)) (n + 1)) ∧ (∀ b, b ≠ mb → W2.heap[b]? = W.heap[b]?) ∧ Below mb W W2 := by
  have hlt : mb < W.heap.size := (Array.getElem?_eq_some_iff.1 h).1
  refine ⟨_, update58 n hn h, by simp [hlt], fun b hb => by simp [Ne.symm hb], ⟨rfl, rfl, rfl, by simp, fun k hk => ?_⟩⟩
  have : mb ≠ k := by omega
  simp [this]
set_option maxRecDepth 100000 in
set_option maxHeartbeats 4000000 in
theorem rules31 (w : World) : Calls Tryd.prog 31 #[] w fun e w' => ∃ mb, e = .returned (.map (some mb)) ∧ w'.heap[mb]? = some (.map (rulesE 9) 9) ∧ w.heap.size ≤ mb ∧ Below w.heap.size w w' := by
  have hmm := @run_makeMap Tryd.prog
  go_enter Tryd.func31, Tryd.ntmps31
  go_wp2_with (go_at_call 23; (with_reducible refine (names23 _).mono ?_); rintro e w2 ⟨rfl, rfl⟩)
  go_loopw [7] (fun v7 wr => ∃ i : Nat, v7 = .int .i64 i ∧ i ≤ 10 ∧ wr.heap[w.heap.size]? = some (.map (rulesE (i - 1)) (i - 1)) ∧ wr.heap[w.heap.size + 1]? = some namesO ∧ Below w.heap.size w wr) (fun v7 _ => 10 - (intOf v7).toNat)
  case atStart =>
    refine ⟨0, rfl, by omega, ?_, ?_, ((Below.refl _ w).alloc (Nat.le_refl _) _).alloc (by simp) _⟩
    · exact (heap_alloc_old (w.alloc (.map #[] 0)) namesO (by simp)).trans (heap_alloc_new w _)
    · have h := heap_alloc_new (w.alloc (.map #[] 0)) namesO
      have e : (w.alloc (.map #[] 0)).heap.size = w.heap.size + 1 := by simp
      rw [e] at h
      exact h
  case round =>
    obtain ⟨i, rfl, hi, hm, hn, hB⟩ := hrel
    have hc := fun j => cell_of_row _ _ j _ _ _ hn
    have HN := Aside0.mk hn
    clear hn
    rcases (show i = 0 ∨ i = 1 ∨ i = 2 ∨ i = 3 ∨ i = 4 ∨ i = 5 ∨ i = 6 ∨ i = 7 ∨ i = 8 ∨ i = 9 ∨ i = 10 by omega) with rfl | rfl | rfl | rfl | rfl | rfl | rfl | rfl | rfl | rfl | rfl
    · go_wp2
      go_roundw
      case rel => exact ⟨1, rfl, by omega, hm, HN.out, hB⟩
      case measure => simp [intOf]
    · obtain ⟨W2, hu, hm2, hs, hB2⟩ := update58e 0 (by decide) hm
      replace hu : (Instr.mapUpdate 58 (.map (some w.heap.size)) (.string ⟨#[116, 114, 97, 105, 108]⟩) (.int .i64 1)).run Tryd.prog wr = .ok () W2 := hu
      have hn2 := (hs (w.heap.size + 1) (by omega)).trans HN.out
      have hB3 := hB.trans hB2
      clear hm hs hB2
      go_wp2
      go_roundw
      case rel => exact ⟨2, rfl, by omega, hm2, hn2, hB3⟩
      case measure => simp [intOf]
    · obtain ⟨W2, hu, hm2, hs, hB2⟩ := update58e 1 (by decide) hm
      replace hu : (Instr.mapUpdate 58 (.map (some w.heap.size)) (.string ⟨#[108, 111, 110, 103]⟩) (.int .i64 2)).run Tryd.prog wr = .ok () W2 := hu
      have hn2 := (hs (w.heap.size + 1) (by omega)).trans HN.out
      have hB3 := hB.trans hB2
      clear hm hs hB2
      go_wp2
      go_roundw
      case rel => exact ⟨3, rfl, by omega, hm2, hn2, hB3⟩
      case measure => simp [intOf]
    · obtain ⟨W2, hu, hm2, hs, hB2⟩ := update58e 2 (by decide) hm
      replace hu : (Instr.mapUpdate 58 (.map (some w.heap.size)) (.string ⟨#[115, 116, 101, 112]⟩) (.int .i64 3)).run Tryd.prog wr = .ok () W2 := hu
      have hn2 := (hs (w.heap.size + 1) (by omega)).trans HN.out
      have hB3 := hB.trans hB2
      clear hm hs hB2
      go_wp2
      go_roundw
      case rel => exact ⟨4, rfl, by omega, hm2, hn2, hB3⟩
      case measure => simp [intOf]
    · obtain ⟨W2, hu, hm2, hs, hB2⟩ := update58e 3 (by decide) hm
      replace hu : (Instr.mapUpdate 58 (.map (some w.heap.size)) (.string ⟨#[101, 109, 112, 116, 121]⟩) (.int .i64 4)).run Tryd.prog wr = .ok () W2 := hu
      have hn2 := (hs (w.heap.size + 1) (by omega)).trans HN.out
      have hB3 := hB.trans hB2
      clear hm hs hB2
      go_wp2
      go_roundw
      case rel => exact ⟨5, rfl, by omega, hm2, hn2, hB3⟩
      case measure => simp [intOf]
    · obtain ⟨W2, hu, hm2, hs, hB2⟩ := update58e 4 (by decide) hm
      replace hu : (Instr.mapUpdate 58 (.map (some w.heap.size)) (.string ⟨#[109, 97, 114, 107]⟩) (.int .i64 5)).run Tryd.prog wr = .ok () W2 := hu
      have hn2 := (hs (w.heap.size + 1) (by omega)).trans HN.out
      have hB3 := hB.trans hB2
      clear hm hs hB2
      go_wp2
      go_roundw
      case rel => exact ⟨6, rfl, by omega, hm2, hn2, hB3⟩
      case measure => simp [intOf]
    · obtain ⟨W2, hu, hm2, hs, hB2⟩ := update58e 5 (by decide) hm
      replace hu : (Instr.mapUpdate 58 (.map (some w.heap.size)) (.string ⟨#[104, 97, 115, 104]⟩) (.int .i64 6)).run Tryd.prog wr = .ok () W2 := hu
      have hn2 := (hs (w.heap.size + 1) (by omega)).trans HN.out
      have hB3 := hB.trans hB2
      clear hm hs hB2
      go_wp2
      go_roundw
      case rel => exact ⟨7, rfl, by omega, hm2, hn2, hB3⟩
      case measure => simp [intOf]
    · obtain ⟨W2, hu, hm2, hs, hB2⟩ := update58e 6 (by decide) hm
      replace hu : (Instr.mapUpdate 58 (.map (some w.heap.size)) (.string ⟨#[99, 111, 109, 109, 97]⟩) (.int .i64 7)).run Tryd.prog wr = .ok () W2 := hu
      have hn2 := (hs (w.heap.size + 1) (by omega)).trans HN.out
      have hB3 := hB.trans hB2
      clear hm hs hB2
      go_wp2
      go_roundw
      case rel => exact ⟨8, rfl, by omega, hm2, hn2, hB3⟩
      case measure => simp [intOf]
    · obtain ⟨W2, hu, hm2, hs, hB2⟩ := update58e 7 (by decide) hm
      replace hu : (Instr.mapUpdate 58 (.map (some w.heap.size)) (.string ⟨#[116, 119, 105, 99, 101]⟩) (.int .i64 8)).run Tryd.prog wr = .ok () W2 := hu
      have hn2 := (hs (w.heap.size + 1) (by omega)).trans HN.out
      have hB3 := hB.trans hB2
      clear hm hs hB2
      go_wp2
      go_roundw
      case rel => exact ⟨9, rfl, by omega, hm2, hn2, hB3⟩
      case measure => simp [intOf]
    · obtain ⟨W2, hu, hm2, hs, hB2⟩ := update58e 8 (by decide) hm
      replace hu : (Instr.mapUpdate 58 (.map (some w.heap.size)) (.string ⟨#[101, 110, 100]⟩) (.int .i64 9)).run Tryd.prog wr = .ok () W2 := hu
      have hn2 := (hs (w.heap.size + 1) (by omega)).trans HN.out
      have hB3 := hB.trans hB2
      clear hm hs hB2
      go_wp2
      go_roundw
      case rel => exact ⟨10, rfl, by omega, hm2, hn2, hB3⟩
      case measure => simp [intOf]
    · go_wp2
      go_ret
      exact ⟨_, rfl, hm, Nat.le_refl _, hB⟩
end Go.Proofs.YtcbmeklhmajglaaDoor
end
section
namespace Go.Proofs.YtcbmeklhmajglaaDoor
open Go.RowKit Go.CfgLaw Go.Proofs.YtcbmeklhmajglaaDoorW.PrintWords Go.Proofs.YtcbmeklhmajglaaDoorW.PrintLast Go.Proofs.YtcbmeklhmajglaaDoorW.PrintMore
set_option linter.unusedVariables false
attribute [local go_sem] setCell_drewN alloc_drewN
attribute [local simp] setCell_drewN alloc_drewN
theorem beq_dec (y : ByteArray) (l : List UInt8) : (y.toList == l) = decide (y.data.toList = l) := by
  rw [ByteArray.toList_eq]
  by_cases h : y.data.toList = l
  · rw [decide_eq_true h]; exact beq_iff_eq.2 h
  · rw [decide_eq_false h]; exact beq_eq_false_iff_ne.2 h
theorem ofL_of {x : ByteArray} {l : List UInt8} (h : x.data.toList = l) : x = ofL l := by
  subst h
  rfl
def placeV (q : Nat) (k : Int) : Option Addr := if k = 0 then some ⟨q, 10, none⟩ else if k = 1 then some ⟨q, 11, none⟩ else if k = 2 then some ⟨q, 12, none⟩ else if k = 3 then some ⟨q, 13, none⟩ else none
set_option maxHeartbeats 2000000 in
theorem place26 (q : Nat) (x : ByteArray) (k : Int) (hk : fi x.data.toList NU 0 = k) (w : World) : Calls Tryd.prog 26 #[.pointer (some ⟨q, 0, none⟩), .string x] w fun e w' => e = .returned (.pointer (placeV q k)) ∧ w' = w := by
  by_cases h0 : x.data.toList = [119, 105, 100, 116, 104]
  · have hx := ofL_of h0
    rw [h0] at hk
    obtain rfl : (0 : Int) = k := hk
    replace hx : x = ⟨#[119, 105, 100, 116, 104]⟩ := hx
    subst hx
    clear h0
    go_enter Tryd.func26, Tryd.ntmps26
    go_wp2
    go_ret
    exact ⟨rfl, rfl⟩
  have g0 : (x.toList == [119, 105, 100, 116, 104]) = false := by rw [beq_dec]; exact decide_eq_false h0
  by_cases h1 : x.data.toList = [105, 110, 100, 101, 110, 116]
  · have hx := ofL_of h1
    rw [h1] at hk
    obtain rfl : (1 : Int) = k := hk
    replace hx : x = ⟨#[105, 110, 100, 101, 110, 116]⟩ := hx
    subst hx
    clear h1 h0 g0
    go_enter Tryd.func26, Tryd.ntmps26
    go_wp2
    go_ret
    exact ⟨rfl, rfl⟩
  have g1 : (x.toList == [105, 110, 100, 101, 110, 116]) = false := by rw [beq_dec]; exact decide_eq_false h1
  by_cases h2 : x.data.toList = [108, 105, 110, 101, 115]
  · have hx := ofL_of h2
    rw [h2] at hk
    obtain rfl : (2 : Int) = k := hk
    replace hx : x = ⟨#[108, 105, 110, 101, 115]⟩ := hx
    subst hx
    clear h2 h0 g0 h1 g1
    go_enter Tryd.func26, Tryd.ntmps26
    go_wp2
    go_ret
    exact ⟨rfl, rfl⟩
  have g2 : (x.toList == [108, 105, 110, 101, 115]) = false := by rw [beq_dec]; exact decide_eq_false h2
  by_cases h3 : x.data.toList = [100, 101, 112, 116, 104]
  · have hx := ofL_of h3
    rw [h3] at hk
    obtain rfl : (3 : Int) = k := hk
    replace hx : x = ⟨#[100, 101, 112, 116, 104]⟩ := hx
    subst hx
    clear h3 h0 g0 h1 g1 h2 g2
    go_enter Tryd.func26, Tryd.ntmps26
    go_wp2
    go_ret
    exact ⟨rfl, rfl⟩
  have g3 : (x.toList == [100, 101, 112, 116, 104]) = false := by rw [beq_dec]; exact decide_eq_false h3
  have hn : k = -1 := by
    rw [← hk]
    simp only [fi, NU]
    rw [if_neg (fun e => h0 e.symm), if_neg (fun e => h1 e.symm), if_neg (fun e => h2 e.symm), if_neg (fun e => h3 e.symm)]
  subst hn
  clear hk h0 h1 h2 h3
  go_enter Tryd.func26, Tryd.ntmps26
  go_wp2
  go_ret
  exact ⟨rfl, rfl⟩
end Go.Proofs.YtcbmeklhmajglaaDoor
end
section
namespace Go.Proofs.YtcbmeklhmajglaaDoor
open Go.RowKit Go.CfgLaw Go.Proofs.YtcbmeklhmajglaaDoorW.PrintWords Go.Proofs.YtcbmeklhmajglaaDoorW.PrintLast Go.Proofs.YtcbmeklhmajglaaDoorW.PrintMore
set_option linter.unusedVariables false
attribute [local go_sem] setCell_drewN alloc_drewN
attribute [local simp] setCell_drewN alloc_drewN
theorem decFrom_dig : ∀ (l : List UInt8) (acc : Nat), l.all dig = true → Lib.decFrom acc l = some (decOf acc l)
  | [], acc, _ => rfl
  | b :: r, acc, h => by
    simp only [List.all_cons, Bool.and_eq_true] at h
    have hb := h.1
    unfold dig at hb
    simp only [Bool.and_eq_true, decide_eq_true_eq] at hb
    unfold Lib.decFrom Lib.digitVal
    rw [if_pos hb]
    show Lib.decFrom (acc * 10 + (b.toNat - 48)) r = _
    rw [decFrom_dig r _ h.2, Nat.mul_comm]
    rfl
theorem atoi_dig (l : List UInt8) (h0 : l ≠ []) (h : l.all dig = true) : Lib.atoi l = some ((decOf 0 l : Nat) : Int) := by
  cases l with
  | nil => exact absurd rfl h0
  | cons b r =>
    have hb : dig b = true := by simp only [List.all_cons, Bool.and_eq_true] at h; exact h.1
    unfold dig at hb
    simp only [Bool.and_eq_true, decide_eq_true_eq] at hb
    have n45 : (b == 45) = false := by
      rw [beq_eq_false_iff_ne]; rintro rfl; exact absurd hb.1 (by decide)
    have n43 : (b == 43) = false := by
      rw [beq_eq_false_iff_ne]; rintro rfl; exact absurd hb.1 (by decide)
    unfold Lib.atoi
    simp only [n45, n43]
    unfold Lib.decNat
    simp only [Bool.false_eq_true, if_false, List.isEmpty_cons]
    rw [decFrom_dig _ 0 h]
    rfl
theorem sgn_at (x : ByteArray) (pos : Nat) (h : pos < x.size) : (((Utf8.decode x pos).1 < 48 ∨ 57 < (Utf8.decode x pos).1) ∧ dig (x.get! pos) = false) ∨ (48 ≤ (Utf8.decode x pos).1 ∧ (Utf8.decode x pos).1 ≤ 57 ∧ (Utf8.decode x pos).2 = 1 ∧ dig (x.get! pos) = true) := by
  obtain ⟨h1, h2⟩ := sign_first x pos h
  unfold dig
  by_cases h3 : (x.get! pos).toNat < 128
  · rw [h1 h3]
    dsimp only
    by_cases h4 : 48 ≤ (x.get! pos).toNat ∧ (x.get! pos).toNat ≤ 57
    · exact .inr ⟨h4.1, h4.2, rfl, by simp [h4]⟩
    · refine .inl ⟨by omega, ?_⟩
      rw [Bool.eq_false_iff]
      intro h5
      simp only [Bool.and_eq_true, decide_eq_true_eq] at h5
      exact h4 h5
  · have := (h2 (by omega)).1
    refine .inl ⟨by omega, ?_⟩
    rw [Bool.eq_false_iff]
    intro h5
    simp only [Bool.and_eq_true, decide_eq_true_eq] at h5
    omega
theorem take_byte (x : ByteArray) (i : Nat) (h : i < x.size) : x.data.toList.take (i + 1) = x.data.toList.take i ++ [x.get! i] := by
  have h' : i < x.data.toList.length := by simpa using h
  have hd := byte_get x i h
  rw [List.take_succ_eq_append_getElem h']
  rw [List.drop_eq_getElem_cons h'] at hd
  rw [(List.cons.inj hd).1]
theorem all_bad (x : ByteArray) (i : Nat) (h : i < x.size) (hb : dig (x.get! i) = false) : ¬ x.data.toList.all dig = true := by
  intro ha
  rw [← List.take_append_drop i x.data.toList, byte_get x i h, List.all_append, List.all_cons, hb] at ha
  simp at ha
def nv (l : List UInt8) : Value := .tuple #[.int .i64 (match numF l with | some n => (n : Int) | none => 0), .bool (numF l).isSome]
theorem nv_none {l : List UInt8} (h : numF l = none) : nv l = .tuple #[.int .i64 0, .bool false] := by unfold nv; rw [h]; rfl
theorem nv_some {l : List UInt8} {n : Nat} (h : numF l = some n) : nv l = .tuple #[.int .i64 n, .bool true] := by unfold nv; rw [h]; rfl
set_option maxRecDepth 100000 in
set_option maxHeartbeats 2000000 in
theorem number32 (x : ByteArray) (w : World) : Calls Tryd.prog 32 #[.string x] w fun e w' => e = .returned (nv x.data.toList) ∧ Below w.heap.size w w' := by
  have hlen : x.data.toList.length = x.size := by simp
  by_cases h0 : x.size = 0
  · have hx : x = ⟨#[]⟩ := by
      apply ByteArray.ext
      exact Array.size_eq_zero_iff.1 h0
    subst hx
    rw [nv_none (by decide)]
    go_enter Tryd.func32, Tryd.ntmps32
    go_wp2
    go_ret2
    exact ⟨rfl, Below.refl _ _⟩
  · have hne : (x.toList == []) = false := by
      rw [beq_dec]; apply decide_eq_false; intro e; rw [e] at hlen; simp at hlen; omega
    by_cases h3 : 3 < x.size
    · have h3z : (3 : Int) < x.size := by omega
      rw [nv_none (by unfold numF; rw [if_neg (by omega)])]
      go_enter Tryd.func32, Tryd.ntmps32
      go_wp2
      go_ret2
      exact ⟨rfl, Below.refl _ _⟩
    · have h3z : ¬ (3 : Int) < x.size := by omega
      obtain ⟨V, hV⟩ : ∃ V, nv x.data.toList = V := ⟨_, rfl⟩
      rw [hV]
      have HV := Aside0.mk hV
      clear hV
      go_enter Tryd.func32, Tryd.ntmps32
      go_wp2
      go_loopg [] (x.size + 1) (fun gf wr => gf ≤ x.size + 1 ∧ 1 ≤ gf ∧ (x.data.toList.take (x.size + 1 - gf)).all dig = true ∧ wr.heap[w.heap.size]? = some (.stringIter x (x.size + 1 - gf)) ∧ Below w.heap.size w wr)
      case atStart => exact ⟨by omega, by omega, by simp, by rw [Nat.sub_self]; exact World.iter_heap w x 0, (Below.refl _ w).alloc (Nat.le_refl _) _⟩
      case round =>
        obtain ⟨hg, hg1, hall, hit, hB⟩ := hrel
        obtain ⟨pos, hpos⟩ : ∃ pos, x.size + 1 - gk = pos := ⟨_, rfl⟩
        rw [hpos] at hall hit
        by_cases hlt : pos < x.size
        · have hnx : ∀ ty, (Instr.next (.pointer (some ⟨w.heap.size, 0, none⟩)) true ty).run Tryd.prog wr = _ := fun ty => Lib.run_next_any_at wr w.heap.size x pos ty hit hlt
          have hit2 := Lib.iterAt_heap wr w.heap.size x pos (pos + (Utf8.decode x pos).2) hit
          have hB2 := Lib.below_iterAt hB (k := w.heap.size) (Nat.le_refl _) x (pos + (Utf8.decode x pos).2)
          have hs := sgn_at x pos hlt
          try dsimp only at hnx
          generalize wr.iterAt w.heap.size x (pos + (Utf8.decode x pos).2) = W at hnx hit2 hB2
          generalize (Utf8.decode x pos).1 = R at hnx hs
          generalize (Utf8.decode x pos).2 = K at hit2 hs
          rcases hs with ⟨hr, hd⟩ | ⟨h4, h5, rfl, hd⟩
          · obtain rfl : V = .tuple #[.int .i64 0, .bool false] := by
              rw [← HV.out, nv_none]
              unfold numF
              rw [if_neg (fun h => all_bad x pos hlt hd h.2.2)]
            clear hd hit hall hit2
            rcases hr with hr | hr
            · have hrz : (R : Int) < 48 := by omega
              go_wp2
              go_ret2
              exact ⟨rfl, hB2⟩
            · have hrz : ¬ (R : Int) < 48 := by omega
              have hrz2 : (57 : Int) < R := by omega
              go_wp2
              go_ret2
              exact ⟨rfl, hB2⟩
          · have hrz : ¬ (R : Int) < 48 := by omega
            have hrz2 : ¬ (57 : Int) < R := by omega
            have hall2 : (x.data.toList.take (pos + 1)).all dig = true := by
              rw [take_byte x pos hlt, List.all_append, hall]
              simp [hd]
            clear hit hall hd
            go_wp2
            go_roundg (gk - 1)
            case measure => omega
            case rel => exact ⟨by omega, by omega, by rw [show x.size + 1 - (gk - 1) = pos + 1 by omega]; exact hall2, by rw [show x.size + 1 - (gk - 1) = pos + 1 by omega]; exact hit2, hB2⟩
        · have hnx : ∀ ty, (Instr.next (.pointer (some ⟨w.heap.size, 0, none⟩)) true ty).run Tryd.prog wr = _ := fun ty => Lib.run_next_end_at wr w.heap.size x pos ty hit hlt
          have hl : x.data.toList.take pos = x.data.toList := List.take_of_length_le (by omega)
          rw [hl] at hall
          have hat := atoi_dig x.data.toList (by intro e; rw [e] at hlen; simp at hlen; omega) hall
          obtain ⟨N, hN⟩ : ∃ N : Int, ((decOf 0 x.data.toList : Nat) : Int) = N := ⟨_, rfl⟩
          obtain rfl : V = .tuple #[.int .i64 N, .bool true] := by
            rw [← HV.out, ← hN, nv_some]
            unfold numF
            rw [if_pos ⟨by omega, by omega, hall⟩]
          rw [hN] at hat
          clear hN
          have HA := Aside0.mk hat
          clear hit hall hat hl
          go_wp2_with (go_at_call 43; (with_reducible refine (Tryd.strconv_Atoi x N (by omega) HA.out _).mono ?_); rintro e w2 ⟨rfl, t, rfl⟩)
          go_ret2
          exact ⟨rfl, hB.trans (Go.Joins.below_bytesWorld _ _ _ _ hB.size)⟩
end Go.Proofs.YtcbmeklhmajglaaDoor
end
section
namespace Go.Proofs.YtcbmeklhmajglaaDoor
open Go.RowKit Go.CfgLaw Go.Proofs.YtcbmeklhmajglaaDoorW.PrintWords Go.Proofs.YtcbmeklhmajglaaDoorW.PrintLast Go.Proofs.YtcbmeklhmajglaaDoorW.PrintMore
set_option linter.unusedVariables false
attribute [local go_sem] setCell_drewN alloc_drewN
attribute [local simp] setCell_drewN alloc_drewN
/-- A row of texts. -/
def SRow (w : World) (A : Nat) (l : List ByteArray) : Prop := ∃ cs, w.heap[A]? = some (.cells cs 9) ∧ cs.toList.take l.length = l.map Value.string
theorem SRow.of_heap {w w' : World} {A : Nat} {l : List ByteArray} (h : SRow w A l) (e : w'.heap[A]? = w.heap[A]?) : SRow w' A l := by
  obtain ⟨cs, h1, h2⟩ := h
  exact ⟨cs, e.trans h1, h2⟩
theorem SRow.lt {w : World} {A : Nat} {l : List ByteArray} (h : SRow w A l) : A < w.heap.size := by
  obtain ⟨cs, h1, h2⟩ := h
  exact (Array.getElem?_eq_some_iff.1 h1).1
theorem SRow.cell {w : World} {A : Nat} {l : List ByteArray} (h : SRow w A l) (j : Nat) {x : ByteArray} (hx : l[j]? = some x) : w.cell? ⟨A, j, none⟩ = some (.string x) := by
  obtain ⟨cs, h1, h2⟩ := h
  have hj : j < l.length := (List.getElem?_eq_some_iff.1 hx).1
  rw [cell_of_row w A j cs 9 (0, 0) h1, ← Array.getElem?_toList]
  have h3 : (cs.toList.take l.length)[j]? = some (.string x) := by rw [h2, List.getElem?_map, hx]; rfl
  rwa [List.getElem?_take_of_lt hj] at h3
theorem SRow.of_own {w : World} {base A n c : Nat} {l : List ByteArray} (h : w.ownsRow base 9 1 (.slice (some ⟨A, 0, none⟩) n c) n (l.map Value.string)) (hn : l.length = n) : SRow w A l := by
  rcases h.2 with ⟨h, _⟩ | ⟨g, cap, cur, hv, h1, h2, h3, h4, h5, h6⟩
  · cases h
  · cases hv
    refine ⟨cur, h2, ?_⟩
    rw [hn, ← h6, Nat.mul_one]
theorem fn34 (r : Nat) (w : World) : Calls Tryd.prog 34 #[.int .i32 r] w fun e w' => e = .returned (.bool (pb r)) ∧ ∃ q, w' = w.drewN q := by
  by_cases h1 : r = 32
  · subst h1
    go_enter Tryd.func34, Tryd.ntmps34
    go_wp2
    go_ret
    exact ⟨rfl, 0, rfl⟩
  · have h1z : ¬ (r : Int) = 32 := by omega
    have h1b : ((r : Int) == 32) = false := by simpa using h1z
    by_cases h2 : r = 9
    · subst h2
      go_enter Tryd.func34, Tryd.ntmps34
      go_wp2
      go_ret
      exact ⟨rfl, 0, rfl⟩
    · have h2z : ¬ (r : Int) = 9 := by omega
      have h2b : ((r : Int) == 9) = false := by simpa using h2z
      have hp : pb r = false := by unfold pb; simp [h1, h2]
      rw [hp]
      go_enter Tryd.func34, Tryd.ntmps34
      go_wp2
      go_ret
      exact ⟨rfl, 0, rfl⟩
theorem pred34 (w : World) : PredAtRunes Tryd.prog 34 #[] pb w := fun W x hx hB => fn34 x W
theorem words17 (x : ByteArray) (hs : x.size < 1000000) (w : World) : Calls Tryd.prog 17 #[.string x] w fun e w' => ∃ A, e = .returned (.slice (some ⟨A, 0, none⟩) (wds x.data.toList).length (wds x.data.toList).length) ∧ w.heap.size ≤ A ∧ SRow w' A ((wds x.data.toList).map ofL) ∧ Below w.heap.size w w' := by
  have hF : ∀ W : World, Calls Tryd.prog 33 #[.string x, .func (.func 34) #[] #[]] W fun e w' => ∃ A, e = .returned (.slice (some ⟨A, 0, none⟩) (wds x.data.toList).length (wds x.data.toList).length) ∧ W.heap.size ≤ A ∧ SRow w' A ((wds x.data.toList).map ofL) ∧ Below W.heap.size W w' := by
    intro W
    have hf := fields_wds x
    have hl : (Lib.goFieldsP pb x).length = (wds x.data.toList).length := by rw [← hf, List.length_map]
    have ho : Lib.goFieldsP pb x = (wds x.data.toList).map ofL := by
      rw [← hf, List.map_map]
      exact ((List.map_congr_left (fun y _ => by simp [ofL])).trans (List.map_id _)).symm
    refine (Tryd.strings_FieldsFunc_runes 34 #[] (fun args w => enters_ Tryd.func34 (by decide) (by rfl) args w) pb x W (by omega) (pred34 W)).mono ?_
    rintro e w' ⟨A, rfl, hA, hown, hB⟩
    rw [ho] at hown
    rw [hl]
    exact ⟨A, rfl, hA, SRow.of_own hown rfl, hB⟩
  generalize wds x.data.toList = L at hF ⊢
  go_enter Tryd.func17, Tryd.ntmps17
  go_wp2_with (go_at_call 33; (with_reducible refine (hF _).mono ?_); rintro e w2 ⟨A, rfl, hA, hR, hB⟩)
  go_ret
  exact ⟨A, rfl, hA, hR, hB⟩
end Go.Proofs.YtcbmeklhmajglaaDoor
end
section
namespace Go.Proofs.YtcbmeklhmajglaaDoor
open Go.RowKit Go.CfgLaw Go.Proofs.YtcbmeklhmajglaaDoorW.PrintWords Go.Proofs.YtcbmeklhmajglaaDoorW.PrintLast Go.Proofs.YtcbmeklhmajglaaDoorW.PrintMore
set_option linter.unusedVariables false
attribute [local go_sem] setCell_drewN alloc_drewN
attribute [local simp] setCell_drewN alloc_drewN
/-- Only block q has changed. -/
structure KeepQ (q : Nat) (w w' : World) : Prop where
  os : w'.os = w.os
  tape : w'.tape = w.tape
  output : w'.output = w.output
  size : w.heap.size ≤ w'.heap.size
  block : ∀ b, b < w.heap.size → b ≠ q → w'.heap[b]? = w.heap[b]?
theorem KeepQ.refl (q : Nat) (w : World) : KeepQ q w w := ⟨rfl, rfl, rfl, Nat.le_refl _, fun _ _ _ => rfl⟩
theorem KeepQ.of_below {q : Nat} {w w' : World} (h : Below w.heap.size w w') : KeepQ q w w' := ⟨h.os, h.tape, h.output, h.size, fun b hb _ => h.block b hb⟩
theorem KeepQ.set {q : Nat} {w w' : World} (h : KeepQ q w w') (i : Nat) (v : Value) : KeepQ q w (w'.setCell ⟨q, i, none⟩ v) := by
  have h2 : Below q w' (w'.setCell ⟨q, i, none⟩ v) := below_set (Below.refl q w') q i v (Nat.le_refl _)
  exact ⟨h2.os.trans h.os, h2.tape.trans h.tape, h2.output.trans h.output, Nat.le_trans h.size h2.size, fun b hb hn => (heap_set_ne _ _ _ _ _ (Ne.symm hn)).trans (h.block b hb hn)⟩
theorem KeepQ.below {q B : Nat} {w w' w0 : World} (h : KeepQ q w w') (hB : Below B w0 w) (hq : B ≤ q) (hs : B ≤ w.heap.size) : Below B w0 w' :=
  ⟨h.os.trans hB.os, h.tape.trans hB.tape, h.output.trans hB.output, Nat.le_trans hB.size h.size, fun k hk => (h.block k (by omega) (by omega)).trans (hB.block k hk)⟩
theorem KeepQ.trans {q : Nat} {a b c : World} (h : KeepQ q a b) (k : KeepQ q b c) : KeepQ q a c :=
  ⟨k.os.trans h.os, k.tape.trans h.tape, k.output.trans h.output, Nat.le_trans h.size k.size, fun i hi hn => (k.block i (Nat.lt_of_lt_of_le hi h.size) hn).trans (h.block i hi hn)⟩
theorem cells_setOn (f : Cfg) (k : Nat) (hk : k < 10) (b : Bool) : (cells f).setIfInBounds k (.bool b) = cells (setOn f k b) := by
  obtain ⟨on, x, y, z, u⟩ := f
  have h : k = 0 ∨ k = 1 ∨ k = 2 ∨ k = 3 ∨ k = 4 ∨ k = 5 ∨ k = 6 ∨ k = 7 ∨ k = 8 ∨ k = 9 := by omega
  rcases h with rfl | rfl | rfl | rfl | rfl | rfl | rfl | rfl | rfl | rfl <;> rfl
theorem cells_on (f : Cfg) (k : Nat) (hk : k < 10) : (cells f)[k]? = some (.bool (f.on k)) := by
  have h : k = 0 ∨ k = 1 ∨ k = 2 ∨ k = 3 ∨ k = 4 ∨ k = 5 ∨ k = 6 ∨ k = 7 ∨ k = 8 ∨ k = 9 := by omega
  rcases h with rfl | rfl | rfl | rfl | rfl | rfl | rfl | rfl | rfl | rfl <;> rfl
def LinePost (f : Cfg) (q : Nat) (w : World) (r : Option Cfg) (e : Ending) (w' : World) : Prop :=
  e = .returned (.bool r.isSome) ∧ ∃ g : Cfg, (∀ f', r = some f' → g = f') ∧ w'.heap[q]? = some (.cells (cells g) 28) ∧ KeepQ q w w'
theorem line_other (f : Cfg) (q A n c : Nat) (w : World) (hq : w.heap[q]? = some (.cells (cells f) 28)) (hn : n < 1000000) (h2 : n ≠ 2) :
    Calls Tryd.prog 16 #[.pointer (some ⟨q, 0, none⟩), .slice (some ⟨A, 0, none⟩) n c] w (LinePost f q w (if n = 0 then some f else none)) := by
  by_cases h0 : n = 0
  · subst h0
    go_enter Tryd.func16, Tryd.ntmps16
    go_wp2
    go_ret
    exact ⟨rfl, f, fun f' h => (Option.some.inj h), hq, KeepQ.refl q w⟩
  · have h2z : ¬ (n : Int) = 2 := by omega
    have h0z : ¬ (n : Int) = 0 := by omega
    have h2b : ((n : Int) != 2) = true := by simpa using h2z
    have h0b : ((n : Int) == 0) = false := by simpa using h0z
    rw [if_neg h0]
    go_enter Tryd.func16, Tryd.ntmps16
    go_wp2
    go_ret
    exact ⟨rfl, f, fun f' h => by simp at h, hq, KeepQ.refl q w⟩
theorem lineF_rule (f : Cfg) (x y : List UInt8) (k : Nat) (hk : fi x NM 0 = k) (h0 : 0 < k) : lineF f [x, y] = if y = [111, 110] ∨ y = [111, 102, 102] then some (setOn f k (decide (y = [111, 110]))) else none := by
  rw [lineF_two, hk, if_pos (by omega), Int.toNat_natCast]
set_option maxRecDepth 100000 in
set_option maxHeartbeats 2000000 in
theorem line_rule (f : Cfg) (q A c : Nat) (x y : ByteArray) (w : World) (hq : w.heap[q]? = some (.cells (cells f) 28)) (hR : SRow w A [x, y]) (hc : 2 ≤ c) (hqA : q ≠ A) (k : Nat) (hk : fi x.data.toList NM 0 = k) (h0 : 0 < k) :
    Calls Tryd.prog 16 #[.pointer (some ⟨q, 0, none⟩), .slice (some ⟨A, 0, none⟩) 2 c] w (LinePost f q w (lineF f [x.data.toList, y.data.toList])) := by
  have h9 : k ≤ 9 := by
    rcases fi_bound x.data.toList NM 0 with h | h
    · omega
    · have : NM.length = 10 := rfl
      omega
  rw [lineF_rule f _ _ k hk h0]
  obtain ⟨yb, hyb⟩ : ∃ yb, (y.toList == [111, 110]) = yb := ⟨_, rfl⟩
  obtain ⟨yo, hyo⟩ : ∃ yo, (y.toList == [111, 102, 102]) = yo := ⟨_, rfl⟩
  have e1 : decide (y.data.toList = [111, 110]) = yb := by rw [← hyb, beq_on]
  have e2 : decide (y.data.toList = [111, 102, 102]) = yo := by rw [← hyo, beq_on]
  have hr : (if y.data.toList = [111, 110] ∨ y.data.toList = [111, 102, 102] then some (setOn f k (decide (y.data.toList = [111, 110]))) else none) = if (yb || yo) = true then some (setOn f k yb) else none := by
    rw [e1]
    by_cases a : y.data.toList = [111, 110]
    · simp [← e1, a]
    · by_cases b : y.data.toList = [111, 102, 102]
      · simp [← e1, ← e2, b]
      · simp [← e1, ← e2, a, b]
  rw [hr]
  obtain ⟨r, hr2⟩ : ∃ r, (if (yb || yo) = true then some (setOn f k yb) else none) = r := ⟨_, rfl⟩
  rw [hr2]
  have HR := Aside0.mk hr2
  clear hr e1 e2 hr2
  have hA := hR.lt
  have hql := heap_lt hq
  have hx := hR.cell 0 (x := x) rfl
  have hy := hR.cell 1 (x := y) rfl
  have hkz : (0 : Int) < k := by omega
  have hk9 : (k : Int) < 10 := by omega
  have hk0 : (0 : Int) ≤ k := by omega
  have HQ := Aside0.mk hq
  clear hR hq
  go_enter Tryd.func16, Tryd.ntmps16
  go_wp2
  go_region_held3 (fun V => V.cell? ⟨A, 0, none⟩ = some (.string x)) (first | (with_reducible exact hx2) | exact hx | fail) (first
    | (go_at_call 31; (with_reducible refine (rules31 _).mono ?_); rintro e w2 ⟨mb, rfl, hmap, hmb, hB2⟩; have hx2 : w2.cell? ⟨A, 0, none⟩ = some (.string x) := (hB2.cell hA).trans hx; have hlk := lookup58 hmap x k hk; rw [if_pos hkz, decide_eq_true hkz] at hlk)
    | fail)
  have hy2 : w2.cell? ⟨A, 1, none⟩ = some (.string y) := (hB2.cell hA).trans hy
  have hq2 : w2.heap[q]? = some (.cells (cells f) 28) := (hB2.block q hql).trans HQ.out
  have hc2 : w2.cell? ⟨q, k, none⟩ = some (.bool (f.on k)) := (cell_of_row w2 q k _ 28 (0, 0) hq2).trans (cells_on f k (by omega))
  have hf2 := froz hq2 k
  have hK : KeepQ q w w2 := KeepQ.of_below (((Below.refl _ w).drew).trans hB2)
  clear hB2 hx2 hlk hmap hmb
  have HQ2 := Aside0.mk hq2
  clear hq2
  go_wp2
  go_region_held3 (fun V => V.cell? ⟨A, 1, none⟩ = some (.string y)) (first | exact hy2 | exact (World.cell?_of_block (Below.heap_setCell _ _ _ _ (Ne.symm hqA))).trans hy2 | fail) (fail)
  generalize hW3 : (w2.setCell ⟨q, k, none⟩ (.bool yb)).drew = W3
  have hy3 : W3.cell? ⟨A, 1, none⟩ = some (.string y) := by rw [← hW3]; exact (World.cell?_of_block (Below.heap_setCell w2 ⟨q, k, none⟩ (.bool yb) A (Ne.symm hqA))).trans hy2
  have hq3 : W3.heap[q]? = some (.cells (cells (setOn f k yb)) 28) := by
    rw [← hW3]
    show (w2.setCell ⟨q, k, none⟩ (.bool yb)).heap[q]? = _
    rw [heap_set_at HQ2.out k (.bool yb), cells_setOn f k (by omega) yb]
  have hK3 : KeepQ q w W3 := by
    rw [← hW3]
    have h := hK.set k (.bool yb)
    exact ⟨h.os, h.tape, h.output, h.size, h.block⟩
  clear hW3 hc2 hf2
  have HQ3 := Aside0.mk hq3
  have HR' := HR.out
  clear hq3
  cases yb
  · cases yo
    · obtain rfl : r = none := by rw [← HR']; rfl
      clear HR'
      go_wp2
      go_ret
      exact ⟨rfl, _, fun f' h => (by cases h), HQ3.out, hK3⟩
    · obtain rfl : r = some (setOn f k false) := by rw [← HR']; rfl
      clear HR'
      go_wp2
      go_ret
      exact ⟨rfl, _, fun f' h => Option.some.inj h, HQ3.out, hK3⟩
  · obtain rfl : r = some (setOn f k true) := by rw [← HR']; simp
    clear HR'
    go_wp2
    go_ret
    exact ⟨rfl, _, fun f' h => Option.some.inj h, HQ3.out, hK3⟩
end Go.Proofs.YtcbmeklhmajglaaDoor
end
section
namespace Go.Proofs.YtcbmeklhmajglaaDoor
open Go.RowKit Go.CfgLaw Go.Proofs.YtcbmeklhmajglaaDoorW.PrintWords Go.Proofs.YtcbmeklhmajglaaDoorW.PrintLast Go.Proofs.YtcbmeklhmajglaaDoorW.PrintMore
set_option linter.unusedVariables false
attribute [local go_sem] setCell_drewN alloc_drewN
attribute [local simp] setCell_drewN alloc_drewN
theorem lineF_num (f : Cfg) (x y : List UInt8) (k0 : Int) (hk : fi x NM 0 = k0) (h0 : ¬ 0 < k0) (ku : Int) (hu : fi x NU 0 = ku) : lineF f [x, y] = match numF y with | none => none | some n => setN f ku n := by
  rw [lineF_two, hk, if_neg h0, hu]
  cases numF y <;> rfl
theorem lookup58n {W : World} {mb c : Nat} (h : W.heap[mb]? = some (.map (rulesE 9) c)) (x : ByteArray) (k : Int) (hk : fi x.data.toList NM 0 = k) (h0 : k ≤ 0) :
    (Instr.lookup 58 (.map (some mb)) (.string x) true).run Tryd.prog W = .ok (.tuple #[.int .i64 0, .bool false]) W := by
  have h1 := lookup58 h x k hk
  rw [if_neg (Int.not_lt.2 h0), decide_eq_false (Int.not_lt.2 h0)] at h1
  exact h1
set_option maxRecDepth 100000 in
set_option maxHeartbeats 4000000 in
theorem line_num (f : Cfg) (q A c : Nat) (x y : ByteArray) (w : World) (hq : w.heap[q]? = some (.cells (cells f) 28)) (hR : SRow w A [x, y]) (hc : 2 ≤ c) (hqA : q ≠ A) (k0 : Int) (hk : fi x.data.toList NM 0 = k0) (h0 : ¬ 0 < k0) :
    Calls Tryd.prog 16 #[.pointer (some ⟨q, 0, none⟩), .slice (some ⟨A, 0, none⟩) 2 c] w (LinePost f q w (lineF f [x.data.toList, y.data.toList])) := by
  obtain ⟨ku, hku⟩ : ∃ ku, fi x.data.toList NU 0 = ku := ⟨_, rfl⟩
  have hfc := fiu_cases x.data.toList
  rw [hku] at hfc
  rw [lineF_num f _ _ k0 hk h0 ku hku]
  have hA := hR.lt
  have hql := heap_lt hq
  have hx := hR.cell 0 (x := x) rfl
  have hy := hR.cell 1 (x := y) rfl
  have HQ := Aside0.mk hq
  have h26 := fun W => place26 q x ku hku W
  have h32 := fun W => number32 y W
  have H0 := Aside0.mk (Int.not_lt.1 h0)
  clear hR hq hku h0
  rcases hnf : numF y.data.toList with _ | n
  · rw [nv_none hnf] at h32
    have hp : (placeV q ku = none) ∨ ∃ j, placeV q ku = some ⟨q, j, none⟩ := by
      rcases hfc with rfl | rfl | rfl | rfl | rfl
      · exact .inr ⟨10, rfl⟩
      · exact .inr ⟨11, rfl⟩
      · exact .inr ⟨12, rfl⟩
      · exact .inr ⟨13, rfl⟩
      · exact .inl rfl
    generalize placeV q ku = p at h26 hp
    clear hfc hnf
    go_enter Tryd.func16, Tryd.ntmps16
    go_wp2
    go_region_held3 (fun V => V.cell? ⟨A, 0, none⟩ = some (.string x)) (first | (with_reducible exact hx2) | exact hx | fail) (first
      | (go_at_call 31; (with_reducible refine (rules31 _).mono ?_); rintro e w2 ⟨mb, rfl, hmap, hmb, hB2⟩; have hx2 : w2.cell? ⟨A, 0, none⟩ = some (.string x) := (hB2.cell hA).trans hx; have hlk := lookup58n hmap x k0 hk H0.out)
      | fail)
    have hy2 : w2.cell? ⟨A, 1, none⟩ = some (.string y) := (hB2.cell hA).trans hy
    have hq2 := (hB2.block q hql).trans HQ.out
    have hK : KeepQ q w w2 := KeepQ.of_below (((Below.refl _ w).drew).trans hB2)
    clear hB2 hlk hmap hmb
    have HQ2 := Aside0.mk hq2
    have hq2l : q < w2.heap.size := heap_lt hq2
    clear hq2
    rcases hp with rfl | ⟨j, rfl⟩
    · go_wp2_with (first
        | (go_at_call 26; (with_reducible refine (h26 _).mono ?_); rintro e w3 ⟨rfl, rfl⟩)
        | (go_at_call 32; (with_reducible refine (h32 _).mono ?_); rintro e w4 ⟨rfl, hB4⟩; have hK4 := hK.trans (KeepQ.of_below hB4); have HQ4 := Aside0.mk ((hB4.block q hq2l).trans HQ2.out)))
      go_ret
      exact ⟨rfl, _, fun f' h => (by cases h), HQ4.out, hK4⟩
    · go_wp2_with (first
        | (go_at_call 26; (with_reducible refine (h26 _).mono ?_); rintro e w3 ⟨rfl, rfl⟩)
        | (go_at_call 32; (with_reducible refine (h32 _).mono ?_); rintro e w4 ⟨rfl, hB4⟩; have hK4 := hK.trans (KeepQ.of_below hB4); have HQ4 := Aside0.mk ((hB4.block q hq2l).trans HQ2.out)))
      go_ret
      exact ⟨rfl, _, fun f' h => (by cases h), HQ4.out, hK4⟩
  · rw [nv_some hnf] at h32
    show Calls _ _ _ _ (LinePost f q w (setN f ku n))
    have hp : (placeV q ku = none ∧ setN f ku n = none) ∨ ∃ j g, placeV q ku = some ⟨q, j, none⟩ ∧ setN f ku n = some g ∧ j < 14 ∧ (∃ v, (cells f)[j]? = some (.int .i64 v)) ∧ (cells f).setIfInBounds j (.int .i64 n) = cells g := by
      obtain ⟨on, a, b, cc, d⟩ := f
      rcases hfc with rfl | rfl | rfl | rfl | rfl
      · exact .inr ⟨10, _, rfl, rfl, by decide, ⟨_, rfl⟩, rfl⟩
      · exact .inr ⟨11, _, rfl, rfl, by decide, ⟨_, rfl⟩, rfl⟩
      · exact .inr ⟨12, _, rfl, rfl, by decide, ⟨_, rfl⟩, rfl⟩
      · exact .inr ⟨13, _, rfl, rfl, by decide, ⟨_, rfl⟩, rfl⟩
      · exact .inl ⟨rfl, rfl⟩
    generalize placeV q ku = p at h26 hp
    generalize setN f ku n = r at hp ⊢
    clear hfc hnf
    go_enter Tryd.func16, Tryd.ntmps16
    go_wp2
    go_region_held3 (fun V => V.cell? ⟨A, 0, none⟩ = some (.string x)) (first | (with_reducible exact hx2) | exact hx | fail) (first
      | (go_at_call 31; (with_reducible refine (rules31 _).mono ?_); rintro e w2 ⟨mb, rfl, hmap, hmb, hB2⟩; have hx2 : w2.cell? ⟨A, 0, none⟩ = some (.string x) := (hB2.cell hA).trans hx; have hlk := lookup58n hmap x k0 hk H0.out)
      | fail)
    have hy2 : w2.cell? ⟨A, 1, none⟩ = some (.string y) := (hB2.cell hA).trans hy
    have hq2 := (hB2.block q hql).trans HQ.out
    have hK : KeepQ q w w2 := KeepQ.of_below (((Below.refl _ w).drew).trans hB2)
    clear hB2 hlk hmap hmb
    have HQ2 := Aside0.mk hq2
    have hq2l : q < w2.heap.size := heap_lt hq2
    clear hq2
    rcases hp with ⟨rfl, rfl⟩ | ⟨j, g, rfl, rfl, hj, ⟨v, hv⟩, hg⟩
    · go_wp2_with (first
        | (go_at_call 26; (with_reducible refine (h26 _).mono ?_); rintro e w3 ⟨rfl, rfl⟩)
        | (go_at_call 32; (with_reducible refine (h32 _).mono ?_); rintro e w4 ⟨rfl, hB4⟩; have hK4 := hK.trans (KeepQ.of_below hB4); have HQ4 := Aside0.mk ((hB4.block q hq2l).trans HQ2.out)))
      go_ret
      exact ⟨rfl, _, fun f' h => (by cases h), HQ4.out, hK4⟩
    · have HG := Aside0.mk hg
      have HV := Aside0.mk hv
      clear hg hv
      go_wp2_with (first
        | (go_at_call 26; (with_reducible refine (h26 _).mono ?_); rintro e w3 ⟨rfl, rfl⟩)
        | (go_at_call 32; (with_reducible refine (h32 _).mono ?_); rintro e w4 ⟨rfl, hB4⟩; have hq4 := (hB4.block q hq2l).trans HQ2.out; have hK4 := hK.trans (KeepQ.of_below hB4); have HQ4 := Aside0.mk hq4; have hc4 := (cell_of_row w4 q j _ 28 (0, 0) hq4).trans HV.out; have hf4 := froz hq4 j; clear hq4))
      go_ret
      refine ⟨rfl, _, fun f' h => Option.some.inj h, ?_, hK4.set _ _⟩
      rw [heap_set_at HQ4.out, HG.out]
end Go.Proofs.YtcbmeklhmajglaaDoor
end
section
namespace Go.Proofs.YtcbmeklhmajglaaDoor
open Go.RowKit Go.CfgLaw Go.Proofs.YtcbmeklhmajglaaDoorW.PrintWords Go.Proofs.YtcbmeklhmajglaaDoorW.PrintLast Go.Proofs.YtcbmeklhmajglaaDoorW.PrintMore
set_option linter.unusedVariables false
attribute [local go_sem] setCell_drewN alloc_drewN
attribute [local simp] setCell_drewN alloc_drewN
theorem line16 (f : Cfg) (q A c : Nat) (l : List (List UInt8)) (w : World) (hq : w.heap[q]? = some (.cells (cells f) 28)) (hR : SRow w A (l.map ofL)) (hl : l.length < 1000000) (hc : l.length ≤ c) (hqA : q ≠ A) :
    Calls Tryd.prog 16 #[.pointer (some ⟨q, 0, none⟩), .slice (some ⟨A, 0, none⟩) l.length c] w (LinePost f q w (lineF f l)) := by
  by_cases h2 : l.length = 2
  · match l, h2 with
    | [x, y], _ =>
      obtain ⟨k, hk⟩ : ∃ k, fi x NM 0 = k := ⟨_, rfl⟩
      have hx : (ofL x).data.toList = x := by simp [ofL]
      have hy : (ofL y).data.toList = y := by simp [ofL]
      by_cases h0 : 0 < k
      · obtain ⟨n, rfl⟩ : ∃ n : Nat, k = n := ⟨k.toNat, by omega⟩
        have h := line_rule f q A c (ofL x) (ofL y) w hq hR hc hqA n (by rw [hx]; exact hk) (by omega)
        rw [hx, hy] at h
        exact h
      · have h := line_num f q A c (ofL x) (ofL y) w hq hR hc hqA k (by rw [hx]; exact hk) h0
        rw [hx, hy] at h
        exact h
  · have h := line_other f q A l.length c w hq hl h2
    have e : lineF f l = if l.length = 0 then some f else none := by
      match l, h2 with
      | [], _ => rfl
      | [x], _ => rfl
      | [x, y], h2 => exact absurd rfl h2
      | x :: y :: z :: r, _ => rfl
    rw [e]
    exact h
theorem lns_len : ∀ (l : List UInt8), (lns l).length ≤ l.length + 1 ∧ ∀ x ∈ lns l, x.length ≤ l.length
  | [] => by simp [lns]
  | c :: l => by
    obtain ⟨h1, h2⟩ := lns_len l
    unfold lns
    split
    · refine ⟨by simp only [List.length_cons]; omega, fun x hx => ?_⟩
      rcases List.mem_cons.1 hx with rfl | hx
      · simp
      · have := h2 x hx
        simp only [List.length_cons]
        omega
    · split
      · exact ⟨by simp, fun x hx => by simp at hx; subst hx; simp⟩
      · rename_i y r e
        rw [e] at h1 h2
        refine ⟨by simp only [List.length_cons] at h1 ⊢; omega, fun x hx => ?_⟩
        rcases List.mem_cons.1 hx with rfl | hx
        · have := h2 y (by simp)
          simp only [List.length_cons]
          omega
        · have := h2 x (by simp [hx])
          simp only [List.length_cons]
          omega
theorem split15 (s : ByteArray) (m : Int) (w : World) (hs : s.size < 1000000) (hm : w.cell? ⟨0, 0, none⟩ = some (.int .i64 m)) : Calls Tryd.prog 15 #[.string s, .string ⟨#[10]⟩] w fun e w' =>
      e = .returned (.slice (some ⟨w.heap.size, 0, none⟩) (lns s.data.toList).length (lns s.data.toList).length) ∧ SRow w' w.heap.size ((lns s.data.toList).map ofL) ∧ Below w.heap.size w w' := by
  have hsp := split_lns s
  refine (Tryd.strings_Split s ⟨#[10]⟩ m w (by omega) hm (by decide)).mono ?_
  rintro e w' ⟨rfl, rfl⟩
  have hl : (Lib.splitB ⟨#[10]⟩ 0 (Lib.countB s ⟨#[10]⟩) s).length = (lns s.data.toList).length := by rw [← hsp, List.length_map]
  have ho : Lib.splitB ⟨#[10]⟩ 0 (Lib.countB s ⟨#[10]⟩) s = (lns s.data.toList).map ofL := by
    rw [← hsp, List.map_map]
    exact ((List.map_congr_left (fun y _ => by simp [ofL])).trans (List.map_id _)).symm
  have hn : Lib.countB s ⟨#[10]⟩ + 1 = (lns s.data.toList).length := by
    rw [← hl, Lib.splitB_all ⟨#[10]⟩ (by decide) 0 _ s rfl]
  rw [ho, hn]
  refine ⟨rfl, ⟨_, heap_alloc_new w _, ?_⟩, (Below.refl _ w).alloc (Nat.le_refl _) _⟩
  rw [List.take_of_length_le (by simp)]
end Go.Proofs.YtcbmeklhmajglaaDoor
end
