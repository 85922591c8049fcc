/- A part of the proof: what the functions of the program compute, shown once each; the last text holds the statement. No condition beyond those of the statement. -/
import Derived.Test.YtcbmeklhmajglaaDoorCfD
import Derived.Test.YtcbmeklhmajglaaDoorRows
import Derived.Test.YtcbmeklhmajglaaDoorTie
import Derived.Test.YtcbmeklhmajglaaDoorCards
import Derived.WalkKit
import Derived.ProofKit
import Derived.OpenShut
import Derived.ChangeOld
import Derived.ChangeMaps5
import Derived.Below
import Derived.SizedLaws
import Derived.HandedShaped
import Derived.LaidMore
import Derived.Lay
import Derived.SevenTiedAt
import Derived.Stop.Joined
import Derived.Deep.Grids
set_option linter.unusedSimpArgs false
set_option linter.unusedVariables false
section
namespace Go.Proofs.YtcbmeklhmajglaaDoor
open Go.RowKit Go.CfgLaw Go.Proofs.YtcbmeklhmajglaaDoorW.PrintWords Go.Proofs.YtcbmeklhmajglaaDoorW.PrintLast Go.Proofs.YtcbmeklhmajglaaDoorW.PrintMore
set_option linter.unusedVariables false
/-! ### Texts that are written line by line -/
/-- What is read of a text of whole lines, whatever stands behind. -/
def Acc (S : List UInt8) (f : Cfg) : Prop := ∀ R, linesF plain (lns (S ++ R)) = linesF f (lns R)
theorem acc_nil : Acc [] plain := fun R => rfl
theorem acc_line {S x : List UInt8} {f f' : Cfg} (h : Acc S f) (hx : 10 ∉ x) (hl : lineF f (wds x) = some f') : Acc (S ++ (x ++ [10])) f' := fun R => by
  rw [List.append_assoc, h, List.append_assoc, List.singleton_append, lns_cons x R hx]
  show (match lineF f (wds x) with | none => none | some f' => linesF f' (lns R)) = _
  rw [hl]
theorem acc_end {S : List UInt8} {f : Cfg} (h : Acc S f) : linesF plain (lns S) = some f := by
  have := h []
  rw [List.append_nil] at this
  rw [this]
  rfl
theorem acc_parse {S : List UInt8} {f : Cfg} (h : Acc S f) (hS : S.length ≤ 2000) (hf : okC f = true) : parseF S = (f, 0) := by
  rw [parseF_some' (by omega) (acc_end h), hf]
  rfl
theorem wds_one (x : List UInt8) (h0 : x ≠ []) (h : ∀ c ∈ x, sp c = false) : wds x = [x] := by
  have h1 := wa_many x [] [] h
  rw [List.append_nil, List.nil_append] at h1
  unfold wds
  rw [h1]
  unfold wa
  rw [if_neg h0]
theorem wds_two (x y : List UInt8) (hx : x ≠ []) (hx2 : ∀ c ∈ x, sp c = false) (hy : y ≠ []) (hy2 : ∀ c ∈ y, sp c = false) : wds (x ++ 32 :: y) = [x, y] := by
  unfold wds
  rw [wa_many x [] (32 :: y) hx2, List.nil_append]
  unfold wa
  rw [if_pos (by decide), if_neg hx]
  have := wds_one y hy hy2
  unfold wds at this
  rw [this]
def wd (b : Bool) : List UInt8 := if b then [111, 110] else [111, 102, 102]
theorem nm_facts (k : Nat) (hk : k < 9) : NM.getD (k + 1) [] ≠ [] ∧ (∀ c ∈ NM.getD (k + 1) [], sp c = false) ∧ (10 ∉ NM.getD (k + 1) []) ∧ fi (NM.getD (k + 1) []) NM 0 = ((k + 1 : Nat) : Int) ∧ (NM.getD (k + 1) []).length ≤ 5 := by
  have h : ∀ j : Fin 9, NM.getD (j.1 + 1) [] ≠ [] ∧ (∀ c ∈ NM.getD (j.1 + 1) [], sp c = false) ∧ (10 ∉ NM.getD (j.1 + 1) []) ∧ fi (NM.getD (j.1 + 1) []) NM 0 = ((j.1 + 1 : Nat) : Int) ∧ (NM.getD (j.1 + 1) []).length ≤ 5 := by decide
  exact h ⟨k, hk⟩
theorem line_on (f : Cfg) (k : Nat) (hk : k < 9) (b : Bool) : lineF f (wds (NM.getD (k + 1) [] ++ 32 :: wd b)) = some (setOn f (k + 1) b) ∧ 10 ∉ NM.getD (k + 1) [] ++ 32 :: wd b := by
  obtain ⟨h1, h2, h3, h4, _⟩ := nm_facts k hk
  constructor
  · rw [wds_two _ _ h1 h2 (by cases b <;> decide) (by cases b <;> decide), lineF_rule f _ _ (k + 1) h4 (by omega)]
    cases b
    · rw [if_pos (.inr rfl)]; rfl
    · rw [if_pos (.inl rfl)]; rfl
  · rw [List.mem_append, List.mem_cons]
    rintro (h | h | h)
    · exact h3 h
    · cases h
    · cases b <;> revert h <;> decide
def setB (f : Cfg) (n : Int) : Cfg := { f with b := n }
theorem line_ind (f : Cfg) (n : Nat) (h1 : 1 ≤ n) (h9 : n ≤ 9) : lineF f (wds ([105, 110, 100, 101, 110, 116, 32] ++ [UInt8.ofNat (48 + n)])) = some (setB f n) ∧ 10 ∉ [105, 110, 100, 101, 110, 116, 32] ++ [UInt8.ofNat (48 + n)] := by
  have h : ∀ j : Fin 10, 1 ≤ j.1 → (∀ c ∈ [UInt8.ofNat (48 + j.1)], sp c = false) ∧ numF [UInt8.ofNat (48 + j.1)] = some j.1 ∧ 10 ∉ [105, 110, 100, 101, 110, 116, 32] ++ [UInt8.ofNat (48 + j.1)] := by decide
  obtain ⟨g1, g2, g3⟩ := h ⟨n, by omega⟩ h1
  refine ⟨?_, g3⟩
  rw [show ([105, 110, 100, 101, 110, 116, 32] : List UInt8) ++ [UInt8.ofNat (48 + n)] = [105, 110, 100, 101, 110, 116] ++ 32 :: [UInt8.ofNat (48 + n)] from rfl]
  rw [wds_two _ _ (by decide) (by decide) (by simp) g1, lineF_num f _ _ (-1) (by decide) (by decide) 1 (by decide), g2]
  rfl
theorem ok_setOn (f : Cfg) (k : Nat) (b : Bool) : okC (setOn f k b) = okC f := rfl
theorem ok_setB (f : Cfg) (n : Int) (h : okC f = true) (h1 : 1 ≤ n) (h2 : n ≤ 9) : okC (setB f n) = true := by
  rw [okC_iff] at h ⊢
  unfold setB
  refine ⟨h.1, ⟨h1, ?_⟩, h.2.2⟩
  show n ≤ 10
  omega
theorem ok_plain : okC plain = true := by decide
theorem add_cat (t u : ByteArray) (h : t.size + u.size ≤ 9223372036854775807) : ∃ T : ByteArray, T.size = t.size + u.size ∧ T.data.toList = t.data.toList ++ u.data.toList ∧ ∀ w, (Op.stringOp .add t u).run Tryd.prog w = .ok (.string T) w :=
  ⟨t ++ u, ByteArray.size_append, by simp, fun w => run_string_add_sum w t u h⟩
/-- The cells of a row of truths. -/
def BoolRow (w : World) (a : Option Addr) (n : Nat) (l : Nat → Bool) : Prop := ∀ i, i < n → ∃ (b o : Nat), a = some ⟨b, o, none⟩ ∧ b < w.heap.size ∧ w.cell? ⟨b, o + i, none⟩ = some (.bool (l i))
theorem BoolRow.below {w W : World} {a : Option Addr} {n : Nat} {l : Nat → Bool} (h : BoolRow w a n l) (hB : Below w.heap.size w W) : BoolRow W a n l := fun i hi => by
  obtain ⟨b, o, h1, h2, h3⟩ := h i hi
  exact ⟨b, o, h1, Nat.lt_of_lt_of_le h2 hB.size, (hB.cell (p := ⟨b, o + i, none⟩) h2).trans h3⟩
end Go.Proofs.YtcbmeklhmajglaaDoor
end
section
namespace Go.Proofs.YtcbmeklhmajglaaDoor
open Go.RowKit Go.CfgLaw Go.Proofs.YtcbmeklhmajglaaDoorW.PrintWords Go.Proofs.YtcbmeklhmajglaaDoorW.PrintLast Go.Proofs.YtcbmeklhmajglaaDoorW.PrintMore
set_option linter.unusedVariables false
attribute [local go_sem] setCell_drewN alloc_drewN
attribute [local simp] setCell_drewN alloc_drewN
def IntRow (w : World) (a : Option Addr) (n : Nat) : Prop := ∀ i, i < n → ∃ (b o : Nat) (x : Int), a = some ⟨b, o, none⟩ ∧ b < w.heap.size ∧ w.cell? ⟨b, o + i, none⟩ = some (.int .i64 x)
theorem IntRow.below {w W : World} {a : Option Addr} {n : Nat} (h : IntRow w a n) (hB : Below w.heap.size w W) : IntRow W a n := fun i hi => by
  obtain ⟨b, o, x, h1, h2, h3⟩ := h i hi
  exact ⟨b, o, x, h1, Nat.lt_of_lt_of_le h2 hB.size, (hB.cell (p := ⟨b, o + i, none⟩) h2).trans h3⟩
theorem conv_one (w : World) (M : Nat) : (convert 37 9 (.slice (some ⟨w.heap.size, 0, none⟩) 1 1)).run Tryd.prog (w.alloc (.cells #[.int .u8 (M : Int)] 5)) = .ok (.string (ofL [UInt8.ofNat M])) (w.alloc (.cells #[.int .u8 (M : Int)] 5)) := by
  have hC : (Kd.int .u8).C (w.alloc (.cells #[.int .u8 (M : Int)] 5)) (some ⟨w.heap.size, 0, none⟩) 1 [(M : Int)] := by
    refine ⟨rfl, by omega, fun _ => ⟨_, rfl, fun j p hp => ⟨[.int .u8 p], rfl, rfl, fun i u hu => ?_⟩⟩⟩
    match j, hp with
    | 0, hp =>
      simp at hp
      subst hp
      match i, hu with
      | 0, hu =>
        simp at hu
        subst hu
        exact (cell_of_row (w.alloc (.cells #[.int .u8 (M : Int)] 5)) w.heap.size 0 _ 5 (0, 0) (heap_alloc_new w _)).trans rfl
  have h := Kd.C_string (P := Tryd.prog) (c := 1) Tryd.underlying37 Tryd.underlying5 Tryd.underlying9 hC
  have e : strOfNums [(M : Int)] = ofL [UInt8.ofNat M] := by simp [strOfNums, ofL]
  rw [e] at h
  exact h
theorem tab9_at (n : Nat) (hn : n < 9) : (#[Value.string { data := #[116, 114, 97, 105, 108] }, Value.string { data := #[108, 111, 110, 103] }, Value.string { data := #[115, 116, 101, 112] }, Value.string { data := #[101, 109, 112, 116, 121] }, Value.string { data := #[109, 97, 114, 107] }, Value.string { data := #[104, 97, 115, 104] }, Value.string { data := #[99, 111, 109, 109, 97] }, Value.string { data := #[116, 119, 105, 99, 101] }, Value.string { data := #[101, 110, 100] }] : Array Value)[n]? = some (.string (ofL (NM.getD (n + 1) []))) ∧ (∀ h, ([Value.string { data := #[116, 114, 97, 105, 108] }, Value.string { data := #[108, 111, 110, 103] }, Value.string { data := #[115, 116, 101, 112] }, Value.string { data := #[101, 109, 112, 116, 121] }, Value.string { data := #[109, 97, 114, 107] }, Value.string { data := #[104, 97, 115, 104] }, Value.string { data := #[99, 111, 109, 109, 97] }, Value.string { data := #[116, 119, 105, 99, 101] }, Value.string { data := #[101, 110, 100] }] : List Value)[n]'h = .string (ofL (NM.getD (n + 1) []))) := by
  match n, hn with
  | 0, _ => exact ⟨rfl, fun _ => rfl⟩
  | 1, _ => exact ⟨rfl, fun _ => rfl⟩
  | 2, _ => exact ⟨rfl, fun _ => rfl⟩
  | 3, _ => exact ⟨rfl, fun _ => rfl⟩
  | 4, _ => exact ⟨rfl, fun _ => rfl⟩
  | 5, _ => exact ⟨rfl, fun _ => rfl⟩
  | 6, _ => exact ⟨rfl, fun _ => rfl⟩
  | 7, _ => exact ⟨rfl, fun _ => rfl⟩
  | 8, _ => exact ⟨rfl, fun _ => rfl⟩
  | m + 9, h => exact absurd h (by omega)
set_option maxRecDepth 100000 in
set_option maxHeartbeats 8000000 in
theorem last4 (rule : Int) (A1 : Option Addr) (n1 c1 : Nat) (l : Nat → Bool) (A2 : Option Addr) (n2 c2 : Nat) (m : Int) (w : World) (hm : w.cell? ⟨0, 0, none⟩ = some (.int .i64 m)) (hBR : BoolRow w A1 n1 l) (hI : IntRow w A2 n2) :
    Calls Tryd.prog 4 #[.int .i64 rule, .slice A1 n1 c1, .slice A2 n2 c2] w fun e w' => e = .returned (.bool true) ∧ Below w.heap.size w w' := by
  by_cases hn : 20 < n1
  · have hnz : (20 : Int) < n1 := by omega
    go_enter Tryd.func4, Tryd.ntmps4
    go_wp2_with (first | (go_at_call 7; (with_reducible refine (known7 _).mono ?_); rintro e w1 ⟨rfl, hB1⟩) | fail)
    go_ret
    exact ⟨rfl, hB1⟩
  · have hnz : ¬ (20 : Int) < n1 := by omega
    obtain ⟨k, hk, c8⟩ := within8 rule 9 (by decide) (by decide)
    replace c8 : ∀ w, Calls Tryd.prog 8 #[.int .i64 rule, .int .i64 9] w fun e w' => e = .returned (.int .i64 k) ∧ w' = w := c8
    obtain ⟨ht1, ht2⟩ := tab9_at k hk
    have hkz : (k : Int) < 9 := by omega
    have hlon := line_on
    have HLN := Aside0.mk (fun f b => line_on f k hk b)
    obtain ⟨_, _, _, _, hU5⟩ := nm_facts k hk
    obtain ⟨U, hU⟩ : ∃ U, NM.getD (k + 1) [] = U := ⟨_, rfl⟩
    rw [hU] at ht1 ht2 hU5
    have HU := Aside0.mk hU
    obtain ⟨u, hu⟩ : ∃ u, ofL U = u := ⟨_, rfl⟩
    have hus : u.size = U.length := by rw [← hu]; simp [ofL, ByteArray.size]
    have hud : u.data.toList = U := by rw [← hu]; simp [ofL]
    rw [hu] at ht1 ht2
    have HUD := Aside0.mk hud
    clear hu hU hud hlon
    have HI := Aside0.mk (And.intro hI hBR)
    clear hI hBR
    go_enter Tryd.func4, Tryd.ntmps4
    go_wp2_with (first
      | (go_at_call 7; (with_reducible refine (known7 _).mono ?_); rintro e w1 ⟨rfl, hB1⟩)
      | (go_at_call 8; (with_reducible refine (c8 _).mono ?_); rintro e w' ⟨rfl, rfl⟩)
      | (go_at_call 11; (with_reducible refine (plain11 _).mono ?_); rintro e w2 ⟨rfl, hB2⟩)
      | fail)
    have hB3 : Below w.heap.size w w2 := (hB1.alloc hB1.size _).trans (hB2.mono (by have := hB1.size; simp; omega))
    have hqw : w.heap.size ≤ w2.heap.size := hB3.size
    clear hB2 ht1 ht2
    go_loopw [9, 10] (fun v9 v10 wr => ∃ (s : ByteArray) (i : Nat) (f : Cfg), v9 = .string s ∧ v10 = .int .i64 i ∧ i ≤ n1 ∧ s.size ≤ 20 * i ∧ Acc s.data.toList f ∧ okC f = true ∧ wr.heap[w2.heap.size]? = some (.cells (cells f) 28) ∧ Below w.heap.size w wr) (fun _ v10 _ => n1 - (intOf v10).toNat)
    case atStart => exact ⟨⟨#[]⟩, 0, plain, rfl, rfl, Nat.zero_le _, by decide, acc_nil, ok_plain, heap_alloc_new w2 _, hB3.alloc hqw _⟩
    case round =>
      obtain ⟨s, i, f, rfl, rfl, hi, hs, hacc, hok, hq, hB⟩ := hrel
      by_cases hlt : i < n1
      · have hltz : (i : Int) < n1 := by omega
        obtain ⟨b, o, rfl, hb, hx0⟩ := HI.out.2 i hlt
        have hx := (hB.cell (p := ⟨b, o + i, none⟩) hb).trans hx0
        have hbq : w2.heap.size ≠ b := by omega
        have hbl : b < wr.heap.size := by have := hB.size; omega
        obtain ⟨K, hK⟩ : ∃ K, k + 1 = K := ⟨_, rfl⟩
        have hc2 : wr.cell? ⟨w2.heap.size, K, none⟩ = some (.bool (f.on K)) := (cell_of_row wr w2.heap.size K _ 28 (0, 0) hq).trans (cells_on f K (by omega))
        have hf2 := froz hq K
        have hk1 : (K : Int) < 10 := by omega
        have hk0 : (0 : Int) ≤ (K : Int) := by omega
        have hwr : IntKind.i64.wrap (1 + (k : Int)) = (K : Int) := by
          unfold IntKind.wrap
          simp [IntKind.signed, IntKind.bits]
          omega
        obtain ⟨x, hlx⟩ : ∃ x, l i = x := ⟨_, rfl⟩
        rw [hlx] at hx
        obtain ⟨T1, s1, d1, e1⟩ := add_cat s u (by omega)
        obtain ⟨T2, s2, d2, e2⟩ := add_cat T1 ⟨#[32]⟩ (by rw [s1]; show _ + 1 ≤ _; omega)
        have hwl : (ofL (wd x)).size ≤ 3 := by cases x <;> decide
        have q1 : (⟨#[32]⟩ : ByteArray).size = 1 := rfl
        have q2 : (⟨#[10]⟩ : ByteArray).size = 1 := rfl
        obtain ⟨T3, s3, d3, e3⟩ := add_cat T2 (ofL (wd x)) (by rw [s2, s1]; omega)
        obtain ⟨T4, s4, d4, e4⟩ := add_cat T3 ⟨#[10]⟩ (by rw [s3, s2, s1]; omega)
        have hT4 : T4.size ≤ 20 * (i + 1) := by rw [s4, s3, s2, s1]; omega
        have hd4 : T4.data.toList = s.data.toList ++ ((U ++ 32 :: wd x) ++ [10]) := by
          rw [d4, d3, d2, d1, HUD.out]
          simp [ofL]
        have hl := HLN.out f x
        rw [HU.out, hK] at hl
        have hacc2 : Acc T4.data.toList (setOn f K x) := by rw [hd4]; exact acc_line hacc hl.2 hl.1
        have HA := Aside0.mk (And.intro hT4 (And.intro hacc2 (And.intro hq hok)))
        have HK := Aside0.mk hK
        clear hK s1 s2 s3 s4 d1 d2 d3 d4 hd4 hl hacc2 hacc hT4 hq hok hwl hx0 hlx
        cases x
        · replace e3 : ∀ w, (Op.stringOp .add T2 { data := #[111, 102, 102] }).run Tryd.prog w = .ok (.string T3) w := e3
          go_wp2
          go_region_held3 (fun V => V.cell? ⟨b, o + i, none⟩ = some (.bool false)) (first | exact hx | exact (World.cell?_of_block (Below.heap_setCell _ _ _ _ (Ne.symm hbq))).trans hx | fail) (first
            | (go_at_call 8; (with_reducible refine (c8 _).mono ?_); rintro e w' ⟨rfl, rfl⟩)
            | fail)
          go_wp2
          go_roundw
          case rel => exact ⟨T4, i + 1, setOn f K false, rfl, by simp, by omega, HA.out.1, HA.out.2.1, HA.out.2.2.2, by show (wr.setCell _ _).heap[_]? = _; rw [heap_set_at HA.out.2.2.1 K _, cells_setOn f K (by omega)], (below_set hB w2.heap.size K _ hqw).drew⟩
          case measure => simp only [intOf]; omega
        · replace e3 : ∀ w, (Op.stringOp .add T2 { data := #[111, 110] }).run Tryd.prog w = .ok (.string T3) w := e3
          go_wp2
          go_region_held3 (fun V => V.cell? ⟨b, o + i, none⟩ = some (.bool true)) (first | exact hx | exact (World.cell?_of_block (Below.heap_setCell _ _ _ _ (Ne.symm hbq))).trans hx | fail) (first
            | (go_at_call 8; (with_reducible refine (c8 _).mono ?_); rintro e w' ⟨rfl, rfl⟩)
            | fail)
          go_wp2
          go_roundw
          case rel => exact ⟨T4, i + 1, setOn f K true, rfl, by simp, by omega, HA.out.1, HA.out.2.1, HA.out.2.2.2, by show (wr.setCell _ _).heap[_]? = _; rw [heap_set_at HA.out.2.2.1 K _, cells_setOn f K (by omega)], (below_set hB w2.heap.size K _ hqw).drew⟩
          case measure => simp only [intOf]; omega
      · have hmB : ∀ V : World, Below w.heap.size w V → V.cell? ⟨0, 0, none⟩ = some (.int .i64 m) := fun V hV => (hV.cell (p := ⟨0, 0, none⟩) (lt_of_cell hm)).trans hm
        have HM := Aside0.mk hmB
        have hltz : ¬ (i : Int) < n1 := by omega
        have hs4 : s.size ≤ 400 := by omega
        have HX := Aside0.mk (And.intro hs4 (And.intro hacc (And.intro hok (And.intro hq hB))))
        clear hmB hs4 hacc hok hq hs
        go_wp2
        have HX2 := HX.out
        clear HX
        generalize wr = W0 at *
        go_loopw [9, 12] (fun v9 v12 wr => ∃ (s : ByteArray) (i : Nat) (f : Cfg), v9 = .string s ∧ v12 = .int .i64 i ∧ i ≤ n2 ∧ i ≤ 10 ∧ s.size ≤ 400 + 20 * i ∧ Acc s.data.toList f ∧ okC f = true ∧ wr.heap[w2.heap.size]? = some (.cells (cells f) 28) ∧ Below w.heap.size w wr) (fun _ v12 _ => n2 - (intOf v12).toNat)
        case atStart => exact ⟨s, 0, f, rfl, rfl, Nat.zero_le _, by omega, HX2.1, HX2.2.1, HX2.2.2.1, HX2.2.2.2.1, HX2.2.2.2.2⟩
        case round =>
          obtain ⟨s, i, f, rfl, rfl, hi, hi2, hs, hacc, hok, hq, hB⟩ := hrel
          clear HX2
          by_cases hlt : i < n2 ∧ i < 10
          · obtain ⟨h1, h2⟩ := hlt
            have h1z : (i : Int) < n2 := by omega
            have h2z : (i : Int) < 10 := by omega
            obtain ⟨b, o, x, rfl, hb, hx0⟩ := HI.out.1 i h1
            have hx := (hB.cell (p := ⟨b, o + i, none⟩) hb).trans hx0
            obtain ⟨k2, hk2, d8⟩ := within8 x 9 (by decide) (by decide)
            replace d8 : ∀ w, Calls Tryd.prog 8 #[.int .i64 x, .int .i64 9] w fun e w' => e = .returned (.int .i64 k2) ∧ w' = w := d8
            obtain ⟨N, hN⟩ : ∃ N, k2 + 1 = N := ⟨_, rfl⟩
            obtain ⟨M, hM⟩ : ∃ M, 48 + N = M := ⟨_, rfl⟩
            have hwr1 : IntKind.i64.wrap (1 + (k2 : Int)) = (N : Int) := by
              unfold IntKind.wrap
              simp [IntKind.signed, IntKind.bits]
              omega
            have hwr2 : IntKind.i64.wrap (48 + (N : Int)) = (M : Int) := by
              unfold IntKind.wrap
              simp [IntKind.signed, IntKind.bits]
              omega
            have hwr3 : IntKind.u8.wrap (M : Int) = (M : Int) := by
              unfold IntKind.wrap
              simp [IntKind.signed, IntKind.bits]
              omega
            have hli := line_ind f N (by omega) (by omega)
            rw [hM] at hli
            have hcv := conv_one wr M
            obtain ⟨u2, hu2⟩ : ∃ u2, ofL [UInt8.ofNat M] = u2 := ⟨_, rfl⟩
            have us : u2.size = 1 := by rw [← hu2]; rfl
            have ud : u2.data.toList = [UInt8.ofNat M] := by rw [← hu2]; rfl
            rw [hu2] at hcv
            have q1 : ({ data := #[105, 110, 100, 101, 110, 116, 32] } : ByteArray).size = 7 := rfl
            have q2 : (⟨#[10]⟩ : ByteArray).size = 1 := rfl
            obtain ⟨T1, s1, d1, e1⟩ := add_cat s { data := #[105, 110, 100, 101, 110, 116, 32] } (by omega)
            obtain ⟨T2, s2, d2, e2⟩ := add_cat T1 u2 (by rw [s1]; omega)
            obtain ⟨T3, s3, d3, e3⟩ := add_cat T2 ⟨#[10]⟩ (by rw [s2, s1]; omega)
            have hT3 : T3.size ≤ 400 + 20 * (i + 1) := by rw [s3, s2, s1]; omega
            have hd3 : T3.data.toList = s.data.toList ++ (([105, 110, 100, 101, 110, 116, 32] ++ [UInt8.ofNat M]) ++ [10]) := by
              rw [d3, d2, d1, ud]
              simp
            have hacc2 : Acc T3.data.toList (setB f N) := by rw [hd3]; exact acc_line hacc hli.2 hli.1
            have hok2 := ok_setB f N hok (by omega) (by omega)
            have hc2 : ∀ o, (wr.alloc o).cell? ⟨w2.heap.size, 11, none⟩ = some (.int .i64 f.b) := fun o => al_cell o (cell_of_row wr w2.heap.size 11 _ 28 (0, 0) hq)
            have hf2 : ∀ o, (wr.alloc o).frozen? ⟨w2.heap.size, 11, none⟩ = false := fun o => froz (heap_al hq) 11
            have HA := Aside0.mk (And.intro hT3 (And.intro hacc2 (And.intro hq hok2)))
            clear s1 s2 s3 d1 d2 d3 hd3 hli hacc2 hacc hT3 hq hok hok2 hx0 hu2 ud hN hM
            go_wp2_with (first
              | (go_at_call 8; (with_reducible refine (d8 _).mono ?_); rintro e w' ⟨rfl, rfl⟩)
              | fail)
            go_roundw
            case rel => exact ⟨T3, i + 1, setB f N, rfl, by simp, by omega, by omega, HA.out.1, HA.out.2.1, HA.out.2.2.2, by rw [heap_set_at (heap_al HA.out.2.2.1) 11 _]; rfl, below_set (hB.alloc hB.size _) w2.heap.size 11 _ hqw⟩
            case measure => simp only [intOf]; omega
          · have h9 := parse9 s (by omega) m wr (HM.out wr hB)
            have hsl : s.data.toList.length ≤ 2000 := by
              have : s.data.toList.length = s.size := by simp
              omega
            rw [acc_parse hacc hsl hok] at h9
            obtain ⟨on, ca, cb, cc, cd⟩ := f
            have heq := eq28 ⟨on, ca, cb, cc, cd⟩
            simp only [cv, cells] at h9 heq hq
            clear hacc hok
            rcases (show ¬ (i : Int) < n2 ∨ ((i : Int) < n2 ∧ ¬ (i : Int) < 10) by omega) with h1 | ⟨h1, h2⟩
            · go_wp2_with (first
                | (go_at_call 9; (with_reducible refine h9.mono ?_); rintro e w3 ⟨rfl, hB3'⟩; have k3 := keepb hB3' hq; have d3 := fun o => cellrow (heap_al (o := o) k3))
                | fail)
              go_ret
              exact ⟨rfl, (belK hB hB3').alloc (belK hB hB3').size _⟩
            · go_wp2_with (first
                | (go_at_call 9; (with_reducible refine h9.mono ?_); rintro e w3 ⟨rfl, hB3'⟩; have k3 := keepb hB3' hq; have d3 := fun o => cellrow (heap_al (o := o) k3))
                | fail)
              go_ret
              exact ⟨rfl, (belK hB hB3').alloc (belK hB hB3').size _⟩
end Go.Proofs.YtcbmeklhmajglaaDoor
end
section
namespace Go.Proofs.YtcbmeklhmajglaaDoor
open Go.ChangeShapes Go.WideShapes Go.ChangeAt Go.RowKit Go.Deep
open Go.ChangeMaps (open_string shut_string)
open Go.Proofs.YtcbmeklhmajglaaDoorW.PrintWords
set_option linter.unusedVariables false
theorem intRow_of (x : Addr) (n : Nat) (zs : List Int) (w : World) (hl : n ≤ zs.length) (hc : ∀ i, i < zs.length → w.cell? (x.add i) = some (.int .i64 (zs.getD i 0))) : IntRow w (some x) n := by
  intro i hi
  obtain ⟨b, o, s⟩ := x
  cases s with
  | some s =>
    exfalso
    have h := hc 0 (by omega)
    unfold World.cell? at h
    split at h
    · simp [Addr.add] at h
    · cases h
  | none =>
    have e : (⟨b, o, none⟩ : Addr).add i = ⟨b, o + i, none⟩ := by
      by_cases h0 : i = 0
      · subst h0; rfl
      · simp [Addr.add, h0]
    have h := hc i (by omega)
    rw [e] at h
    exact ⟨b, o, zs.getD i 0, rfl, lt_of_cell h, h⟩
theorem boolRow_of (x : Addr) (n : Nat) (B : Nat → Bool) (w : World) (m : Nat) (hl : n ≤ m) (hc : ∀ i, i < m → w.cell? (x.add i) = some (.bool (B i))) : BoolRow w (some x) n B := by
  intro i hi
  obtain ⟨b, o, s⟩ := x
  cases s with
  | some s =>
    exfalso
    have h := hc 0 (by omega)
    unfold World.cell? at h
    split at h
    · simp [Addr.add] at h
    · cases h
  | none =>
    have e : (⟨b, o, none⟩ : Addr).add i = ⟨b, o + i, none⟩ := by
      by_cases h0 : i = 0
      · subst h0; rfl
      · simp [Addr.add, h0]
    have h := hc i (by omega)
    rw [e] at h
    exact ⟨b, o, rfl, lt_of_cell h, h⟩
namespace configLast
theorem own : ownKnob Tryd.prog.godebug = none := by kernel_rfl
theorem laidOut : laidOutB Tryd.prog = true := by kernel_rfl
theorem maxLenAt {w : World} (h : w.ShapedOpen Tryd.prog) : ∃ m, w.cell? ⟨0, 0, none⟩ = some (.int .i64 m) :=
  Go.Proofs.cell_of_shapedOpen_int (zero := #[.int .i64 0]) (t := 3) h (of_decide_eq_true (by kernel_rfl)) (by kernel_rfl) rfl (by kernel_rfl) (by kernel_rfl) Tryd.underlying3
set_option maxRecDepth 100000 in
theorem lifted (os : Os) (started : os.Started) (H : Type) (enc : TypeId × Value → H) :
    ReturnsInHanded {} Tryd.checked os 4 .any (fun w args => (Rows.configLastSpec.pre enc Tryd.prog Tryd.f4 Rows.configLastRow.domain false w args ∧ laidMetH Tryd.prog Rows.configLastRow.laid w) ∧ sizedMet enc Tryd.prog Tryd.f4 (OpenSpec.ofChange Rows.configLastSpec) false w args)
      (Rows.configLastSpec.post enc Tryd.prog Tryd.f4 false true false false) := by
  refine returnsInHanded_of_calls own started (by kernel_rfl)
    (ChangeSpec.witness_shaped (enc := enc) (C := Tryd.checked) (os := os) (X := fun w _ => laidMetH Tryd.prog Rows.configLastRow.laid w) false (World.laidAll Tryd.prog os Rows.configLastRow.laid) #[.int .i64 0, .slice none 0 0, .slice none 0 0] 8 (World.laidAll_os _ _ _)
      (World.shaped_of_ZipB (by kernel_rfl) (by kernel_rfl)) (by kernel_rfl) (by kernel_rfl) (by kernel_rfl)
      (by rw [MakeChecks.laidMetH_plain _ _ _ (by kernel_rfl)]; exact laidMet_laidAll _ (by kernel_rfl) (by kernel_rfl))) ?_
  intro w0 tape inp _ hshape _ hok hpre _
  obtain ⟨_, _, _, fn', hfn', _, _, _, _, hval1⟩ := hok
  obtain rfl : fn' = Tryd.f4 := Option.some.inj (hfn'.symm.trans Tryd.func4)
  obtain ⟨⟨⟨ds, gs, before, hw1, hc⟩, hL0⟩, hz0⟩ := hpre
  have hW0 := DataW.Whole.of_heap (w' := w0.forCall tape inp) (by rfl) hw1
  obtain ⟨m, hm⟩ := maxLenAt hshape
  clear hw1 hL0 hz0 hshape
  generalize w0.heap.size = base at hval1
  generalize w0.forCall tape inp = W at *
  generalize inp.args = args at *
  suffices hS : Calls Tryd.prog 4 args W fun e W' => ∃ v, e = .returned v ∧ Rows.configLastSpec.post enc Tryd.prog Tryd.f4 false true false false W args v W' by
    refine hS.mono fun e W' ⟨v, he, hp⟩ => ?_
    subst he
    exact ChangeSpec.post_blind hp
  have hval : ∀ (j : Nat) t v, Tryd.f4.params[j]? = some t → args[j]? = some v → Value.okWide Tryd.prog W .any base t v := hval1
  have hW' := hW0
  obtain ⟨p, q, hA0, hV, rfl, _, _⟩ := hW0
  have hA : DataW.TrodAll enc Tryd.prog W 0 (fun _ => true) true Tryd.f4.params.toList args.toList ds p := hA0
  rw [Tryd.params4] at hA hval
  obtain ⟨v0, vs0, d0, ds0, p0, q0, hargs, rfl, rfl, h0, r0⟩ := trodAll_cons hA
  obtain ⟨v1, vs1, d1, ds1, p1, q1, rfl, rfl, rfl, h1, r1⟩ := trodAll_cons r0
  obtain ⟨v2, vs2, d2, ds2, p2, q2, rfl, rfl, rfl, h2, r2⟩ := trodAll_cons r1
  obtain ⟨rfl, rfl, rfl⟩ := trodAll_nil r2
  obtain rfl : args = #[v0, v1, v2] := by cases args; simp_all
  obtain ⟨rfl, rfl⟩ := trodVars_none hV
  obtain ⟨a0, rfl, rfl, rfl, y0⟩ := open_int Tryd.underlying3 (hval 0 3 v0 rfl rfl) h0
  obtain ⟨a1, len1, cap1, rfl⟩ := okWide_slice Tryd.underlying35 (hval 1 35 v1 rfl rfl)
  have k1 := h1
  have lt1 : ∀ x ∈ p1, x.block < W.heap.size := by obtain ⟨m, hm⟩ := k1; exact DataW.trod_lt m _ _ _ hm
  obtain ⟨B1, w1⟩ : ∃ B : Nat → Bool, BoolRow W a1 len1 B := by
    obtain ⟨fuel, hf⟩ := h1
    rcases open_bools Tryd.underlying35 Tryd.underlying4 (by kernel_rfl) hf with ⟨hcs, _⟩ | ⟨x, l, c, B, hcs, _, hl, hm, _, hcell⟩
    · simp [Value.cells] at hcs
      obtain ⟨rfl, rfl, rfl⟩ := hcs
      exact ⟨fun _ => false, fun i hi => absurd hi (Nat.not_lt_zero i)⟩
    · simp [Value.cells] at hcs
      obtain ⟨rfl, rfl, rfl⟩ := hcs
      exact ⟨B, boolRow_of x _ B W _ hl hcell⟩
  obtain ⟨a2, len2, cap2, rfl⟩ := okWide_slice Tryd.underlying22 (hval 2 22 v2 rfl rfl)
  have k2 := h2
  have lt2 : ∀ x ∈ p2, x.block < W.heap.size := by obtain ⟨m, hm⟩ := k2; exact DataW.trod_lt m _ _ _ hm
  have w2 : IntRow W a2 len2 := by
    obtain ⟨fuel, hf⟩ := h2
    rcases open_ints Tryd.underlying22 Tryd.underlying3 (by kernel_rfl) hf with ⟨hcs, _⟩ | ⟨x, l, c, zs, hcs, _, hl, hm, hz, _, hcell, hwz⟩
    · simp [Value.cells] at hcs
      obtain ⟨rfl, rfl, rfl⟩ := hcs
      exact fun i hi => absurd hi (Nat.not_lt_zero i)
    · simp [Value.cells] at hcs
      obtain ⟨rfl, rfl, rfl⟩ := hcs
      exact intRow_of x _ zs W (by rw [hz]; simpa using hl) hcell
  clear hA0 hval1
  refine (last4 a0 a1 len1 cap1 B1 a2 len2 cap2 m W hm w1 w2).mono fun e W' ⟨he, bel⟩ => ?_
  subst he
  exact ⟨_, rfl, _, _, _, [], _, [], hW', trodAll_mk1 (shut_bool Tryd.underlying4 _), (trodAll_cons_mk (shut_int Tryd.underlying3 y0) (trodAll_cons_mk (Below.trod laidOut (by kernel_rfl) (of_decide_eq_true (by kernel_rfl)) k1 bel lt1) (trodAll_cons_mk (Below.trod laidOut (by kernel_rfl) (of_decide_eq_true (by kernel_rfl)) k2 bel lt2) trodAll_mk0))), rfl, bel.frame _, fun h => by cases h⟩
theorem over : Rows.configLastRow.holds Tryd.pinned (OpenSpec.ofChange Rows.configLastSpec) :=
  OpenClaim.holds_of_wide 4 Tryd.f4 rfl rfl rfl rfl rfl rfl rfl ⟨rfl, rfl, rfl, rfl, rfl⟩ rfl rfl rfl rfl rfl (by kernel_rfl) Tryd.func4 (by kernel_rfl)
    (of_decide_eq_true (by kernel_rfl)) (by unfold Func.isWrapper; first | (rw [if_pos (by decide +kernel)]; kernel_rfl) | (rw [if_neg (by decide +kernel)]; exact ⟨rfl, rfl⟩))
    (fun os started H enc _ => lifted os started H enc)
end configLast
/-- The card of ConfigLast holds. -/
theorem configLastCard_holds : Rows.ConfigLastCardSaid :=
  Claim7.holds_tied_plain_at .later [] [.data, .data, .data, .data, .sentinel, .sentinel, .pinned] true (true, "f46b92663623f6b3f39fdc60e263bf241bf09af023ece41d3d974f55b14c8549") true
    configLast.over (fun _ h => by cases h) (by kernel_rfl) (fun _ h => by cases h) configLast_row_tie rfl ⟨rfl, rfl⟩ (by kernel_rfl) rfl
    (fun f fn hf hfn => by
      obtain rfl : f = 4 := Option.some.inj ((show Tryd.prog.funcNamed "corrector/correctorlaw18.ConfigLast" = some 4 by kernel_rfl).symm.trans hf) |>.symm
      obtain rfl : fn = Tryd.f4 := (Option.some.inj (Tryd.func4.symm.trans hfn)).symm
      exact ⟨by kernel_rfl, fun j t ht => by
        rw [Tryd.params4] at ht
        have hm : t ∈ [3, 35, 22] := by simpa using Array.mem_of_getElem? ht
        have hall : ([3, 35, 22].all fun u => !Tryd.prog.wantsStandIn u) = true := by kernel_rfl
        exact (show Tryd.prog.wantsStandIn t = false by simpa using List.all_eq_true.1 hall t hm)⟩)
    (by kernel_rfl)
#print axioms configLastCard_holds
end Go.Proofs.YtcbmeklhmajglaaDoor
end
