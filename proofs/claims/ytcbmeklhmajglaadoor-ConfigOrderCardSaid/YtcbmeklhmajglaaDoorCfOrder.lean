/- A part of the proof: what the functions of the program compute, shown once each; the last text holds the statement. No condition beyond those of the statement. -/
import Derived.Test.YtcbmeklhmajglaaDoorCfD
import Derived.Test.YtcbmeklhmajglaaDoorCfY
import Derived.Test.YtcbmeklhmajglaaDoorRows
import Derived.Test.YtcbmeklhmajglaaDoorTie
import Derived.Test.YtcbmeklhmajglaaDoorCards
import Derived.WalkKit
import Derived.ProofKit
import Derived.OpenShut
import Derived.ChangeOld
import Derived.ChangeMaps5
import Derived.Below
import Derived.SizedLaws
import Derived.HandedShaped
import Derived.LaidMore
import Derived.Lay
import Derived.SevenTiedAt
import Derived.Stop.Joined
import Derived.Deep.Grids
set_option linter.unusedSimpArgs false
set_option linter.unusedVariables false
section
namespace Go.Proofs.YtcbmeklhmajglaaDoor
open Go.RowKit Go.CfgLaw Go.Proofs.YtcbmeklhmajglaaDoorW.PrintWords Go.Proofs.YtcbmeklhmajglaaDoorW.PrintLast Go.Proofs.YtcbmeklhmajglaaDoorW.PrintMore
set_option linter.unusedVariables false
/-! ### Texts that are written line by line -/
/-- What is read of a text of whole lines, whatever stands behind. -/
def Acc (S : List UInt8) (f : Cfg) : Prop := ∀ R, linesF plain (lns (S ++ R)) = linesF f (lns R)
theorem acc_nil : Acc [] plain := fun R => rfl
theorem acc_line {S x : List UInt8} {f f' : Cfg} (h : Acc S f) (hx : 10 ∉ x) (hl : lineF f (wds x) = some f') : Acc (S ++ (x ++ [10])) f' := fun R => by
  rw [List.append_assoc, h, List.append_assoc, List.singleton_append, lns_cons x R hx]
  show (match lineF f (wds x) with | none => none | some f' => linesF f' (lns R)) = _
  rw [hl]
theorem acc_end {S : List UInt8} {f : Cfg} (h : Acc S f) : linesF plain (lns S) = some f := by
  have := h []
  rw [List.append_nil] at this
  rw [this]
  rfl
theorem acc_parse {S : List UInt8} {f : Cfg} (h : Acc S f) (hS : S.length ≤ 2000) (hf : okC f = true) : parseF S = (f, 0) := by
  rw [parseF_some' (by omega) (acc_end h), hf]
  rfl
theorem wds_one (x : List UInt8) (h0 : x ≠ []) (h : ∀ c ∈ x, sp c = false) : wds x = [x] := by
  have h1 := wa_many x [] [] h
  rw [List.append_nil, List.nil_append] at h1
  unfold wds
  rw [h1]
  unfold wa
  rw [if_neg h0]
theorem wds_two (x y : List UInt8) (hx : x ≠ []) (hx2 : ∀ c ∈ x, sp c = false) (hy : y ≠ []) (hy2 : ∀ c ∈ y, sp c = false) : wds (x ++ 32 :: y) = [x, y] := by
  unfold wds
  rw [wa_many x [] (32 :: y) hx2, List.nil_append]
  unfold wa
  rw [if_pos (by decide), if_neg hx]
  have := wds_one y hy hy2
  unfold wds at this
  rw [this]
def wd (b : Bool) : List UInt8 := if b then [111, 110] else [111, 102, 102]
theorem nm_facts (k : Nat) (hk : k < 9) : NM.getD (k + 1) [] ≠ [] ∧ (∀ c ∈ NM.getD (k + 1) [], sp c = false) ∧ (10 ∉ NM.getD (k + 1) []) ∧ fi (NM.getD (k + 1) []) NM 0 = ((k + 1 : Nat) : Int) ∧ (NM.getD (k + 1) []).length ≤ 5 := by
  have h : ∀ j : Fin 9, NM.getD (j.1 + 1) [] ≠ [] ∧ (∀ c ∈ NM.getD (j.1 + 1) [], sp c = false) ∧ (10 ∉ NM.getD (j.1 + 1) []) ∧ fi (NM.getD (j.1 + 1) []) NM 0 = ((j.1 + 1 : Nat) : Int) ∧ (NM.getD (j.1 + 1) []).length ≤ 5 := by decide
  exact h ⟨k, hk⟩
theorem line_on (f : Cfg) (k : Nat) (hk : k < 9) (b : Bool) : lineF f (wds (NM.getD (k + 1) [] ++ 32 :: wd b)) = some (setOn f (k + 1) b) ∧ 10 ∉ NM.getD (k + 1) [] ++ 32 :: wd b := by
  obtain ⟨h1, h2, h3, h4, _⟩ := nm_facts k hk
  constructor
  · rw [wds_two _ _ h1 h2 (by cases b <;> decide) (by cases b <;> decide), lineF_rule f _ _ (k + 1) h4 (by omega)]
    cases b
    · rw [if_pos (.inr rfl)]; rfl
    · rw [if_pos (.inl rfl)]; rfl
  · rw [List.mem_append, List.mem_cons]
    rintro (h | h | h)
    · exact h3 h
    · cases h
    · cases b <;> revert h <;> decide
def setB (f : Cfg) (n : Int) : Cfg := { f with b := n }
theorem line_ind (f : Cfg) (n : Nat) (h1 : 1 ≤ n) (h9 : n ≤ 9) : lineF f (wds ([105, 110, 100, 101, 110, 116, 32] ++ [UInt8.ofNat (48 + n)])) = some (setB f n) ∧ 10 ∉ [105, 110, 100, 101, 110, 116, 32] ++ [UInt8.ofNat (48 + n)] := by
  have h : ∀ j : Fin 10, 1 ≤ j.1 → (∀ c ∈ [UInt8.ofNat (48 + j.1)], sp c = false) ∧ numF [UInt8.ofNat (48 + j.1)] = some j.1 ∧ 10 ∉ [105, 110, 100, 101, 110, 116, 32] ++ [UInt8.ofNat (48 + j.1)] := by decide
  obtain ⟨g1, g2, g3⟩ := h ⟨n, by omega⟩ h1
  refine ⟨?_, g3⟩
  rw [show ([105, 110, 100, 101, 110, 116, 32] : List UInt8) ++ [UInt8.ofNat (48 + n)] = [105, 110, 100, 101, 110, 116] ++ 32 :: [UInt8.ofNat (48 + n)] from rfl]
  rw [wds_two _ _ (by decide) (by decide) (by simp) g1, lineF_num f _ _ (-1) (by decide) (by decide) 1 (by decide), g2]
  rfl
theorem ok_setOn (f : Cfg) (k : Nat) (b : Bool) : okC (setOn f k b) = okC f := rfl
theorem ok_setB (f : Cfg) (n : Int) (h : okC f = true) (h1 : 1 ≤ n) (h2 : n ≤ 9) : okC (setB f n) = true := by
  rw [okC_iff] at h ⊢
  unfold setB
  refine ⟨h.1, ⟨h1, ?_⟩, h.2.2⟩
  show n ≤ 10
  omega
theorem ok_plain : okC plain = true := by decide
theorem add_cat (t u : ByteArray) (h : t.size + u.size ≤ 9223372036854775807) : ∃ T : ByteArray, T.size = t.size + u.size ∧ T.data.toList = t.data.toList ++ u.data.toList ∧ ∀ w, (Op.stringOp .add t u).run Tryd.prog w = .ok (.string T) w :=
  ⟨t ++ u, ByteArray.size_append, by simp, fun w => run_string_add_sum w t u h⟩
/-- The cells of a row of truths. -/
def BoolRow (w : World) (a : Option Addr) (n : Nat) (l : Nat → Bool) : Prop := ∀ i, i < n → ∃ (b o : Nat), a = some ⟨b, o, none⟩ ∧ b < w.heap.size ∧ w.cell? ⟨b, o + i, none⟩ = some (.bool (l i))
theorem BoolRow.below {w W : World} {a : Option Addr} {n : Nat} {l : Nat → Bool} (h : BoolRow w a n l) (hB : Below w.heap.size w W) : BoolRow W a n l := fun i hi => by
  obtain ⟨b, o, h1, h2, h3⟩ := h i hi
  exact ⟨b, o, h1, Nat.lt_of_lt_of_le h2 hB.size, (hB.cell (p := ⟨b, o + i, none⟩) h2).trans h3⟩
end Go.Proofs.YtcbmeklhmajglaaDoor
end
section
namespace Go.Proofs.YtcbmeklhmajglaaDoor
open Go.RowKit Go.CfgLaw Go.Proofs.YtcbmeklhmajglaaDoorW.PrintWords Go.Proofs.YtcbmeklhmajglaaDoorW.PrintLast Go.Proofs.YtcbmeklhmajglaaDoorW.PrintMore
set_option linter.unusedVariables false
/-- The config when the lines of d are read. -/
def FD (a : Nat → Bool) (cnt n : Nat) (d : List Nat) : Cfg := { on := fun i => if 1 ≤ i ∧ i ≤ cnt ∧ (i - 1) ∈ d then a (i - 1) else plain.on i, a := 80, b := if cnt ∈ d then (n : Int) else 2, c := 2, d := 20 }
theorem FD_nil (a : Nat → Bool) (cnt n : Nat) : FD a cnt n [] = plain := by
  unfold FD
  simp [plain]
theorem FD_congr (a : Nat → Bool) (cnt n : Nat) {d d' : List Nat} (h : ∀ j, j ∈ d ↔ j ∈ d') : FD a cnt n d = FD a cnt n d' := by
  unfold FD
  simp only [h]
theorem FD_all (a : Nat → Bool) (cnt n : Nat) {d d' : List Nat} (h : ∀ j, j ≤ cnt → j ∈ d) (h' : ∀ j, j ≤ cnt → j ∈ d') : FD a cnt n d = FD a cnt n d' := by
  unfold FD
  congr 1
  · funext i
    by_cases hi : 1 ≤ i ∧ i ≤ cnt
    · rw [if_pos ⟨hi.1, hi.2, h _ (by omega)⟩, if_pos ⟨hi.1, hi.2, h' _ (by omega)⟩]
    · rw [if_neg (fun g => hi ⟨g.1, g.2.1⟩), if_neg (fun g => hi ⟨g.1, g.2.1⟩)]
  · rw [if_pos (h _ (Nat.le_refl _)), if_pos (h' _ (Nat.le_refl _))]
theorem FD_on (a : Nat → Bool) (cnt n : Nat) (d : List Nat) (j : Nat) (hj : j < cnt) : setOn (FD a cnt n d) (j + 1) (a j) = FD a cnt n (j :: d) := by
  unfold FD setOn
  congr 1
  · funext i
    show (if i = j + 1 then a j else (if 1 ≤ i ∧ i ≤ cnt ∧ (i - 1) ∈ d then a (i - 1) else plain.on i)) = _
    by_cases h : i = j + 1
    · subst h
      rw [if_pos rfl, if_pos ⟨by omega, by omega, by simp⟩]
      rfl
    · rw [if_neg h]
      by_cases g : 1 ≤ i ∧ i ≤ cnt ∧ (i - 1) ∈ d
      · rw [if_pos g, if_pos ⟨g.1, g.2.1, List.mem_cons_of_mem _ g.2.2⟩]
      · rw [if_neg g, if_neg]
        rintro ⟨g1, g2, g3⟩
        rcases List.mem_cons.1 g3 with g3 | g3
        · exact h (by omega)
        · exact g ⟨g1, g2, g3⟩
  · show (if cnt ∈ d then (n : Int) else 2) = _
    by_cases g : cnt ∈ d
    · rw [if_pos g, if_pos (List.mem_cons_of_mem _ g)]
    · rw [if_neg g, if_neg]
      intro g2
      rcases List.mem_cons.1 g2 with g2 | g2
      · omega
      · exact g g2
theorem FD_ind (a : Nat → Bool) (cnt n : Nat) (d : List Nat) : setB (FD a cnt n d) n = FD a cnt n (cnt :: d) := by
  unfold FD setB
  congr 1
  · funext i
    show (if 1 ≤ i ∧ i ≤ cnt ∧ (i - 1) ∈ d then a (i - 1) else plain.on i) = _
    by_cases g : 1 ≤ i ∧ i ≤ cnt ∧ (i - 1) ∈ d
    · rw [if_pos g, if_pos ⟨g.1, g.2.1, List.mem_cons_of_mem _ g.2.2⟩]
    · rw [if_neg g, if_neg]
      rintro ⟨g1, g2, g3⟩
      rcases List.mem_cons.1 g3 with g3 | g3
      · omega
      · exact g ⟨g1, g2, g3⟩
  · rw [if_pos (by simp)]
theorem FD_ok (a : Nat → Bool) (cnt n : Nat) (d : List Nat) (h1 : 1 ≤ n) (h2 : n ≤ 9) : okC (FD a cnt n d) = true := by
  rw [okC_iff]
  refine ⟨⟨?_, ?_⟩, ?_, ⟨?_, ?_⟩, ?_, ?_⟩
  · show (1 : Int) ≤ 80; decide
  · show (80 : Int) ≤ 500; decide
  rotate_left
  · show (0 : Int) ≤ 2; decide
  · show (2 : Int) ≤ 20; decide
  · show (1 : Int) ≤ 20; decide
  · show (20 : Int) ≤ 50; decide
  show (1 : Int) ≤ (if cnt ∈ d then (n : Int) else 2) ∧ (if cnt ∈ d then (n : Int) else 2) ≤ 10
  split <;> omega
/-- The lines. -/
def LL (a : Nat → Bool) (cnt n j : Nat) : List UInt8 := if j < cnt then NM.getD (j + 1) [] ++ 32 :: wd (a j) else [105, 110, 100, 101, 110, 116, 32] ++ [UInt8.ofNat (48 + n)]
theorem LL_step (a : Nat → Bool) (cnt n : Nat) (d : List Nat) (j : Nat) (hj : j ≤ cnt) (hc : cnt ≤ 9) (h1 : 1 ≤ n) (h2 : n ≤ 9) : lineF (FD a cnt n d) (wds (LL a cnt n j)) = some (FD a cnt n (j :: d)) ∧ 10 ∉ LL a cnt n j := by
  unfold LL
  by_cases h : j < cnt
  · rw [if_pos h]
    have := line_on (FD a cnt n d) j (by omega) (a j)
    rw [FD_on a cnt n d j h] at this
    exact this
  · obtain rfl : j = cnt := by omega
    rw [if_neg h]
    have := line_ind (FD a j n d) n h1 h2
    rw [FD_ind] at this
    exact this
theorem LL_len (a : Nat → Bool) (cnt n j : Nat) (hj : j ≤ cnt) (hc : cnt ≤ 9) : (LL a cnt n j).length ≤ 10 := by
  unfold LL
  by_cases h : j < cnt
  · rw [if_pos h]
    have := (nm_facts j (by omega)).2.2.2.2
    have h3 : (wd (a j)).length ≤ 3 := by cases a j <;> decide
    simp only [List.length_append, List.length_cons]
    omega
  · rw [if_neg h]
    simp
theorem acc_step {a : Nat → Bool} {cnt n : Nat} {S : List UInt8} {d : List Nat} (h : Acc S (FD a cnt n d)) (j : Nat) (hj : j ≤ cnt) (hc : cnt ≤ 9) (h1 : 1 ≤ n) (h2 : n ≤ 9) : Acc (S ++ (LL a cnt n j ++ [10])) (FD a cnt n (j :: d)) :=
  acc_line h (LL_step a cnt n d j hj hc h1 h2).2 (LL_step a cnt n d j hj hc h1 h2).1
theorem rot_all (N r : Nat) (hN : 0 < N) (hr : r < N) (j : Nat) (hj : j < N) : ∃ i, i < N ∧ (i + r) % N = j := by
  refine ⟨(j + (N - r)) % N, Nat.mod_lt _ hN, ?_⟩
  rw [Nat.mod_add_mod, show j + (N - r) + r = j + N by omega, Nat.add_mod_right, Nat.mod_eq_of_lt hj]
/-- The indices read after i rounds, the text's own and the turned one. -/
def dS (i : Nat) : List Nat := (List.range i).reverse
def dT (N r i : Nat) : List Nat := ((List.range i).map fun j => (j + r) % N).reverse
theorem dS_succ (i : Nat) : dS (i + 1) = i :: dS i := by
  unfold dS
  rw [List.range_succ, List.reverse_append]
  rfl
theorem dT_succ (N r i : Nat) : dT N r (i + 1) = (i + r) % N :: dT N r i := by
  unfold dT
  rw [List.range_succ, List.map_append, List.reverse_append]
  rfl
theorem dST (a : Nat → Bool) (cnt n r : Nat) (hr : r < cnt + 1) : FD a cnt n (dT (cnt + 1) r (cnt + 1)) = FD a cnt n (dS (cnt + 1)) := by
  refine FD_all a cnt n (fun j hj => ?_) (fun j hj => ?_)
  · obtain ⟨i, hi, he⟩ := rot_all (cnt + 1) r (by omega) hr j (by omega)
    unfold dT
    rw [List.mem_reverse, List.mem_map]
    exact ⟨i, List.mem_range.2 hi, he⟩
  · unfold dS
    rw [List.mem_reverse, List.mem_range]
    omega
end Go.Proofs.YtcbmeklhmajglaaDoor
end
section
namespace Go.Proofs.YtcbmeklhmajglaaDoor
open Go.RowKit Go.CfgLaw Go.Proofs.YtcbmeklhmajglaaDoorW.PrintWords Go.Proofs.YtcbmeklhmajglaaDoorW.PrintLast Go.Proofs.YtcbmeklhmajglaaDoorW.PrintMore
set_option linter.unusedVariables false
attribute [local go_sem] setCell_drewN alloc_drewN
attribute [local simp] setCell_drewN alloc_drewN
theorem conv_one (w : World) (M : Nat) : (convert 37 9 (.slice (some ⟨w.heap.size, 0, none⟩) 1 1)).run Tryd.prog (w.alloc (.cells #[.int .u8 (M : Int)] 5)) = .ok (.string (ofL [UInt8.ofNat M])) (w.alloc (.cells #[.int .u8 (M : Int)] 5)) := by
  have hC : (Kd.int .u8).C (w.alloc (.cells #[.int .u8 (M : Int)] 5)) (some ⟨w.heap.size, 0, none⟩) 1 [(M : Int)] := by
    refine ⟨rfl, by omega, fun _ => ⟨_, rfl, fun j p hp => ⟨[.int .u8 p], rfl, rfl, fun i u hu => ?_⟩⟩⟩
    match j, hp with
    | 0, hp =>
      simp at hp
      subst hp
      match i, hu with
      | 0, hu =>
        simp at hu
        subst hu
        exact (cell_of_row (w.alloc (.cells #[.int .u8 (M : Int)] 5)) w.heap.size 0 _ 5 (0, 0) (heap_alloc_new w _)).trans rfl
  have h := Kd.C_string (P := Tryd.prog) (c := 1) Tryd.underlying37 Tryd.underlying5 Tryd.underlying9 hC
  have e : strOfNums [(M : Int)] = ofL [UInt8.ofNat M] := by simp [strOfNums, ofL]
  rw [e] at h
  exact h
theorem info9o : (Tryd.prog.info? 9).map (fun i => (i.zero, i.size, i.bytes)) = some (some (.string ⟨#[]⟩), 1, 16) := by kernel_rfl
abbrev names9O : Obj := .cells #[Value.string { data := #[116, 114, 97, 105, 108] }, Value.string { data := #[108, 111, 110, 103] }, Value.string { data := #[115, 116, 101, 112] }, Value.string { data := #[101, 109, 112, 116, 121] }, Value.string { data := #[109, 97, 114, 107] }, Value.string { data := #[104, 97, 115, 104] }, Value.string { data := #[99, 111, 109, 109, 97] }, Value.string { data := #[116, 119, 105, 99, 101] }, Value.string { data := #[101, 110, 100] }] 9
theorem names9_at {w : World} {q : Nat} (h : w.heap[q]? = some names9O) (n : Nat) (hn : n < 9) : w.cell? ⟨q, n, none⟩ = some (.string (ofL (NM.getD (n + 1) []))) := by
  rw [cell_of_row w q n _ 9 (0, 0) h]
  match n, hn with
  | 0, _ => rfl
  | 1, _ => rfl
  | 2, _ => rfl
  | 3, _ => rfl
  | 4, _ => rfl
  | 5, _ => rfl
  | 6, _ => rfl
  | 7, _ => rfl
  | 8, _ => rfl
  | m + 9, h => exact absurd h (by omega)
/-- A line, as a value. -/
def lnB (a : Nat → Bool) (j : Nat) : ByteArray := ofL (NM.getD (j + 1) [] ++ 32 :: wd (a j))
/-- What ref.Parse says. -/
def Said10 : Prop := ∀ (s : ByteArray) (hs : s.size < 1000000) (w : World), Calls Tryd.prog 10 #[.string s] w fun e w' => e = .returned (.tuple #[cv (parseF s.data.toList).1, .int .i64 (parseF s.data.toList).2]) ∧ Below w.heap.size w w'
set_option maxRecDepth 100000 in
set_option maxHeartbeats 8000000 in
theorem order5 (P10 : Said10) (A1 : Option Addr) (n1 c1 : Nat) (l : Nat → Bool) (step by_ : Int) (m : Int) (w : World) (hm : w.cell? ⟨0, 0, none⟩ = some (.int .i64 m)) (hBR : BoolRow w A1 n1 l) :
    Calls Tryd.prog 5 #[.slice A1 n1 c1, .int .i64 step, .int .i64 by_] w fun e w' => e = .returned (.bool true) ∧ Below w.heap.size w w' := by
  obtain ⟨i0, hi0, hz0, hz1, hz2⟩ := info_parts info9o
  obtain ⟨k, hk, c8⟩ := within8 step 9 (by decide) (by decide)
  replace c8 : ∀ w, Calls Tryd.prog 8 #[.int .i64 step, .int .i64 9] w fun e w' => e = .returned (.int .i64 k) ∧ w' = w := c8
  have HI := Aside0.mk hBR
  clear hBR
  go_enter Tryd.func5, Tryd.ntmps5
  go_wp2_with (first
    | (go_at_call 7; (with_reducible refine (known7 _).mono ?_); rintro e w1 ⟨rfl, hB1⟩)
    | fail)
  go_loopw [8, 9] (fun v8 v9 wr => ∃ (i : Nat), v9 = .int .i64 i ∧ i ≤ n1 ∧ i ≤ 9 ∧ wr.ownsRow (w1.heap.size + 1) 9 1 v8 i (((List.range i).map (lnB l)).map Value.string) ∧ (i = 0 → v8 = .slice none 0 0) ∧ (v8 = .slice none 0 0 → i = 0) ∧ wr.heap[w1.heap.size]? = some names9O ∧ Below w.heap.size w wr) (fun _ v9 _ => n1 - (intOf v9).toNat)
  case atStart => exact ⟨0, rfl, Nat.zero_le _, Nat.zero_le _, World.ownsRow_nil _ _ 9 1, fun _ => rfl, fun _ => rfl, heap_alloc_new w1 _, hB1.alloc hB1.size _⟩
  case round =>
    obtain ⟨i, rfl, hi, hi9, hown, hnil0, hnil, hnm, hB⟩ := hrel
    have hw1 : w.heap.size ≤ w1.heap.size := hB1.size
    by_cases hlt : i < n1 ∧ i < 9
    · obtain ⟨h1, h2⟩ := hlt
      have h1z : (i : Int) < n1 := by omega
      have h2z : (i : Int) < 9 := by omega
      obtain ⟨b, o, rfl, hb, hx0⟩ := HI.out i h1
      have hx := (hB.cell (p := ⟨b, o + i, none⟩) hb).trans hx0
      have hu := names9_at hnm i h2
      have hul : (ofL (NM.getD (i + 1) [])).size ≤ 5 := by
        have := (nm_facts i h2).2.2.2.2
        simp [ofL, ByteArray.size]
        simpa using this
      obtain ⟨u, hue⟩ : ∃ u, ofL (NM.getD (i + 1) []) = u := ⟨_, rfl⟩
      rw [hue] at hu hul
      obtain ⟨x, hlx⟩ : ∃ x, l i = x := ⟨_, rfl⟩
      rw [hlx] at hx
      have hwl : (ofL (32 :: wd x)).size ≤ 4 := by cases x <;> decide
      obtain ⟨T, s1, d1, e1⟩ := add_cat u (ofL (32 :: wd x)) (by omega)
      have hT : T = lnB l i := by
        have : T.data.toList = NM.getD (i + 1) [] ++ 32 :: wd (l i) := by rw [d1, ← hue, hlx]; simp [ofL]
        exact ofL_of this
      have HX := Aside0.mk (And.intro hT (And.intro hnm hown))
      clear d1 s1 hT hlx hx0 hue hwl hul
      cases x
      · replace e1 : ∀ w, (Op.stringOp .add u { data := #[32, 111, 102, 102] }).run Tryd.prog w = .ok (.string T) w := e1
        go_wp2_with (at_builtin; refine wpList_append_own _ rfl (.tmp 37) (.tmp 44) 24 rfl (w1.heap.size + 1) 9 i0 (.string ⟨#[]⟩) 1 16 Tryd.underlying24 hi0 hz0 hz1 hz2 rfl (by decide) _ _ _ rfl (hown.alloc _) ⟨wr.heap.size, 0, none⟩ 1 1 [.string T] rfl rfl ?c1 ?c2 ?c3 ?c4 ?c5 ?_)
        case c1 =>
          intro j u2 hj
          match j, hj with
          | 0, hj =>
            simp at hj
            subst hj
            exact (cell_of_row (wr.alloc (.cells #[.string T] 9)) wr.heap.size 0 _ 9 (0, 0) (heap_alloc_new wr _)).trans rfl
        case c2 => intro u2 hu2; simp at hu2; subst hu2; rfl
        case c3 => unfold maxLen; omega
        case c4 => omega
        case c5 => have := hB.size; have := heap_lt hnm; simp; omega
        · intro v' w3 hown' hgrow hnil'
          have hnm3 : w3.heap[w1.heap.size]? = some names9O := by
            rw [hgrow.block w1.heap.size (by have := heap_lt hnm; simp; omega) (by
              intro e
              have := (hown.lt w1.heap.size e.symm).1
              omega)]
            exact heap_al hnm
          have hB3 : Below w.heap.size w w3 := (hB.alloc hB.size _).grown hgrow (by have := hB.size; simp; omega) (fun q hq => by
            have := (hown.lt q hq).1
            omega)
          have HY := Aside0.mk (And.intro hown' (And.intro hnm3 (And.intro hB3 hnil')))
          clear hown hnm hown' hgrow hnm3 hB3 hnil'
          go_wp2
          go_roundw
          case measure => simp only [intOf]; omega
          case rel =>
            refine ⟨i + 1, by simp, by omega, by omega, ?_, fun h => absurd h (by omega), fun h => absurd h HY.out.2.2.2, HY.out.2.1, HY.out.2.2.1⟩
            have h := HY.out.1
            rw [HX.out.1] at h
            rw [List.range_succ, List.map_append, List.map_append, List.map_map]
            exact h
      · replace e1 : ∀ w, (Op.stringOp .add u { data := #[32, 111, 110] }).run Tryd.prog w = .ok (.string T) w := e1
        go_wp2_with (at_builtin; refine wpList_append_own _ rfl (.tmp 37) (.tmp 44) 24 rfl (w1.heap.size + 1) 9 i0 (.string ⟨#[]⟩) 1 16 Tryd.underlying24 hi0 hz0 hz1 hz2 rfl (by decide) _ _ _ rfl (hown.alloc _) ⟨wr.heap.size, 0, none⟩ 1 1 [.string T] rfl rfl ?c1 ?c2 ?c3 ?c4 ?c5 ?_)
        case c1 =>
          intro j u2 hj
          match j, hj with
          | 0, hj =>
            simp at hj
            subst hj
            exact (cell_of_row (wr.alloc (.cells #[.string T] 9)) wr.heap.size 0 _ 9 (0, 0) (heap_alloc_new wr _)).trans rfl
        case c2 => intro u2 hu2; simp at hu2; subst hu2; rfl
        case c3 => unfold maxLen; omega
        case c4 => omega
        case c5 => have := hB.size; have := heap_lt hnm; simp; omega
        · intro v' w3 hown' hgrow hnil'
          have hnm3 : w3.heap[w1.heap.size]? = some names9O := by
            rw [hgrow.block w1.heap.size (by have := heap_lt hnm; simp; omega) (by
              intro e
              have := (hown.lt w1.heap.size e.symm).1
              omega)]
            exact heap_al hnm
          have hB3 : Below w.heap.size w w3 := (hB.alloc hB.size _).grown hgrow (by have := hB.size; simp; omega) (fun q hq => by
            have := (hown.lt q hq).1
            omega)
          have HY := Aside0.mk (And.intro hown' (And.intro hnm3 (And.intro hB3 hnil')))
          clear hown hnm hown' hgrow hnm3 hB3 hnil'
          go_wp2
          go_roundw
          case measure => simp only [intOf]; omega
          case rel =>
            refine ⟨i + 1, by simp, by omega, by omega, ?_, fun h => absurd h (by omega), fun h => absurd h HY.out.2.2.2, HY.out.2.1, HY.out.2.2.1⟩
            have h := HY.out.1
            rw [HX.out.1] at h
            rw [List.range_succ, List.map_append, List.map_append, List.map_map]
            exact h
    · have hmB : ∀ V : World, Below w.heap.size w V → V.cell? ⟨0, 0, none⟩ = some (.int .i64 m) := fun V hV => (hV.cell (p := ⟨0, 0, none⟩) (lt_of_cell hm)).trans hm
      have HM := Aside0.mk hmB
      obtain ⟨n, hn⟩ : ∃ n, k + 1 = n := ⟨_, rfl⟩
      obtain ⟨M, hM⟩ : ∃ M, 48 + n = M := ⟨_, rfl⟩
      have hwr1 : IntKind.i64.wrap (49 + (k : Int)) = (M : Int) := by
        unfold IntKind.wrap
        simp [IntKind.signed, IntKind.bits]
        omega
      have hwr3 : IntKind.u8.wrap (M : Int) = (M : Int) := by
        unfold IntKind.wrap
        simp [IntKind.signed, IntKind.bits]
        omega
      have hcv := conv_one wr M
      obtain ⟨u2, hu2⟩ : ∃ u2, ofL [UInt8.ofNat M] = u2 := ⟨_, rfl⟩
      have us : u2.size = 1 := by rw [← hu2]; rfl
      have ud : u2.data.toList = [UInt8.ofNat M] := by rw [← hu2]; rfl
      rw [hu2] at hcv
      have q1 : ({ data := #[105, 110, 100, 101, 110, 116, 32] } : ByteArray).size = 7 := rfl
      obtain ⟨T, s1, d1, e1⟩ := add_cat { data := #[105, 110, 100, 101, 110, 116, 32] } u2 (by omega)
      have hT : T = ofL (LL l i n i) := by
        have : T.data.toList = LL l i n i := by
          rw [d1, ud]
          unfold LL
          rw [if_neg (Nat.lt_irrefl _), hM]
        exact ofL_of this
      obtain ⟨r, hr, r8⟩ := within8 by_ (i + 1) (by omega) (by omega)
      obtain ⟨N, hN⟩ : ∃ N, i + 1 = N := ⟨_, rfl⟩
      have hLB : ∀ j, j < N → ∃ u : ByteArray, (((List.range i).map (lnB l)) ++ [T])[j]? = some u ∧ u.data.toList = LL l i n j ∧ u.size ≤ 10 := by
        intro j hj
        have hsz : ∀ u : ByteArray, u.data.toList = LL l i n j → u.size ≤ 10 := by
          intro u hu
          have h1 : u.data.toList.length = u.size := by simp
          have h2 := LL_len l i n j (by omega) hi9
          rw [← hu] at h2
          omega
        by_cases hji : j < i
        · have hd : (lnB l j).data.toList = LL l i n j := by
            unfold LL lnB
            rw [if_pos hji]
            simp [ofL]
          refine ⟨lnB l j, ?_, hd, hsz _ hd⟩
          rw [List.getElem?_append_left (by simpa using hji), List.getElem?_map, List.getElem?_range hji, Option.map_some]
        · obtain rfl : j = i := by omega
          have hd : T.data.toList = LL l j n j := by rw [hT]; simp [ofL]
          refine ⟨T, ?_, hd, hsz _ hd⟩
          rw [List.getElem?_append_right (by simp)]
          simp
      rw [hN] at r8 hr
      have HLB := Aside0.mk hLB
      have HH := Aside0.mk (And.intro hN (And.intro hn (And.intro hnm hown)))
      clear hmB hM hu2 ud s1 d1 hT hLB hn hm
      rcases (show ¬ (i : Int) < n1 ∨ ((i : Int) < n1 ∧ ¬ (i : Int) < 9) by omega) with h1 | ⟨h1, h2⟩
      · go_wp2_with (first
          | (go_at_call 8; (with_reducible refine (c8 _).mono ?_); rintro e w' ⟨rfl, hw'⟩; have hw2 := hw'.symm; subst hw2)
          | (at_builtin; go_loud (refine wpList_append_own _ rfl (.tmp 46) (.tmp 54) 24 rfl (w1.heap.size + 1) 9 i0 (.string ⟨#[]⟩) 1 16 Tryd.underlying24 hi0 hz0 hz1 hz2 rfl (by decide) _ _ _ rfl ((hown.alloc _).alloc _) ⟨wr.heap.size + 1, 0, none⟩ 1 1 [.string T] rfl rfl ?c1 ?c2 ?c3 ?c4 ?c5 ?_)))
        case c1 =>
          intro j u3 hj
          match j, hj with
          | 0, hj =>
            simp at hj
            subst hj
            have h := cell_of_row ((wr.alloc (.cells #[.int .u8 (M : Int)] 5)).alloc (.cells #[.string T] 9)) (wr.heap.size + 1) 0 _ 9 (0, 0) (by
              have h2 := heap_alloc_new (wr.alloc (.cells #[.int .u8 (M : Int)] 5)) (.cells #[.string T] 9)
              have e : (wr.alloc (.cells #[.int .u8 (M : Int)] 5)).heap.size = wr.heap.size + 1 := by simp
              rw [e] at h2
              exact h2)
            exact h.trans rfl
        case c2 => intro u3 hu3; simp at hu3; subst hu3; rfl
        case c3 => unfold maxLen; omega
        case c4 => omega
        case c5 => have := hB.size; have := heap_lt hnm; simp; omega
        · intro v' w3 hown' hgrow hnil'
          have hB3 : Below w.heap.size w w3 := ((hB.alloc hB.size _).alloc (by have := hB.size; simp; omega) _).grown hgrow (by have := hB.size; simp; omega) (fun q hq => by
            have := (hown.lt q hq).1
            omega)
          rcases hown'.2 with ⟨h, _⟩ | ⟨g, cap, cur, hv, g1, g2, g3, g4, g5, g6⟩
          · exact absurd h hnil'
          have hrow : SRow w3 g (((List.range i).map (lnB l)) ++ [T]) := by
            refine ⟨cur, g2, ?_⟩
            rw [List.length_append, List.length_map, List.length_range, List.length_singleton]
            rw [Nat.mul_one] at g6
            rw [HH.out.1, g6, List.map_append, List.map_map]
            rfl
          subst hv
          obtain ⟨LB, hLBe⟩ : ∃ LB, ((List.range i).map (lnB l)) ++ [T] = LB := ⟨_, rfl⟩
          rw [hLBe] at hrow
          have HLB2 := HLB.out
          rw [hLBe] at HLB2
          have HL2 := Aside0.mk HLB2
          have HY := Aside0.mk (And.intro hrow hB3)
          clear hown hnm hown' hgrow hB3 hnil' hrow g1 g2 g3 g4 g5 g6 hLBe HLB2 HLB
          go_wp2
          have hgq := hB1.size
          go_loopw [11, 12, 13] (fun v11 v12 v13 wr => ∃ (s t : ByteArray) (j : Nat), v11 = .string s ∧ v12 = .string t ∧ v13 = .int .i64 j ∧ j ≤ N ∧ s.size ≤ 20 * j ∧ t.size ≤ 20 * j ∧ Acc s.data.toList (FD l i n (dS j)) ∧ Acc t.data.toList (FD l i n (dT N r j)) ∧ SRow wr g LB ∧ Below w.heap.size w wr) (fun _ _ v13 _ => N - (intOf v13).toNat)
          case atStart => exact ⟨⟨#[]⟩, ⟨#[]⟩, 0, rfl, rfl, rfl, Nat.zero_le _, by decide, by decide, by rw [show dS 0 = [] from rfl, FD_nil]; exact acc_nil, by rw [show dT N r 0 = [] from rfl, FD_nil]; exact acc_nil, HY.out.1, HY.out.2⟩
          case round =>
            obtain ⟨s, t, j, rfl, rfl, rfl, hj, hs, ht, ha1, ha2, hrow, hB⟩ := hrel
            have hNe := HH.out.1
            have hne := HH.out.2.1
            by_cases hlt : j < N
            · have hjz : (j : Int) < N := by omega
              obtain ⟨K1, hK1⟩ : ∃ K1, j + r = K1 := ⟨_, rfl⟩
              obtain ⟨K2, hK2⟩ : ∃ K2, K1 % N = K2 := ⟨_, rfl⟩
              have hK2l : K2 < N := by rw [← hK2]; exact Nat.mod_lt _ (by omega)
              have hwr1 : IntKind.i64.wrap ((j : Int) + (r : Int)) = (K1 : Int) := by
                unfold IntKind.wrap
                simp [IntKind.signed, IntKind.bits]
                omega
              have hrem : (K1 : Int).tmod (N : Int) = (K2 : Int) := by
                rw [← hK2]
                rfl
              have hN0 : ¬ (N : Int) = 0 := by omega
              have hK2z : (K2 : Int) < N := by omega
              obtain ⟨x1, hx1, xd1, xs1⟩ := HL2.out j hlt
              obtain ⟨x2, hx2, xd2, xs2⟩ := HL2.out K2 hK2l
              have hc1 := hrow.cell j hx1
              have hc2 := hrow.cell K2 hx2
              have q2 : (⟨#[10]⟩ : ByteArray).size = 1 := rfl
              obtain ⟨T1, s1, d1, e1⟩ := add_cat s x1 (by omega)
              obtain ⟨T2, s2, d2, e2⟩ := add_cat T1 ⟨#[10]⟩ (by rw [s1]; omega)
              obtain ⟨T3, s3, d3, e3⟩ := add_cat t x2 (by omega)
              obtain ⟨T4, s4, d4, e4⟩ := add_cat T3 ⟨#[10]⟩ (by rw [s3]; omega)
              have hT2 : T2.size ≤ 20 * (j + 1) := by rw [s2, s1]; omega
              have hT4 : T4.size ≤ 20 * (j + 1) := by rw [s4, s3]; omega
              have b1 : Acc T2.data.toList (FD l i n (dS (j + 1))) := by
                rw [dS_succ, d2, d1, xd1, List.append_assoc]
                exact acc_step ha1 j (by omega) (by omega) (by omega) (by omega)
              have b2 : Acc T4.data.toList (FD l i n (dT N r (j + 1))) := by
                rw [dT_succ, d4, d3, xd2, List.append_assoc, hK1, hK2]
                exact acc_step ha2 K2 (by omega) (by omega) (by omega) (by omega)
              have HZ := Aside0.mk (And.intro hT2 (And.intro hT4 (And.intro b1 (And.intro b2 hrow))))
              clear s1 s2 s3 s4 d1 d2 d3 d4 ha1 ha2 hT2 hT4 b1 b2 hrow hx1 hx2 xd1 xd2 hK1 hK2 hNe hne
              go_wp2_with (first
                | (go_at_call 8; (with_reducible refine (r8 _).mono ?_); rintro e w' ⟨rfl, hw'⟩; have hw2 := hw'.symm; subst hw2))
              go_roundw
              case measure => simp only [intOf]; omega
              case rel => exact ⟨T2, T4, j + 1, rfl, rfl, by simp, by omega, HZ.out.1, HZ.out.2.1, HZ.out.2.2.1, HZ.out.2.2.2.1, HZ.out.2.2.2.2, hB⟩
            · have hjz : ¬ (j : Int) < N := by omega
              obtain rfl : j = N := by omega
              have hs2 : s.data.toList.length ≤ 2000 := by
                have : s.data.toList.length = s.size := by simp
                omega
              have ht2 : t.data.toList.length ≤ 2000 := by
                have : t.data.toList.length = t.size := by simp
                omega
              have h9s := fun m W hW => parse9 s (by omega) m W hW
              have h9t := fun m W hW => parse9 t (by omega) m W hW
              have h10 := P10 s (by omega)
              have hfe : FD l i n (dT j r j) = FD l i n (dS j) := by
                rw [← hNe]
                exact dST l i n r (by omega)
              rw [hfe] at ha2
              rw [acc_parse ha1 hs2 (FD_ok l i n _ (by omega) (by omega))] at h9s h10
              rw [acc_parse ha2 ht2 (FD_ok l i n _ (by omega) (by omega))] at h9t
              generalize FD l i n (dS j) = f at h9s h9t h10
              obtain ⟨on, ca, cb, cc, cd⟩ := f
              have heq := eq28 ⟨on, ca, cb, cc, cd⟩
              simp only [cv, cells] at h9s h9t h10 heq
              clear ha1 ha2 hfe hrow hNe hne
              go_wp2_with (first
                | (go_at_call 9; (with_reducible refine (h9s m _ (HM.out _ hB)).mono ?_); rintro e w4 ⟨rfl, hB4⟩; have L4 := belK hB hB4)
                | (go_at_call 9; (with_reducible refine (h9t m (w4.alloc _) (HM.out _ (L4.alloc L4.size _))).mono ?_); rintro e w5 ⟨rfl, hB5⟩; have L5 : Below w.heap.size w w5 := (L4.alloc L4.size _).trans (hB5.mono (by have := L4.size; simp; omega)); have k4 := keepb hB5 (heap_alloc_new w4 _))
                | (go_at_call 10; (with_reducible refine (h10 (w5.alloc _)).mono ?_); rintro e w6 ⟨rfl, hB6⟩; have L6 : Below w.heap.size w w6 := (L5.alloc L5.size _).trans (hB6.mono (by have := L5.size; simp; omega)); have k6 := keepb hB6 (heap_al k4); have d6 := fun o => cellrow (heap_al (o := o) k6); have k5 := keepb hB6 (heap_alloc_new w5 _); have d5 := fun o => cellrow (heap_al (o := o) k5))
                | fail)
              go_ret
              exact ⟨rfl, L6.alloc L6.size _⟩
      · go_wp2_with (first
          | (go_at_call 8; (with_reducible refine (c8 _).mono ?_); rintro e w' ⟨rfl, hw'⟩; have hw2 := hw'.symm; subst hw2)
          | (at_builtin; go_loud (refine wpList_append_own _ rfl (.tmp 46) (.tmp 54) 24 rfl (w1.heap.size + 1) 9 i0 (.string ⟨#[]⟩) 1 16 Tryd.underlying24 hi0 hz0 hz1 hz2 rfl (by decide) _ _ _ rfl ((hown.alloc _).alloc _) ⟨wr.heap.size + 1, 0, none⟩ 1 1 [.string T] rfl rfl ?c1 ?c2 ?c3 ?c4 ?c5 ?_)))
        case c1 =>
          intro j u3 hj
          match j, hj with
          | 0, hj =>
            simp at hj
            subst hj
            have h := cell_of_row ((wr.alloc (.cells #[.int .u8 (M : Int)] 5)).alloc (.cells #[.string T] 9)) (wr.heap.size + 1) 0 _ 9 (0, 0) (by
              have h2 := heap_alloc_new (wr.alloc (.cells #[.int .u8 (M : Int)] 5)) (.cells #[.string T] 9)
              have e : (wr.alloc (.cells #[.int .u8 (M : Int)] 5)).heap.size = wr.heap.size + 1 := by simp
              rw [e] at h2
              exact h2)
            exact h.trans rfl
        case c2 => intro u3 hu3; simp at hu3; subst hu3; rfl
        case c3 => unfold maxLen; omega
        case c4 => omega
        case c5 => have := hB.size; have := heap_lt hnm; simp; omega
        · intro v' w3 hown' hgrow hnil'
          have hB3 : Below w.heap.size w w3 := ((hB.alloc hB.size _).alloc (by have := hB.size; simp; omega) _).grown hgrow (by have := hB.size; simp; omega) (fun q hq => by
            have := (hown.lt q hq).1
            omega)
          rcases hown'.2 with ⟨h, _⟩ | ⟨g, cap, cur, hv, g1, g2, g3, g4, g5, g6⟩
          · exact absurd h hnil'
          have hrow : SRow w3 g (((List.range i).map (lnB l)) ++ [T]) := by
            refine ⟨cur, g2, ?_⟩
            rw [List.length_append, List.length_map, List.length_range, List.length_singleton]
            rw [Nat.mul_one] at g6
            rw [HH.out.1, g6, List.map_append, List.map_map]
            rfl
          subst hv
          obtain ⟨LB, hLBe⟩ : ∃ LB, ((List.range i).map (lnB l)) ++ [T] = LB := ⟨_, rfl⟩
          rw [hLBe] at hrow
          have HLB2 := HLB.out
          rw [hLBe] at HLB2
          have HL2 := Aside0.mk HLB2
          have HY := Aside0.mk (And.intro hrow hB3)
          clear hown hnm hown' hgrow hB3 hnil' hrow g1 g2 g3 g4 g5 g6 hLBe HLB2 HLB
          go_wp2
          have hgq := hB1.size
          go_loopw [11, 12, 13] (fun v11 v12 v13 wr => ∃ (s t : ByteArray) (j : Nat), v11 = .string s ∧ v12 = .string t ∧ v13 = .int .i64 j ∧ j ≤ N ∧ s.size ≤ 20 * j ∧ t.size ≤ 20 * j ∧ Acc s.data.toList (FD l i n (dS j)) ∧ Acc t.data.toList (FD l i n (dT N r j)) ∧ SRow wr g LB ∧ Below w.heap.size w wr) (fun _ _ v13 _ => N - (intOf v13).toNat)
          case atStart => exact ⟨⟨#[]⟩, ⟨#[]⟩, 0, rfl, rfl, rfl, Nat.zero_le _, by decide, by decide, by rw [show dS 0 = [] from rfl, FD_nil]; exact acc_nil, by rw [show dT N r 0 = [] from rfl, FD_nil]; exact acc_nil, HY.out.1, HY.out.2⟩
          case round =>
            obtain ⟨s, t, j, rfl, rfl, rfl, hj, hs, ht, ha1, ha2, hrow, hB⟩ := hrel
            have hNe := HH.out.1
            have hne := HH.out.2.1
            by_cases hlt : j < N
            · have hjz : (j : Int) < N := by omega
              obtain ⟨K1, hK1⟩ : ∃ K1, j + r = K1 := ⟨_, rfl⟩
              obtain ⟨K2, hK2⟩ : ∃ K2, K1 % N = K2 := ⟨_, rfl⟩
              have hK2l : K2 < N := by rw [← hK2]; exact Nat.mod_lt _ (by omega)
              have hwr1 : IntKind.i64.wrap ((j : Int) + (r : Int)) = (K1 : Int) := by
                unfold IntKind.wrap
                simp [IntKind.signed, IntKind.bits]
                omega
              have hrem : (K1 : Int).tmod (N : Int) = (K2 : Int) := by
                rw [← hK2]
                rfl
              have hN0 : ¬ (N : Int) = 0 := by omega
              have hK2z : (K2 : Int) < N := by omega
              obtain ⟨x1, hx1, xd1, xs1⟩ := HL2.out j hlt
              obtain ⟨x2, hx2, xd2, xs2⟩ := HL2.out K2 hK2l
              have hc1 := hrow.cell j hx1
              have hc2 := hrow.cell K2 hx2
              have q2 : (⟨#[10]⟩ : ByteArray).size = 1 := rfl
              obtain ⟨T1, s1, d1, e1⟩ := add_cat s x1 (by omega)
              obtain ⟨T2, s2, d2, e2⟩ := add_cat T1 ⟨#[10]⟩ (by rw [s1]; omega)
              obtain ⟨T3, s3, d3, e3⟩ := add_cat t x2 (by omega)
              obtain ⟨T4, s4, d4, e4⟩ := add_cat T3 ⟨#[10]⟩ (by rw [s3]; omega)
              have hT2 : T2.size ≤ 20 * (j + 1) := by rw [s2, s1]; omega
              have hT4 : T4.size ≤ 20 * (j + 1) := by rw [s4, s3]; omega
              have b1 : Acc T2.data.toList (FD l i n (dS (j + 1))) := by
                rw [dS_succ, d2, d1, xd1, List.append_assoc]
                exact acc_step ha1 j (by omega) (by omega) (by omega) (by omega)
              have b2 : Acc T4.data.toList (FD l i n (dT N r (j + 1))) := by
                rw [dT_succ, d4, d3, xd2, List.append_assoc, hK1, hK2]
                exact acc_step ha2 K2 (by omega) (by omega) (by omega) (by omega)
              have HZ := Aside0.mk (And.intro hT2 (And.intro hT4 (And.intro b1 (And.intro b2 hrow))))
              clear s1 s2 s3 s4 d1 d2 d3 d4 ha1 ha2 hT2 hT4 b1 b2 hrow hx1 hx2 xd1 xd2 hK1 hK2 hNe hne
              go_wp2_with (first
                | (go_at_call 8; (with_reducible refine (r8 _).mono ?_); rintro e w' ⟨rfl, hw'⟩; have hw2 := hw'.symm; subst hw2))
              go_roundw
              case measure => simp only [intOf]; omega
              case rel => exact ⟨T2, T4, j + 1, rfl, rfl, by simp, by omega, HZ.out.1, HZ.out.2.1, HZ.out.2.2.1, HZ.out.2.2.2.1, HZ.out.2.2.2.2, hB⟩
            · have hjz : ¬ (j : Int) < N := by omega
              obtain rfl : j = N := by omega
              have hs2 : s.data.toList.length ≤ 2000 := by
                have : s.data.toList.length = s.size := by simp
                omega
              have ht2 : t.data.toList.length ≤ 2000 := by
                have : t.data.toList.length = t.size := by simp
                omega
              have h9s := fun m W hW => parse9 s (by omega) m W hW
              have h9t := fun m W hW => parse9 t (by omega) m W hW
              have h10 := P10 s (by omega)
              have hfe : FD l i n (dT j r j) = FD l i n (dS j) := by
                rw [← hNe]
                exact dST l i n r (by omega)
              rw [hfe] at ha2
              rw [acc_parse ha1 hs2 (FD_ok l i n _ (by omega) (by omega))] at h9s h10
              rw [acc_parse ha2 ht2 (FD_ok l i n _ (by omega) (by omega))] at h9t
              generalize FD l i n (dS j) = f at h9s h9t h10
              obtain ⟨on, ca, cb, cc, cd⟩ := f
              have heq := eq28 ⟨on, ca, cb, cc, cd⟩
              simp only [cv, cells] at h9s h9t h10 heq
              clear ha1 ha2 hfe hrow hNe hne
              go_wp2_with (first
                | (go_at_call 9; (with_reducible refine (h9s m _ (HM.out _ hB)).mono ?_); rintro e w4 ⟨rfl, hB4⟩; have L4 := belK hB hB4)
                | (go_at_call 9; (with_reducible refine (h9t m (w4.alloc _) (HM.out _ (L4.alloc L4.size _))).mono ?_); rintro e w5 ⟨rfl, hB5⟩; have L5 : Below w.heap.size w w5 := (L4.alloc L4.size _).trans (hB5.mono (by have := L4.size; simp; omega)); have k4 := keepb hB5 (heap_alloc_new w4 _))
                | (go_at_call 10; (with_reducible refine (h10 (w5.alloc _)).mono ?_); rintro e w6 ⟨rfl, hB6⟩; have L6 : Below w.heap.size w w6 := (L5.alloc L5.size _).trans (hB6.mono (by have := L5.size; simp; omega)); have k6 := keepb hB6 (heap_al k4); have d6 := fun o => cellrow (heap_al (o := o) k6); have k5 := keepb hB6 (heap_alloc_new w5 _); have d5 := fun o => cellrow (heap_al (o := o) k5))
                | fail)
              go_ret
              exact ⟨rfl, L6.alloc L6.size _⟩
end Go.Proofs.YtcbmeklhmajglaaDoor
end
section
namespace Go.Proofs.YtcbmeklhmajglaaDoor
open Go.ChangeShapes Go.WideShapes Go.ChangeAt Go.RowKit Go.Deep
open Go.ChangeMaps (open_string shut_string)
open Go.Proofs.YtcbmeklhmajglaaDoorW.PrintWords
set_option linter.unusedVariables false
theorem boolRow_of (x : Addr) (n : Nat) (B : Nat → Bool) (w : World) (m : Nat) (hl : n ≤ m) (hc : ∀ i, i < m → w.cell? (x.add i) = some (.bool (B i))) : BoolRow w (some x) n B := by
  intro i hi
  obtain ⟨b, o, s⟩ := x
  cases s with
  | some s =>
    exfalso
    have h := hc 0 (by omega)
    unfold World.cell? at h
    split at h
    · simp [Addr.add] at h
    · cases h
  | none =>
    have e : (⟨b, o, none⟩ : Addr).add i = ⟨b, o + i, none⟩ := by
      by_cases h0 : i = 0
      · subst h0; rfl
      · simp [Addr.add, h0]
    have h := hc i (by omega)
    rw [e] at h
    exact ⟨b, o, rfl, lt_of_cell h, h⟩
namespace configOrder
theorem own : ownKnob Tryd.prog.godebug = none := by kernel_rfl
theorem laidOut : laidOutB Tryd.prog = true := by kernel_rfl
theorem maxLenAt {w : World} (h : w.ShapedOpen Tryd.prog) : ∃ m, w.cell? ⟨0, 0, none⟩ = some (.int .i64 m) :=
  Go.Proofs.cell_of_shapedOpen_int (zero := #[.int .i64 0]) (t := 3) h (of_decide_eq_true (by kernel_rfl)) (by kernel_rfl) rfl (by kernel_rfl) (by kernel_rfl) Tryd.underlying3
set_option maxRecDepth 100000 in
theorem lifted (os : Os) (started : os.Started) (H : Type) (enc : TypeId × Value → H) :
    ReturnsInHanded {} Tryd.checked os 5 .any (fun w args => (Rows.configOrderSpec.pre enc Tryd.prog Tryd.f5 Rows.configOrderRow.domain false w args ∧ laidMetH Tryd.prog Rows.configOrderRow.laid w) ∧ sizedMet enc Tryd.prog Tryd.f5 (OpenSpec.ofChange Rows.configOrderSpec) false w args)
      (Rows.configOrderSpec.post enc Tryd.prog Tryd.f5 false true false false) := by
  refine returnsInHanded_of_calls own started (by kernel_rfl)
    (ChangeSpec.witness_shaped (enc := enc) (C := Tryd.checked) (os := os) (X := fun w _ => laidMetH Tryd.prog Rows.configOrderRow.laid w) false (World.laidAll Tryd.prog os Rows.configOrderRow.laid) #[.slice none 0 0, .int .i64 0, .int .i64 0] 8 (World.laidAll_os _ _ _)
      (World.shaped_of_ZipB (by kernel_rfl) (by kernel_rfl)) (by kernel_rfl) (by kernel_rfl) (by kernel_rfl)
      (by rw [MakeChecks.laidMetH_plain _ _ _ (by kernel_rfl)]; exact laidMet_laidAll _ (by kernel_rfl) (by kernel_rfl))) ?_
  intro w0 tape inp _ hshape _ hok hpre _
  obtain ⟨_, _, _, fn', hfn', _, _, _, _, hval1⟩ := hok
  obtain rfl : fn' = Tryd.f5 := Option.some.inj (hfn'.symm.trans Tryd.func5)
  obtain ⟨⟨⟨ds, gs, before, hw1, hc⟩, hL0⟩, hz0⟩ := hpre
  have hW0 := DataW.Whole.of_heap (w' := w0.forCall tape inp) (by rfl) hw1
  obtain ⟨m, hm⟩ := maxLenAt hshape
  clear hw1 hL0 hz0 hshape
  generalize w0.heap.size = base at hval1
  generalize w0.forCall tape inp = W at *
  generalize inp.args = args at *
  suffices hS : Calls Tryd.prog 5 args W fun e W' => ∃ v, e = .returned v ∧ Rows.configOrderSpec.post enc Tryd.prog Tryd.f5 false true false false W args v W' by
    refine hS.mono fun e W' ⟨v, he, hp⟩ => ?_
    subst he
    exact ChangeSpec.post_blind hp
  have hval : ∀ (j : Nat) t v, Tryd.f5.params[j]? = some t → args[j]? = some v → Value.okWide Tryd.prog W .any base t v := hval1
  have hW' := hW0
  obtain ⟨p, q, hA0, hV, rfl, _, _⟩ := hW0
  have hA : DataW.TrodAll enc Tryd.prog W 0 (fun _ => true) true Tryd.f5.params.toList args.toList ds p := hA0
  rw [Tryd.params5] at hA hval
  obtain ⟨v0, vs0, d0, ds0, p0, q0, hargs, rfl, rfl, h0, r0⟩ := trodAll_cons hA
  obtain ⟨v1, vs1, d1, ds1, p1, q1, rfl, rfl, rfl, h1, r1⟩ := trodAll_cons r0
  obtain ⟨v2, vs2, d2, ds2, p2, q2, rfl, rfl, rfl, h2, r2⟩ := trodAll_cons r1
  obtain ⟨rfl, rfl, rfl⟩ := trodAll_nil r2
  obtain rfl : args = #[v0, v1, v2] := by cases args; simp_all
  obtain ⟨rfl, rfl⟩ := trodVars_none hV
  obtain ⟨a0, len0, cap0, rfl⟩ := okWide_slice Tryd.underlying35 (hval 0 35 v0 rfl rfl)
  have k0 := h0
  have lt0 : ∀ x ∈ p0, x.block < W.heap.size := by obtain ⟨m, hm⟩ := k0; exact DataW.trod_lt m _ _ _ hm
  obtain ⟨B0, w0⟩ : ∃ B : Nat → Bool, BoolRow W a0 len0 B := by
    obtain ⟨fuel, hf⟩ := h0
    rcases open_bools Tryd.underlying35 Tryd.underlying4 (by kernel_rfl) hf with ⟨hcs, _⟩ | ⟨x, l, c, B, hcs, _, hl, hm, _, hcell⟩
    · simp [Value.cells] at hcs
      obtain ⟨rfl, rfl, rfl⟩ := hcs
      exact ⟨fun _ => false, fun i hi => absurd hi (Nat.not_lt_zero i)⟩
    · simp [Value.cells] at hcs
      obtain ⟨rfl, rfl, rfl⟩ := hcs
      exact ⟨B, boolRow_of x _ B W _ hl hcell⟩
  obtain ⟨a1, rfl, rfl, rfl, y1⟩ := open_int Tryd.underlying3 (hval 1 3 v1 rfl rfl) h1
  obtain ⟨a2, rfl, rfl, rfl, y2⟩ := open_int Tryd.underlying3 (hval 2 3 v2 rfl rfl) h2
  clear hA0 hval1
  refine (order5 (fun s hs w => parse10 s hs w) a0 len0 cap0 B0 a1 a2 m W hm w0).mono fun e W' ⟨he, bel⟩ => ?_
  subst he
  exact ⟨_, rfl, _, _, _, [], _, [], hW', trodAll_mk1 (shut_bool Tryd.underlying4 _), (trodAll_cons_mk (Below.trod laidOut (by kernel_rfl) (of_decide_eq_true (by kernel_rfl)) k0 bel lt0) (trodAll_cons_mk (shut_int Tryd.underlying3 y1) (trodAll_cons_mk (shut_int Tryd.underlying3 y2) trodAll_mk0))), rfl, bel.frame _, fun h => by cases h⟩
theorem over : Rows.configOrderRow.holds Tryd.pinned (OpenSpec.ofChange Rows.configOrderSpec) :=
  OpenClaim.holds_of_wide 5 Tryd.f5 rfl rfl rfl rfl rfl rfl rfl ⟨rfl, rfl, rfl, rfl, rfl⟩ rfl rfl rfl rfl rfl (by kernel_rfl) Tryd.func5 (by kernel_rfl)
    (of_decide_eq_true (by kernel_rfl)) (by unfold Func.isWrapper; first | (rw [if_pos (by decide +kernel)]; kernel_rfl) | (rw [if_neg (by decide +kernel)]; exact ⟨rfl, rfl⟩))
    (fun os started H enc _ => lifted os started H enc)
end configOrder
/-- The card of ConfigOrder holds. -/
theorem configOrderCard_holds : Rows.ConfigOrderCardSaid :=
  Claim7.holds_tied_plain_at .later [] [.data, .data, .data, .data, .sentinel, .sentinel, .pinned] true (true, "f46b92663623f6b3f39fdc60e263bf241bf09af023ece41d3d974f55b14c8549") true
    configOrder.over (fun _ h => by cases h) (by kernel_rfl) (fun _ h => by cases h) configOrder_row_tie rfl ⟨rfl, rfl⟩ (by kernel_rfl) rfl
    (fun f fn hf hfn => by
      obtain rfl : f = 5 := Option.some.inj ((show Tryd.prog.funcNamed "corrector/correctorlaw18.ConfigOrder" = some 5 by kernel_rfl).symm.trans hf) |>.symm
      obtain rfl : fn = Tryd.f5 := (Option.some.inj (Tryd.func5.symm.trans hfn)).symm
      exact ⟨by kernel_rfl, fun j t ht => by
        rw [Tryd.params5] at ht
        have hm : t ∈ [35, 3, 3] := by simpa using Array.mem_of_getElem? ht
        have hall : ([35, 3, 3].all fun u => !Tryd.prog.wantsStandIn u) = true := by kernel_rfl
        exact (show Tryd.prog.wantsStandIn t = false by simpa using List.all_eq_true.1 hall t hm)⟩)
    (by kernel_rfl)
#print axioms configOrderCard_holds
end Go.Proofs.YtcbmeklhmajglaaDoor
end
