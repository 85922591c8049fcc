/- A part of the proof: what the functions of the program compute, shown once each; the last text holds the statement. No condition beyond those of the statement. -/
import Derived.Test.YtcbmeklhmajglaaDoorCfD
import Derived.Test.YtcbmeklhmajglaaDoorPDigitsx1
import Derived.Lib.ItoaLen
set_option linter.unusedSimpArgs false
set_option linter.unusedVariables false
section
namespace Go.Proofs.YtcbmeklhmajglaaDoor
open Go.RowKit Go.CfgLaw Go.Proofs.YtcbmeklhmajglaaDoorW.PrintWords Go.Proofs.YtcbmeklhmajglaaDoorW.PrintLast Go.Proofs.YtcbmeklhmajglaaDoorW.PrintMore
set_option linter.unusedVariables false
/-! ### Texts that are written line by line -/
/-- What is read of a text of whole lines, whatever stands behind. -/
def Acc (S : List UInt8) (f : Cfg) : Prop := ∀ R, linesF plain (lns (S ++ R)) = linesF f (lns R)
theorem acc_nil : Acc [] plain := fun R => rfl
theorem acc_line {S x : List UInt8} {f f' : Cfg} (h : Acc S f) (hx : 10 ∉ x) (hl : lineF f (wds x) = some f') : Acc (S ++ (x ++ [10])) f' := fun R => by
  rw [List.append_assoc, h, List.append_assoc, List.singleton_append, lns_cons x R hx]
  show (match lineF f (wds x) with | none => none | some f' => linesF f' (lns R)) = _
  rw [hl]
theorem acc_end {S : List UInt8} {f : Cfg} (h : Acc S f) : linesF plain (lns S) = some f := by
  have := h []
  rw [List.append_nil] at this
  rw [this]
  rfl
theorem acc_parse {S : List UInt8} {f : Cfg} (h : Acc S f) (hS : S.length ≤ 2000) (hf : okC f = true) : parseF S = (f, 0) := by
  rw [parseF_some' (by omega) (acc_end h), hf]
  rfl
theorem wds_one (x : List UInt8) (h0 : x ≠ []) (h : ∀ c ∈ x, sp c = false) : wds x = [x] := by
  have h1 := wa_many x [] [] h
  rw [List.append_nil, List.nil_append] at h1
  unfold wds
  rw [h1]
  unfold wa
  rw [if_neg h0]
theorem wds_two (x y : List UInt8) (hx : x ≠ []) (hx2 : ∀ c ∈ x, sp c = false) (hy : y ≠ []) (hy2 : ∀ c ∈ y, sp c = false) : wds (x ++ 32 :: y) = [x, y] := by
  unfold wds
  rw [wa_many x [] (32 :: y) hx2, List.nil_append]
  unfold wa
  rw [if_pos (by decide), if_neg hx]
  have := wds_one y hy hy2
  unfold wds at this
  rw [this]
def wd (b : Bool) : List UInt8 := if b then [111, 110] else [111, 102, 102]
theorem nm_facts (k : Nat) (hk : k < 9) : NM.getD (k + 1) [] ≠ [] ∧ (∀ c ∈ NM.getD (k + 1) [], sp c = false) ∧ (10 ∉ NM.getD (k + 1) []) ∧ fi (NM.getD (k + 1) []) NM 0 = ((k + 1 : Nat) : Int) ∧ (NM.getD (k + 1) []).length ≤ 5 := by
  have h : ∀ j : Fin 9, NM.getD (j.1 + 1) [] ≠ [] ∧ (∀ c ∈ NM.getD (j.1 + 1) [], sp c = false) ∧ (10 ∉ NM.getD (j.1 + 1) []) ∧ fi (NM.getD (j.1 + 1) []) NM 0 = ((j.1 + 1 : Nat) : Int) ∧ (NM.getD (j.1 + 1) []).length ≤ 5 := by decide
  exact h ⟨k, hk⟩
theorem line_on (f : Cfg) (k : Nat) (hk : k < 9) (b : Bool) : lineF f (wds (NM.getD (k + 1) [] ++ 32 :: wd b)) = some (setOn f (k + 1) b) ∧ 10 ∉ NM.getD (k + 1) [] ++ 32 :: wd b := by
  obtain ⟨h1, h2, h3, h4, _⟩ := nm_facts k hk
  constructor
  · rw [wds_two _ _ h1 h2 (by cases b <;> decide) (by cases b <;> decide), lineF_rule f _ _ (k + 1) h4 (by omega)]
    cases b
    · rw [if_pos (.inr rfl)]; rfl
    · rw [if_pos (.inl rfl)]; rfl
  · rw [List.mem_append, List.mem_cons]
    rintro (h | h | h)
    · exact h3 h
    · cases h
    · cases b <;> revert h <;> decide
def setB (f : Cfg) (n : Int) : Cfg := { f with b := n }
theorem line_ind (f : Cfg) (n : Nat) (h1 : 1 ≤ n) (h9 : n ≤ 9) : lineF f (wds ([105, 110, 100, 101, 110, 116, 32] ++ [UInt8.ofNat (48 + n)])) = some (setB f n) ∧ 10 ∉ [105, 110, 100, 101, 110, 116, 32] ++ [UInt8.ofNat (48 + n)] := by
  have h : ∀ j : Fin 10, 1 ≤ j.1 → (∀ c ∈ [UInt8.ofNat (48 + j.1)], sp c = false) ∧ numF [UInt8.ofNat (48 + j.1)] = some j.1 ∧ 10 ∉ [105, 110, 100, 101, 110, 116, 32] ++ [UInt8.ofNat (48 + j.1)] := by decide
  obtain ⟨g1, g2, g3⟩ := h ⟨n, by omega⟩ h1
  refine ⟨?_, g3⟩
  rw [show ([105, 110, 100, 101, 110, 116, 32] : List UInt8) ++ [UInt8.ofNat (48 + n)] = [105, 110, 100, 101, 110, 116] ++ 32 :: [UInt8.ofNat (48 + n)] from rfl]
  rw [wds_two _ _ (by decide) (by decide) (by simp) g1, lineF_num f _ _ (-1) (by decide) (by decide) 1 (by decide), g2]
  rfl
theorem ok_setOn (f : Cfg) (k : Nat) (b : Bool) : okC (setOn f k b) = okC f := rfl
theorem ok_setB (f : Cfg) (n : Int) (h : okC f = true) (h1 : 1 ≤ n) (h2 : n ≤ 9) : okC (setB f n) = true := by
  rw [okC_iff] at h ⊢
  unfold setB
  refine ⟨h.1, ⟨h1, ?_⟩, h.2.2⟩
  show n ≤ 10
  omega
theorem ok_plain : okC plain = true := by decide
theorem add_cat (t u : ByteArray) (h : t.size + u.size ≤ 9223372036854775807) : ∃ T : ByteArray, T.size = t.size + u.size ∧ T.data.toList = t.data.toList ++ u.data.toList ∧ ∀ w, (Op.stringOp .add t u).run Tryd.prog w = .ok (.string T) w :=
  ⟨t ++ u, ByteArray.size_append, by simp, fun w => run_string_add_sum w t u h⟩
/-- The cells of a row of truths. -/
def BoolRow (w : World) (a : Option Addr) (n : Nat) (l : Nat → Bool) : Prop := ∀ i, i < n → ∃ (b o : Nat), a = some ⟨b, o, none⟩ ∧ b < w.heap.size ∧ w.cell? ⟨b, o + i, none⟩ = some (.bool (l i))
theorem BoolRow.below {w W : World} {a : Option Addr} {n : Nat} {l : Nat → Bool} (h : BoolRow w a n l) (hB : Below w.heap.size w W) : BoolRow W a n l := fun i hi => by
  obtain ⟨b, o, h1, h2, h3⟩ := h i hi
  exact ⟨b, o, h1, Nat.lt_of_lt_of_le h2 hB.size, (hB.cell (p := ⟨b, o + i, none⟩) h2).trans h3⟩
end Go.Proofs.YtcbmeklhmajglaaDoor
end
section
namespace Go.Proofs.YtcbmeklhmajglaaDoor
open Go.RowKit Go.CfgLaw Go.Sort Go.Proofs.YtcbmeklhmajglaaDoorW.PrintWords Go.Proofs.YtcbmeklhmajglaaDoorW.PrintLast Go.Proofs.YtcbmeklhmajglaaDoorW.PrintMore
set_option linter.unusedVariables false
attribute [local go_sem] setCell_drewN alloc_drewN
attribute [local simp] setCell_drewN alloc_drewN
theorem bat_append (a b : List UInt8) : (⟨a.toArray⟩ : ByteArray) ++ ⟨b.toArray⟩ = ⟨(a ++ b).toArray⟩ := by
  apply ByteArray.ext
  simp
theorem strOf_digit (n : Nat) (h : n < 10) : strOfNums [wrap64 (48 + (n : Int)) % 256] = ⟨#[UInt8.ofNat (48 + n)]⟩ := by
  have : wrap64 (48 + (n : Int)) % 256 = ((48 + n : Nat) : Int) := by unfold wrap64; omega
  rw [this]
  show (⟨#[UInt8.ofNat ((48 + n : Nat) : Int).toNat]⟩ : ByteArray) = _
  rw [Int.toNat_natCast]
open PDigits in
theorem digits_f : ∀ (k n : Nat), n < 1000000 → n < k → correctorref14_Digits.f k (n : Int) = some ⟨(Lib.decDigits n).toArray⟩
  | 0, n, _, h => absurd h (by omega)
  | k + 1, n, hn, h => by
    simp only [correctorref14_Digits.f]
    rw [if_neg (by omega)]
    by_cases h10 : n < 10
    · rw [if_neg (by omega), Lib.decDigits_one h10, strOf_digit n h10]
    · rw [if_pos (by omega)]
      have e1 : wrap64 (Int.tdiv (n : Int) 10) = ((n / 10 : Nat) : Int) := by
        rw [Int.tdiv_eq_ediv_of_nonneg (by omega)]
        unfold wrap64
        omega
      have e2 : Int.tmod (n : Int) 10 = ((n % 10 : Nat) : Int) := by
        rw [Int.tmod_eq_emod_of_nonneg (by omega)]
        omega
      rw [e1, e2, digits_f k (n / 10) (by omega) (by omega), Option.bind_some, digits_f k (n % 10) (by omega) (by omega), Option.bind_some]
      have h1 : (Lib.decDigits (n / 10)).length ≤ 20 := by rw [Lib.decDigits_length]; exact Lib.nDigits_le20 _ (by omega)
      have h2 : (Lib.decDigits (n % 10)).length ≤ 20 := by rw [Lib.decDigits_length]; exact Lib.nDigits_le20 _ (by omega)
      rw [if_pos (by simp [ByteArray.size]; omega), bat_append]
      congr 3
      conv => rhs; rw [Lib.decDigits]
      rw [dif_neg h10, Lib.decDigits_one (by omega : n % 10 < 10)]
/-- The table of powers lies where it must. -/
def Pw (w : World) : Prop := Lib.TabIs Tryd.prog w "internal/strconv.uint64pow10" .u64 Lib.pow10Tab
theorem gpow : ∃ g, Tryd.prog.globalNamed "internal/strconv.uint64pow10" = some g := by
  have h : (Tryd.prog.globalNamed "internal/strconv.uint64pow10").isSome = true := by kernel_rfl
  exact Option.isSome_iff_exists.1 h
theorem Pw.below {w w' : World} (h : Pw w) (hb : Below w.heap.size w w') : Pw w' := by
  obtain ⟨g, hg⟩ := gpow
  unfold Pw Lib.TabIs World.var? at h ⊢
  rw [hg] at h ⊢
  simp only [Option.bind_some] at h ⊢
  have hlt : g < w.heap.size := by
    rcases Nat.lt_or_ge g w.heap.size with h' | h'
    · exact h'
    · rw [Array.getElem?_eq_none h'] at h; cases h
  rw [hb.block g hlt]
  exact h
theorem below_grown {w w' : World} (h : ∃ k os, w' = grow (w.drewN k) os) : Below w.heap.size w w' := by
  obtain ⟨q, os, rfl⟩ := h
  have h1 : Below w.heap.size w (w.drewN q) := by
    clear os
    induction q with
    | zero => exact Below.refl _ w
    | succ q ih => exact ih.drew
  exact ⟨h1.os, h1.tape, h1.output, by rw [size_grow]; exact Nat.le_trans h1.size (Nat.le_add_right _ _), fun k hk => (heap_grow_old _ os (by have := h1.size; omega)).trans (h1.block k hk)⟩
/-- A number's digits. -/
def dgs (n : Nat) : ByteArray := ⟨(Lib.decDigits n).toArray⟩
theorem itoa25 (n : Nat) (h : n < 1000000) (w : World) (hw : Pw w) : Calls Tryd.prog 25 #[.int .i64 n] w fun e w' => e = .returned (.string (dgs n)) ∧ Below w.heap.size w w' := by
  refine (Tryd.strconv_Itoa n (by omega) (by omega) w hw).mono ?_
  rintro e w' ⟨rfl, hg⟩
  exact ⟨by rw [Lib.itoa_nonneg]; rfl, below_grown hg⟩
theorem digits29 (n : Nat) (hn : n < 1000000) (w : World) : Calls Tryd.prog 29 #[.int .i64 n] w fun e w' => e = .returned (.string (dgs n)) ∧ Below w.heap.size w w' :=
  PDigits.correctorref14_Digits.calls (n + 1) n (dgs n) w (digits_f (n + 1) n hn (Nat.lt_succ_self n))
theorem ofL_size (l : List UInt8) : (ofL l).size = l.length := by simp [ofL, ByteArray.size]
/-- Two words, as a line. -/
theorem row24 (bk : Nat) (x y : ByteArray) (w : World) (h0 : w.cell? ⟨bk, 0, none⟩ = some (.string x)) (h1 : w.cell? ⟨bk, 1, none⟩ = some (.string y)) (hx : x.size ≤ 1000) (hy : y.size ≤ 1000) :
    Calls Tryd.prog 24 #[.slice (some ⟨bk, 0, none⟩) 2 2] w fun e w' => e = .returned (.string (ofL ((x.data.toList ++ 32 :: y.data.toList) ++ [10]))) ∧ Below w.heap.size w w' := by
  have lx : x.data.toList.length = x.size := by simp
  have ly : y.data.toList.length = y.size := by simp
  have hj : (Lib.join (([x, y] : List ByteArray).map (·.data.toList)) (⟨#[32]⟩ : ByteArray).data.toList) = x.data.toList ++ 32 :: y.data.toList := by
    simp [Lib.join, List.intercalate]
  have hjl : (x.data.toList ++ 32 :: y.data.toList).length ≤ 3000 := by simp only [List.length_append, List.length_cons]; omega
  have hJ := fun W c0 c1 => Tryd.strings_Join bk 0 2 [x, y] ⟨#[32]⟩ W (by
    intro j z hz
    match j, hz with
    | 0, hz => simp at hz; subst hz; exact c0
    | 1, hz => simp at hz; subst hz; exact c1) (lt_of_cell (w := W) (p := ⟨bk, 0, none⟩) c0) (by show 2 ≤ 140737488355328; omega) (by show 2 ≤ 2; omega) (by rw [hj]; omega)
  rw [hj] at hJ
  obtain ⟨T, s1, d1, e1⟩ := add_cat (ofL (x.data.toList ++ 32 :: y.data.toList)) ⟨#[10]⟩ (by
    have q : (⟨#[10]⟩ : ByteArray).size = 1 := rfl
    rw [ofL_size]
    omega)
  have hT : ofL ((x.data.toList ++ 32 :: y.data.toList) ++ [10]) = T := by
    apply Eq.symm
    apply ofL_of
    rw [d1]
    simp [ofL]
  rw [hT]
  have hJ2 : Calls Tryd.prog 38 #[.slice (some ⟨bk, 0, none⟩) 2 2, .string ⟨#[32]⟩] w fun e w' => e = .returned (.string (ofL (x.data.toList ++ 32 :: y.data.toList))) ∧ Below w.heap.size w w' := hJ w h0 h1
  generalize ofL (x.data.toList ++ 32 :: y.data.toList) = J at hJ2 e1
  clear hT d1 s1 hJ hj
  go_enter Tryd.func24, Tryd.ntmps24
  go_wp2_with (go_at_call 38; (with_reducible refine hJ2.mono ?_); rintro e w2 ⟨rfl, hB⟩)
  go_ret
  exact ⟨rfl, hB⟩
end Go.Proofs.YtcbmeklhmajglaaDoor
end
section
namespace Go.Proofs.YtcbmeklhmajglaaDoor
open Go.RowKit Go.CfgLaw Go.Proofs.YtcbmeklhmajglaaDoorW.PrintWords Go.Proofs.YtcbmeklhmajglaaDoorW.PrintLast Go.Proofs.YtcbmeklhmajglaaDoorW.PrintMore
set_option linter.unusedVariables false
/-! ### What is printed, and how it is read -/
/-- A config of which nothing lies beyond its ten rules, its numbers given as they are. -/
structure Gd where
  on : Nat → Bool
  a : Nat
  b : Nat
  c : Nat
  d : Nat
def Gd.cfg (g : Gd) : Cfg := ⟨fun i => if 1 ≤ i ∧ i ≤ 9 then g.on i else false, g.a, g.b, g.c, g.d⟩
structure Gd.Ok (g : Gd) : Prop where
  a1 : 1 ≤ g.a
  a2 : g.a ≤ 500
  b1 : 1 ≤ g.b
  b2 : g.b ≤ 10
  c2 : g.c ≤ 20
  d1 : 1 ≤ g.d
  d2 : g.d ≤ 50
theorem Gd.ok (g : Gd) (h : g.Ok) : okC g.cfg = true := by
  rw [okC_iff]
  have h1 := h.a1
  have h2 := h.a2
  have h3 := h.b1
  have h4 := h.b2
  have h5 := h.c2
  have h6 := h.d1
  have h7 := h.d2
  show ((1 : Int) ≤ (g.a : Int) ∧ (g.a : Int) ≤ 500) ∧ ((1 : Int) ≤ (g.b : Int) ∧ (g.b : Int) ≤ 10) ∧ ((0 : Int) ≤ (g.c : Int) ∧ (g.c : Int) ≤ 20) ∧ (1 : Int) ≤ (g.d : Int) ∧ (g.d : Int) ≤ 50
  omega
def Gd.num (g : Gd) : Nat → Nat
  | 0 => g.a
  | 1 => g.b
  | 2 => g.c
  | _ => g.d
theorem Gd.num_le (g : Gd) (h : g.Ok) (j : Nat) : g.num j ≤ 500 := by
  have h2 := h.a2
  have h4 := h.b2
  have h5 := h.c2
  have h7 := h.d2
  match j with
  | 0 => exact h2
  | 1 => show g.b ≤ 500; omega
  | 2 => show g.c ≤ 500; omega
  | n + 3 => show g.d ≤ 500; omega
/-- The k-th line printed. -/
def PL (g : Gd) (k : Nat) : List UInt8 := if k < 9 then NM.getD (k + 1) [] ++ 32 :: wd (g.on (k + 1)) else NU.getD (k - 9) [] ++ 32 :: Lib.decDigits (g.num (k - 9))
/-- What is read of the first k lines. -/
def FP (g : Gd) (k : Nat) : Cfg := ⟨fun i => if 1 ≤ i ∧ i ≤ k ∧ i ≤ 9 then g.on i else plain.on i, if 10 ≤ k then g.a else 80, if 11 ≤ k then g.b else 2, if 12 ≤ k then g.c else 2, if 13 ≤ k then g.d else 20⟩
/-- The first k lines. -/
def SP (g : Gd) : Nat → List UInt8
  | 0 => []
  | k + 1 => SP g k ++ (PL g k ++ [10])
theorem dig_byte (d : Nat) (h : d < 10) : dig (UInt8.ofNat (48 + d)) = true ∧ sp (UInt8.ofNat (48 + d)) = false ∧ UInt8.ofNat (48 + d) ≠ 10 ∧ (UInt8.ofNat (48 + d)).toNat = 48 + d := by
  have h2 : ∀ j : Fin 10, dig (UInt8.ofNat (48 + j.1)) = true ∧ sp (UInt8.ofNat (48 + j.1)) = false ∧ UInt8.ofNat (48 + j.1) ≠ 10 ∧ (UInt8.ofNat (48 + j.1)).toNat = 48 + j.1 := by decide
  exact h2 ⟨d, h⟩
theorem dec_list (n : Nat) (h : n ≤ 500) : ∃ ds : List Nat, Lib.decDigits n = ds.map (fun d => UInt8.ofNat (48 + d)) ∧ (∀ d ∈ ds, d < 10) ∧ 1 ≤ ds.length ∧ ds.length ≤ 3 ∧ ds.foldl (fun n d => 10 * n + d) 0 = n := by
  by_cases h1 : n < 10
  · exact ⟨[n], by rw [Lib.decDigits_one h1]; rfl, by simp; omega, by simp, by simp, by simp⟩
  · by_cases h2 : n < 100
    · refine ⟨[n / 10, n % 10], by rw [Lib.decDigits_two h1 h2]; rfl, ?_, by simp, by simp, ?_⟩
      · intro d hd
        simp at hd
        omega
      · show 10 * (10 * 0 + n / 10) + n % 10 = n
        omega
    · refine ⟨[n / 10 / 10, n / 10 % 10, n % 10], ?_, ?_, by simp, by simp, ?_⟩
      · rw [Lib.decDigits, dif_neg h1, Lib.decDigits_two (by omega) (by omega)]
        rfl
      · intro d hd
        simp at hd
        omega
      · show 10 * (10 * (10 * 0 + n / 10 / 10) + n / 10 % 10) + n % 10 = n
        omega
theorem decOf_map : ∀ (ds : List Nat) (acc : Nat), (∀ d ∈ ds, d < 10) → decOf acc (ds.map (fun d => UInt8.ofNat (48 + d))) = ds.foldl (fun n d => 10 * n + d) acc
  | [], acc, _ => rfl
  | d :: ds, acc, h => by
    show decOf (10 * acc + ((UInt8.ofNat (48 + d)).toNat - 48)) (ds.map _) = _
    rw [(dig_byte d (h d (by simp))).2.2.2, show 48 + d - 48 = d by omega]
    exact decOf_map ds _ (fun x hx => h x (by simp [hx]))
theorem dec_facts (n : Nat) (h : n ≤ 500) : Lib.decDigits n ≠ [] ∧ (∀ c ∈ Lib.decDigits n, sp c = false) ∧ (10 ∉ Lib.decDigits n) ∧ numF (Lib.decDigits n) = some n ∧ (Lib.decDigits n).length ≤ 3 := by
  obtain ⟨ds, e, h10, h1, h3, hf⟩ := dec_list n h
  rw [e]
  refine ⟨?_, ?_, ?_, ?_, by simpa using h3⟩
  · intro h0
    rw [List.map_eq_nil_iff] at h0
    subst h0
    simp at h1
  · intro c hc
    obtain ⟨d, hd, rfl⟩ := List.mem_map.1 hc
    exact (dig_byte d (h10 d hd)).2.1
  · intro hc
    obtain ⟨d, hd, h⟩ := List.mem_map.1 hc
    exact (dig_byte d (h10 d hd)).2.2.1 h
  · have hall : (ds.map (fun d => UInt8.ofNat (48 + d))).all dig = true := by
      rw [List.all_eq_true]
      intro c hc
      obtain ⟨d, hd, rfl⟩ := List.mem_map.1 hc
      exact (dig_byte d (h10 d hd)).1
    unfold numF
    rw [if_pos ⟨by simpa using h1, by simpa using h3, hall⟩, decOf_map ds 0 h10, hf]
theorem nu_facts (j : Nat) (hj : j < 4) : NU.getD j [] ≠ [] ∧ (∀ c ∈ NU.getD j [], sp c = false) ∧ (10 ∉ NU.getD j []) ∧ fi (NU.getD j []) NM 0 = -1 ∧ fi (NU.getD j []) NU 0 = (j : Int) ∧ (NU.getD j []).length ≤ 6 := by
  have h : ∀ j : Fin 4, NU.getD j.1 [] ≠ [] ∧ (∀ c ∈ NU.getD j.1 [], sp c = false) ∧ (10 ∉ NU.getD j.1 []) ∧ fi (NU.getD j.1 []) NM 0 = -1 ∧ fi (NU.getD j.1 []) NU 0 = (j.1 : Int) ∧ (NU.getD j.1 []).length ≤ 6 := by decide
  exact h ⟨j, hj⟩
theorem FP_zero (g : Gd) : FP g 0 = plain := by
  unfold FP plain
  congr 1
  funext i
  rw [if_neg (by omega)]
theorem FP_on (g : Gd) (k : Nat) (hk : k < 9) : setOn (FP g k) (k + 1) (g.on (k + 1)) = FP g (k + 1) := by
  unfold FP setOn
  congr 1
  · funext i
    show (if i = k + 1 then g.on (k + 1) else (if 1 ≤ i ∧ i ≤ k ∧ i ≤ 9 then g.on i else plain.on i)) = _
    by_cases h : i = k + 1
    · subst h
      rw [if_pos rfl, if_pos ⟨by omega, by omega, by omega⟩]
    · rw [if_neg h]
      by_cases h2 : 1 ≤ i ∧ i ≤ k ∧ i ≤ 9
      · rw [if_pos h2, if_pos ⟨h2.1, by omega, h2.2.2⟩]
      · rw [if_neg h2, if_neg (fun h3 => h2 ⟨h3.1, by omega, h3.2.2⟩)]
  · show (if 10 ≤ k then (g.a : Int) else 80) = _
    rw [if_neg (by omega), if_neg (by omega)]
  · show (if 11 ≤ k then (g.b : Int) else 2) = _
    rw [if_neg (by omega), if_neg (by omega)]
  · show (if 12 ≤ k then (g.c : Int) else 2) = _
    rw [if_neg (by omega), if_neg (by omega)]
  · show (if 13 ≤ k then (g.d : Int) else 20) = _
    rw [if_neg (by omega), if_neg (by omega)]
theorem FP_oneq (g : Gd) (k : Nat) (hk : 9 ≤ k) : (FP g (k + 1)).on = (FP g k).on := by
  unfold FP
  funext i
  show (if 1 ≤ i ∧ i ≤ k + 1 ∧ i ≤ 9 then g.on i else plain.on i) = (if 1 ≤ i ∧ i ≤ k ∧ i ≤ 9 then g.on i else plain.on i)
  by_cases h : 1 ≤ i ∧ i ≤ k ∧ i ≤ 9
  · rw [if_pos h, if_pos ⟨h.1, by omega, h.2.2⟩]
  · rw [if_neg h, if_neg (fun h3 => h ⟨h3.1, by omega, h3.2.2⟩)]
theorem FP_num (g : Gd) (j : Nat) (hj : j < 4) : setN (FP g (9 + j)) (j : Int) (g.num j) = some (FP g (9 + j + 1)) := by
  have e := FP_oneq g (9 + j) (by omega)
  match j, hj with
  | 0, _ => exact congrArg some (by unfold FP at e ⊢; simp only at e; simp [e, Gd.num])
  | 1, _ => exact congrArg some (by unfold FP at e ⊢; simp only at e; simp [e, Gd.num])
  | 2, _ => exact congrArg some (by unfold FP at e ⊢; simp only at e; simp [e, Gd.num])
  | 3, _ => exact congrArg some (by unfold FP at e ⊢; simp only at e; simp [e, Gd.num])
theorem FP_end (g : Gd) : FP g 13 = g.cfg := by
  unfold FP Gd.cfg
  congr 1
  funext i
  by_cases h : 1 ≤ i ∧ i ≤ 9
  · rw [if_pos ⟨h.1, by omega, h.2⟩, if_pos h]
  · rw [if_neg (fun h2 => h ⟨h2.1, h2.2.2⟩), if_neg h]
    unfold plain
    by_cases h0 : 0 < i
    · have : ¬ i ≤ 9 := fun h9 => h ⟨h0, h9⟩
      simp [this]
    · simp [h0]
theorem PL_line (g : Gd) (hg : g.Ok) (k : Nat) (hk : k < 13) : lineF (FP g k) (wds (PL g k)) = some (FP g (k + 1)) ∧ 10 ∉ PL g k := by
  unfold PL
  by_cases h : k < 9
  · rw [if_pos h]
    have := line_on (FP g k) k h (g.on (k + 1))
    rw [FP_on g k h] at this
    exact this
  · rw [if_neg h]
    obtain ⟨j, rfl⟩ : ∃ j, k = 9 + j := ⟨k - 9, by omega⟩
    rw [show 9 + j - 9 = j by omega]
    obtain ⟨n1, n2, n3, n4, n5, _⟩ := nu_facts j (by omega)
    obtain ⟨d1, d2, d3, d4, _⟩ := dec_facts (g.num j) (g.num_le hg j)
    constructor
    · rw [wds_two _ _ n1 n2 d1 d2, lineF_num _ _ _ (-1) n4 (by decide) (j : Int) n5, d4]
      exact FP_num g j (by omega)
    · rw [List.mem_append, List.mem_cons]
      rintro (h | h | h)
      · exact n3 h
      · cases h
      · exact d3 h
theorem SP_acc (g : Gd) (hg : g.Ok) : ∀ k, k ≤ 13 → Acc (SP g k) (FP g k)
  | 0, _ => by rw [FP_zero]; exact acc_nil
  | k + 1, h => acc_line (SP_acc g hg k (by omega)) (PL_line g hg k (by omega)).2 (PL_line g hg k (by omega)).1
theorem PL_len (g : Gd) (hg : g.Ok) (k : Nat) (hk : k < 13) : (PL g k).length ≤ 10 := by
  unfold PL
  by_cases h : k < 9
  · rw [if_pos h]
    have h1 := (nm_facts k h).2.2.2.2
    have h3 : (wd (g.on (k + 1))).length ≤ 3 := by cases g.on (k + 1) <;> decide
    simp only [List.length_append, List.length_cons]
    omega
  · rw [if_neg h]
    have h1 := (nu_facts (k - 9) (by omega)).2.2.2.2.2
    have h3 := (dec_facts (g.num (k - 9)) (g.num_le hg _)).2.2.2.2
    simp only [List.length_append, List.length_cons]
    omega
theorem SP_len (g : Gd) (hg : g.Ok) : ∀ k, k ≤ 13 → (SP g k).length ≤ 20 * k
  | 0, _ => by simp [SP]
  | k + 1, h => by
    have h1 := SP_len g hg k (by omega)
    have h2 := PL_len g hg k (by omega)
    show (SP g k ++ (PL g k ++ [10])).length ≤ _
    simp only [List.length_append, List.length_cons, List.length_nil]
    omega
theorem SP_parse (g : Gd) (hg : g.Ok) : parseF (SP g 13) = (g.cfg, 0) := by
  have h := SP_acc g hg 13 (Nat.le_refl _)
  rw [FP_end] at h
  exact acc_parse h (by have := SP_len g hg 13 (Nat.le_refl _); omega) (g.ok hg)
end Go.Proofs.YtcbmeklhmajglaaDoor
end
section
namespace Go.Proofs.YtcbmeklhmajglaaDoor
open Go.RowKit Go.CfgLaw Go.Proofs.YtcbmeklhmajglaaDoorW.PrintWords Go.Proofs.YtcbmeklhmajglaaDoorW.PrintLast Go.Proofs.YtcbmeklhmajglaaDoorW.PrintMore
set_option linter.unusedVariables false
attribute [local go_sem] setCell_drewN alloc_drewN
attribute [local simp] setCell_drewN alloc_drewN
theorem gcells (g : Gd) : cells g.cfg = #[.bool false, .bool (g.on 1), .bool (g.on 2), .bool (g.on 3), .bool (g.on 4), .bool (g.on 5), .bool (g.on 6), .bool (g.on 7), .bool (g.on 8), .bool (g.on 9), .int .i64 (g.a : Int), .int .i64 (g.b : Int), .int .i64 (g.c : Int), .int .i64 (g.d : Int)] := rfl
theorem gcell_on (g : Gd) (i : Nat) (h1 : 1 ≤ i) (h9 : i ≤ 9) : (#[.bool false, .bool (g.on 1), .bool (g.on 2), .bool (g.on 3), .bool (g.on 4), .bool (g.on 5), .bool (g.on 6), .bool (g.on 7), .bool (g.on 8), .bool (g.on 9), .int .i64 (g.a : Int), .int .i64 (g.b : Int), .int .i64 (g.c : Int), .int .i64 (g.d : Int)] : Array Value)[i]? = some (.bool (g.on i)) := by
  match i, h1, h9 with
  | 1, _, _ => rfl
  | 2, _, _ => rfl
  | 3, _, _ => rfl
  | 4, _, _ => rfl
  | 5, _, _ => rfl
  | 6, _, _ => rfl
  | 7, _, _ => rfl
  | 8, _, _ => rfl
  | 9, _, _ => rfl
  | n + 10, _, h => exact absurd h (by omega)
theorem names_at {w : World} {q : Nat} (h : w.heap[q]? = some namesO) (n : Nat) (hn : n < 10) : w.cell? ⟨q, n, none⟩ = some (.string (ofL (NM.getD n []))) := by
  rw [cell_of_row w q n _ 9 (0, 0) h]
  match n, hn with
  | 0, _ => rfl
  | 1, _ => rfl
  | 2, _ => rfl
  | 3, _ => rfl
  | 4, _ => rfl
  | 5, _ => rfl
  | 6, _ => rfl
  | 7, _ => rfl
  | 8, _ => rfl
  | 9, _ => rfl
  | m + 10, h => exact absurd h (by omega)
theorem sp_next (g : Gd) (k : Nat) : SP g (k + 1) = SP g k ++ (PL g k ++ [10]) := rfl
theorem dgs_data (n : Nat) : (dgs n).data.toList = Lib.decDigits n := by simp [dgs]
theorem dgs_len (n : Nat) (h : n ≤ 500) : (dgs n).size ≤ 3 := by
  have h1 : (dgs n).data.toList.length = (dgs n).size := by simp
  rw [dgs_data] at h1
  have := (dec_facts n h).2.2.2.2
  omega
/-- A line's text, as row makes it. -/
theorem row_rule (g : Gd) (k : Nat) (hk : k < 9) : ofL (((ofL (NM.getD (k + 1) [])).data.toList ++ 32 :: (ofL (wd (g.on (k + 1)))).data.toList) ++ [10]) = ofL (PL g k ++ [10]) := by
  unfold PL
  rw [if_pos hk]
  simp [ofL]
theorem row_num (g : Gd) (j : Nat) : ofL (((ofL (NU.getD j [])).data.toList ++ 32 :: (dgs (g.num j)).data.toList) ++ [10]) = ofL (PL g (9 + j) ++ [10]) := by
  unfold PL
  rw [if_neg (by omega), dgs_data, show 9 + j - 9 = j by omega]
  simp [ofL]
set_option maxRecDepth 100000 in
set_option maxHeartbeats 8000000 in
theorem print13 (g : Gd) (hg : g.Ok) (w : World) (hw : Pw w) : Calls Tryd.prog 13 #[.agg #[.bool false, .bool (g.on 1), .bool (g.on 2), .bool (g.on 3), .bool (g.on 4), .bool (g.on 5), .bool (g.on 6), .bool (g.on 7), .bool (g.on 8), .bool (g.on 9), .int .i64 (g.a : Int), .int .i64 (g.b : Int), .int .i64 (g.c : Int), .int .i64 (g.d : Int)]] w fun e w' => e = .returned (.string (ofL (SP g 13))) ∧ Below w.heap.size w w' := by
  have HG := Aside0.mk hg
  have HW := Aside0.mk hw
  clear hg hw
  go_enter Tryd.func13, Tryd.ntmps13
  go_wp2_with (first
    | (go_at_call 23; (with_reducible refine (names23 _).mono ?_); rintro e w2 ⟨rfl, rfl⟩)
    | fail)
  go_loopw [3, 11] (fun v3 v11 wr => ∃ (s : ByteArray) (i : Nat), v3 = .string s ∧ v11 = .int .i64 i ∧ i ≤ 10 ∧ s.data.toList = SP g (i - 1) ∧ s.size ≤ 20 * i ∧ wr.heap[w.heap.size]? = some (.cells #[.bool false, .bool (g.on 1), .bool (g.on 2), .bool (g.on 3), .bool (g.on 4), .bool (g.on 5), .bool (g.on 6), .bool (g.on 7), .bool (g.on 8), .bool (g.on 9), .int .i64 (g.a : Int), .int .i64 (g.b : Int), .int .i64 (g.c : Int), .int .i64 (g.d : Int)] 28) ∧ wr.heap[w.heap.size + 1]? = some namesO ∧ Below w.heap.size w wr) (fun _ v11 _ => 10 - (intOf v11).toNat)
  case atStart =>
    refine ⟨⟨#[]⟩, 0, rfl, rfl, by omega, rfl, by decide, heap_al (heap_alloc_new w _), ?_, ((Below.refl _ w).alloc (Nat.le_refl _) _).alloc (by simp) _⟩
    have h2 := heap_alloc_new (w.alloc (.cells #[.bool false, .bool (g.on 1), .bool (g.on 2), .bool (g.on 3), .bool (g.on 4), .bool (g.on 5), .bool (g.on 6), .bool (g.on 7), .bool (g.on 8), .bool (g.on 9), .int .i64 (g.a : Int), .int .i64 (g.b : Int), .int .i64 (g.c : Int), .int .i64 (g.d : Int)] 28)) namesO
    have e : (w.alloc (.cells #[.bool false, .bool (g.on 1), .bool (g.on 2), .bool (g.on 3), .bool (g.on 4), .bool (g.on 5), .bool (g.on 6), .bool (g.on 7), .bool (g.on 8), .bool (g.on 9), .int .i64 (g.a : Int), .int .i64 (g.b : Int), .int .i64 (g.c : Int), .int .i64 (g.d : Int)] 28)).heap.size = w.heap.size + 1 := by simp
    rw [e] at h2
    exact h2
  case round =>
    obtain ⟨s, i, rfl, rfl, hi, hs, hsz, hq, hn, hB⟩ := hrel
    by_cases hlt : i < 10
    · have hltz : (i : Int) < 10 := by omega
      have hu := names_at hn i hlt
      by_cases h0 : i = 0
      · subst h0
        have HX := Aside0.mk (And.intro hs (And.intro hq (And.intro hn hB)))
        replace hu : wr.cell? ⟨w.heap.size + 1, 0, none⟩ = some (.string ⟨#[]⟩) := hu
        clear hs hq hn
        go_wp2
        go_roundw
        case rel => exact ⟨s, 1, rfl, by simp, by omega, HX.out.1, by omega, HX.out.2.1, HX.out.2.2.1, HX.out.2.2.2⟩
        case measure => simp [intOf]
      · obtain ⟨k, hI⟩ : ∃ k, k + 1 = i := ⟨i - 1, by omega⟩
        rw [show i - 1 = k by omega] at hs
        replace hu : wr.cell? ⟨w.heap.size + 1, i, none⟩ = some (.string (ofL (NM.getD (k + 1) []))) := by rw [hI]; exact hu
        have hon : wr.cell? ⟨w.heap.size, i, none⟩ = some (.bool (g.on (k + 1))) := by
          rw [hI]
          exact (cell_of_row wr w.heap.size i _ 28 (0, 0) hq).trans (gcell_on g i (by omega) (by omega))
        obtain ⟨h1, h2, h3, h4, h5⟩ := nm_facts k (by omega)
        have hrr := row_rule g k (by omega)
        have hule : ((ofL (NM.getD (k + 1) [])).toList == []) = false := by
          rw [beq_on]
          apply decide_eq_false
          simpa [ofL] using h1
        have huz : (ofL (NM.getD (k + 1) [])).size ≤ 1000 := by rw [ofL_size]; omega
        obtain ⟨U, hU⟩ : ∃ U, ofL (NM.getD (k + 1) []) = U := ⟨_, rfl⟩
        rw [hU] at hu hule huz hrr
        obtain ⟨x, hx⟩ : ∃ x, g.on (k + 1) = x := ⟨_, rfl⟩
        rw [hx] at hon hrr
        have hwl : (ofL (wd x)).size ≤ 1000 := by cases x <;> decide
        have hrow := fun W c0 c1 => row24 wr.heap.size U (ofL (wd x)) W c0 c1 huz hwl
        rw [hrr] at hrow
        have hpl := PL_len g HG.out k (by omega)
        obtain ⟨J, hJ⟩ : ∃ J, ofL (PL g k ++ [10]) = J := ⟨_, rfl⟩
        have hJs : J.size ≤ 11 := by rw [← hJ, ofL_size]; simp only [List.length_append, List.length_cons, List.length_nil]; omega
        have hJd : J.data.toList = PL g k ++ [10] := by rw [← hJ]; simp [ofL]
        rw [hJ] at hrow
        obtain ⟨T, s1, d1, e1⟩ := add_cat s J (by omega)
        have hT : T.data.toList = SP g (k + 1) := by rw [d1, hJd, hs]; rfl
        have hTs : T.size ≤ 20 * (k + 1 + 1) := by omega
        have hi0 : (0 : Int) ≤ i := by omega
        have HX := Aside0.mk (And.intro hT (And.intro hTs (And.intro hq (And.intro hn (And.intro hB hI)))))
        clear hs hq hn h1 h2 h3 h4 h5 hrr hU hx hwl huz hpl hJ hJs hJd s1 d1 hT hTs hI
        cases x
        · have hrow2 : ∀ W : World, W.cell? ⟨wr.heap.size, 0, none⟩ = some (.string U) → W.cell? ⟨wr.heap.size, 1, none⟩ = some (.string { data := #[111, 102, 102] }) → Calls Tryd.prog 24 #[.slice (some ⟨wr.heap.size, 0, none⟩) 2 2] W fun e w' => e = .returned (.string J) ∧ Below W.heap.size W w' := hrow
          clear hrow
          go_wp2_with (first
            | (go_at_call 24; (with_reducible refine (hrow2 _ (by exact (cell_of_row (wr.alloc (.cells _ 9)) wr.heap.size 0 _ 9 (0, 0) (heap_alloc_new wr _)).trans rfl) (by exact (cell_of_row (wr.alloc (.cells _ 9)) wr.heap.size 1 _ 9 (0, 0) (heap_alloc_new wr _)).trans rfl)).mono ?_); rintro e w2 ⟨rfl, hB2⟩)
            | fail)
          go_roundw
          case measure => simp only [intOf]; omega
          case rel =>
            have hI := HX.out.2.2.2.2.2
            subst hI
            have hB3 : Below w.heap.size w w2 := (HX.out.2.2.2.2.1.alloc HX.out.2.2.2.2.1.size _).trans (hB2.mono (by have := HX.out.2.2.2.2.1.size; simp; omega))
            exact ⟨T, k + 1 + 1, rfl, by simp, by omega, HX.out.1, HX.out.2.1, keepb hB2 (heap_al HX.out.2.2.1), keepb hB2 (heap_al HX.out.2.2.2.1), hB3⟩
        · have hrow2 : ∀ W : World, W.cell? ⟨wr.heap.size, 0, none⟩ = some (.string U) → W.cell? ⟨wr.heap.size, 1, none⟩ = some (.string { data := #[111, 110] }) → Calls Tryd.prog 24 #[.slice (some ⟨wr.heap.size, 0, none⟩) 2 2] W fun e w' => e = .returned (.string J) ∧ Below W.heap.size W w' := hrow
          clear hrow
          go_wp2_with (first
            | (go_at_call 24; (with_reducible refine (hrow2 _ (by exact (cell_of_row (wr.alloc (.cells _ 9)) wr.heap.size 0 _ 9 (0, 0) (heap_alloc_new wr _)).trans rfl) (by exact (cell_of_row (wr.alloc (.cells _ 9)) wr.heap.size 1 _ 9 (0, 0) (heap_alloc_new wr _)).trans rfl)).mono ?_); rintro e w2 ⟨rfl, hB2⟩)
            | fail)
          go_roundw
          case measure => simp only [intOf]; omega
          case rel =>
            have hI := HX.out.2.2.2.2.2
            subst hI
            have hB3 : Below w.heap.size w w2 := (HX.out.2.2.2.2.1.alloc HX.out.2.2.2.2.1.size _).trans (hB2.mono (by have := HX.out.2.2.2.2.1.size; simp; omega))
            exact ⟨T, k + 1 + 1, rfl, by simp, by omega, HX.out.1, HX.out.2.1, keepb hB2 (heap_al HX.out.2.2.1), keepb hB2 (heap_al HX.out.2.2.2.1), hB3⟩
    · have hi10 : i - 1 = 9 := by omega
      have hltz : ¬ (i : Int) < 10 := by omega
      have hs2 : s.data.toList = SP g (9 + 0) := by rw [hs, hi10]
      clear hi10
      have hsz2 : s.size ≤ 200 + 20 * 0 := by omega
      have HX := Aside0.mk (And.intro hs2 (And.intro hsz2 (And.intro hq hB)))
      clear hs hsz hq hn hs2 hsz2
      go_wp2
      generalize wr = W0 at *
      go_loopw [3, 31] (fun v3 v31 wr => ∃ (s : ByteArray) (j : Nat), v3 = .string s ∧ v31 = .int .i64 j ∧ j ≤ 4 ∧ s.data.toList = SP g (9 + j) ∧ s.size ≤ 200 + 20 * j ∧ wr.heap[w.heap.size]? = some (.cells #[.bool false, .bool (g.on 1), .bool (g.on 2), .bool (g.on 3), .bool (g.on 4), .bool (g.on 5), .bool (g.on 6), .bool (g.on 7), .bool (g.on 8), .bool (g.on 9), .int .i64 (g.a : Int), .int .i64 (g.b : Int), .int .i64 (g.c : Int), .int .i64 (g.d : Int)] 28) ∧ wr.heap[W0.heap.size]? = some numbersO ∧ Below w.heap.size w wr) (fun _ v31 _ => 4 - (intOf v31).toNat)
      case atStart => exact ⟨s, 0, rfl, rfl, by omega, HX.out.1, HX.out.2.1, heap_al HX.out.2.2.1, heap_alloc_new W0 _, HX.out.2.2.2.alloc HX.out.2.2.2.size _⟩
      case round =>
        obtain ⟨s, j, rfl, rfl, hj, hs, hsz, hq, hn, hB⟩ := hrel
        have hc := fun j => cell_of_row wr W0.heap.size j _ 9 (0, 0) hn
        have hd := fun j => cell_of_row wr w.heap.size j _ 28 (0, 0) hq
        have hWr := HW.out.below hB
        have hnl := fun j => g.num_le HG.out j
        rcases (show j = 0 ∨ j = 1 ∨ j = 2 ∨ j = 3 ∨ j = 4 by omega) with rfl | rfl | rfl | rfl | rfl
        · have h26 : ∀ W : World, Calls Tryd.prog 26 #[.pointer (some ⟨w.heap.size, 0, none⟩), .string { data := #[119, 105, 100, 116, 104] }] W fun e w' => e = .returned (.pointer (some ⟨w.heap.size, 10, none⟩)) ∧ w' = W := fun W => place26 w.heap.size { data := #[119, 105, 100, 116, 104] } 0 (by decide) W
          have h25 := fun W hW => itoa25 (g.num 0) (by have := hnl 0; omega) W hW
          have hD := dgs_len (g.num 0) (hnl 0)
          have hrow := fun bk W c0 c1 => row24 bk { data := #[119, 105, 100, 116, 104] } (dgs (g.num 0)) W c0 c1 (by decide) (by omega)
          have hrr : ofL ((({ data := #[119, 105, 100, 116, 104] } : ByteArray).data.toList ++ 32 :: (dgs (g.num 0)).data.toList) ++ [10]) = ofL (PL g (9 + 0) ++ [10]) := row_num g 0
          rw [hrr] at hrow
          have hpl := PL_len g HG.out (9 + 0) (by omega)
          obtain ⟨J, hJ⟩ : ∃ J, ofL (PL g (9 + 0) ++ [10]) = J := ⟨_, rfl⟩
          have hJs : J.size ≤ 11 := by rw [← hJ, ofL_size]; simp only [List.length_append, List.length_cons, List.length_nil]; omega
          have hJd : J.data.toList = PL g (9 + 0) ++ [10] := by rw [← hJ]; simp [ofL]
          rw [hJ] at hrow
          obtain ⟨T, s1, d1, e1⟩ := add_cat s J (by omega)
          have hT : T.data.toList = SP g (9 + 1) := by rw [d1, hJd, hs]; rfl
          have hTs : T.size ≤ 200 + 20 * 1 := by omega
          have HY := Aside0.mk (And.intro hT (And.intro hTs (And.intro hq (And.intro hn hB))))
          replace h25 : ∀ W, Pw W → Calls Tryd.prog 25 #[.int .i64 (g.a : Int)] W fun e w' => e = .returned (.string (dgs (g.num 0))) ∧ Below W.heap.size W w' := h25
          generalize dgs (g.num 0) = D at h25 hrow
          clear hs hsz hq hn hpl hJ hJs hJd s1 d1 hT hTs hrr hD hnl
          have hc0 := hc 0
          have hd0 := hd 10
          replace hc0 : wr.cell? ⟨W0.heap.size, 0, none⟩ = some (.string { data := #[119, 105, 100, 116, 104] }) := hc0
          replace hd0 : wr.cell? ⟨w.heap.size, 10, none⟩ = some (.int .i64 (g.a : Int)) := hd0
          clear hc hd
          go_wp2_with (first
            | (go_at_call 26; (with_reducible refine (h26 _).mono ?_); rintro e w' ⟨rfl, hw'⟩; have hw2 := hw'.symm; subst hw2)
            | (go_at_call 25; (with_reducible refine (h25 _ hWr).mono ?_); rintro e w4 ⟨rfl, hB4⟩)
            | (go_at_call 24; (with_reducible refine (hrow w4.heap.size (w4.alloc _) (by exact (cell_of_row (w4.alloc (.cells _ 9)) w4.heap.size 0 _ 9 (0, 0) (heap_alloc_new w4 _)).trans rfl) (by exact (cell_of_row (w4.alloc (.cells _ 9)) w4.heap.size 1 _ 9 (0, 0) (heap_alloc_new w4 _)).trans rfl)).mono ?_); rintro e w5 ⟨rfl, hB5⟩)
            | fail)
          go_roundw
          case measure => simp [intOf]
          case rel =>
            have L4 : Below w.heap.size w w4 := belK HY.out.2.2.2.2 hB4
            exact ⟨T, 1, rfl, rfl, by omega, HY.out.1, HY.out.2.1, keepb hB5 (heap_al (keepb hB4 HY.out.2.2.1)), keepb hB5 (heap_al (keepb hB4 HY.out.2.2.2.1)), (L4.alloc L4.size _).trans (hB5.mono (by have := L4.size; simp; omega))⟩
        · have h26 : ∀ W : World, Calls Tryd.prog 26 #[.pointer (some ⟨w.heap.size, 0, none⟩), .string { data := #[105, 110, 100, 101, 110, 116] }] W fun e w' => e = .returned (.pointer (some ⟨w.heap.size, 11, none⟩)) ∧ w' = W := fun W => place26 w.heap.size { data := #[105, 110, 100, 101, 110, 116] } 1 (by decide) W
          have h25 := fun W hW => itoa25 (g.num 1) (by have := hnl 1; omega) W hW
          have hD := dgs_len (g.num 1) (hnl 1)
          have hrow := fun bk W c0 c1 => row24 bk { data := #[105, 110, 100, 101, 110, 116] } (dgs (g.num 1)) W c0 c1 (by decide) (by omega)
          have hrr : ofL ((({ data := #[105, 110, 100, 101, 110, 116] } : ByteArray).data.toList ++ 32 :: (dgs (g.num 1)).data.toList) ++ [10]) = ofL (PL g (9 + 1) ++ [10]) := row_num g 1
          rw [hrr] at hrow
          have hpl := PL_len g HG.out (9 + 1) (by omega)
          obtain ⟨J, hJ⟩ : ∃ J, ofL (PL g (9 + 1) ++ [10]) = J := ⟨_, rfl⟩
          have hJs : J.size ≤ 11 := by rw [← hJ, ofL_size]; simp only [List.length_append, List.length_cons, List.length_nil]; omega
          have hJd : J.data.toList = PL g (9 + 1) ++ [10] := by rw [← hJ]; simp [ofL]
          rw [hJ] at hrow
          obtain ⟨T, s1, d1, e1⟩ := add_cat s J (by omega)
          have hT : T.data.toList = SP g (9 + 2) := by rw [d1, hJd, hs]; rfl
          have hTs : T.size ≤ 200 + 20 * 2 := by omega
          have HY := Aside0.mk (And.intro hT (And.intro hTs (And.intro hq (And.intro hn hB))))
          replace h25 : ∀ W, Pw W → Calls Tryd.prog 25 #[.int .i64 (g.b : Int)] W fun e w' => e = .returned (.string (dgs (g.num 1))) ∧ Below W.heap.size W w' := h25
          generalize dgs (g.num 1) = D at h25 hrow
          clear hs hsz hq hn hpl hJ hJs hJd s1 d1 hT hTs hrr hD hnl
          have hc0 := hc 1
          have hd0 := hd 11
          replace hc0 : wr.cell? ⟨W0.heap.size, 1, none⟩ = some (.string { data := #[105, 110, 100, 101, 110, 116] }) := hc0
          replace hd0 : wr.cell? ⟨w.heap.size, 11, none⟩ = some (.int .i64 (g.b : Int)) := hd0
          clear hc hd
          go_wp2_with (first
            | (go_at_call 26; (with_reducible refine (h26 _).mono ?_); rintro e w' ⟨rfl, hw'⟩; have hw2 := hw'.symm; subst hw2)
            | (go_at_call 25; (with_reducible refine (h25 _ hWr).mono ?_); rintro e w4 ⟨rfl, hB4⟩)
            | (go_at_call 24; (with_reducible refine (hrow w4.heap.size (w4.alloc _) (by exact (cell_of_row (w4.alloc (.cells _ 9)) w4.heap.size 0 _ 9 (0, 0) (heap_alloc_new w4 _)).trans rfl) (by exact (cell_of_row (w4.alloc (.cells _ 9)) w4.heap.size 1 _ 9 (0, 0) (heap_alloc_new w4 _)).trans rfl)).mono ?_); rintro e w5 ⟨rfl, hB5⟩)
            | fail)
          go_roundw
          case measure => simp [intOf]
          case rel =>
            have L4 : Below w.heap.size w w4 := belK HY.out.2.2.2.2 hB4
            exact ⟨T, 2, rfl, rfl, by omega, HY.out.1, HY.out.2.1, keepb hB5 (heap_al (keepb hB4 HY.out.2.2.1)), keepb hB5 (heap_al (keepb hB4 HY.out.2.2.2.1)), (L4.alloc L4.size _).trans (hB5.mono (by have := L4.size; simp; omega))⟩
        · have h26 : ∀ W : World, Calls Tryd.prog 26 #[.pointer (some ⟨w.heap.size, 0, none⟩), .string { data := #[108, 105, 110, 101, 115] }] W fun e w' => e = .returned (.pointer (some ⟨w.heap.size, 12, none⟩)) ∧ w' = W := fun W => place26 w.heap.size { data := #[108, 105, 110, 101, 115] } 2 (by decide) W
          have h25 := fun W hW => itoa25 (g.num 2) (by have := hnl 2; omega) W hW
          have hD := dgs_len (g.num 2) (hnl 2)
          have hrow := fun bk W c0 c1 => row24 bk { data := #[108, 105, 110, 101, 115] } (dgs (g.num 2)) W c0 c1 (by decide) (by omega)
          have hrr : ofL ((({ data := #[108, 105, 110, 101, 115] } : ByteArray).data.toList ++ 32 :: (dgs (g.num 2)).data.toList) ++ [10]) = ofL (PL g (9 + 2) ++ [10]) := row_num g 2
          rw [hrr] at hrow
          have hpl := PL_len g HG.out (9 + 2) (by omega)
          obtain ⟨J, hJ⟩ : ∃ J, ofL (PL g (9 + 2) ++ [10]) = J := ⟨_, rfl⟩
          have hJs : J.size ≤ 11 := by rw [← hJ, ofL_size]; simp only [List.length_append, List.length_cons, List.length_nil]; omega
          have hJd : J.data.toList = PL g (9 + 2) ++ [10] := by rw [← hJ]; simp [ofL]
          rw [hJ] at hrow
          obtain ⟨T, s1, d1, e1⟩ := add_cat s J (by omega)
          have hT : T.data.toList = SP g (9 + 3) := by rw [d1, hJd, hs]; rfl
          have hTs : T.size ≤ 200 + 20 * 3 := by omega
          have HY := Aside0.mk (And.intro hT (And.intro hTs (And.intro hq (And.intro hn hB))))
          replace h25 : ∀ W, Pw W → Calls Tryd.prog 25 #[.int .i64 (g.c : Int)] W fun e w' => e = .returned (.string (dgs (g.num 2))) ∧ Below W.heap.size W w' := h25
          generalize dgs (g.num 2) = D at h25 hrow
          clear hs hsz hq hn hpl hJ hJs hJd s1 d1 hT hTs hrr hD hnl
          have hc0 := hc 2
          have hd0 := hd 12
          replace hc0 : wr.cell? ⟨W0.heap.size, 2, none⟩ = some (.string { data := #[108, 105, 110, 101, 115] }) := hc0
          replace hd0 : wr.cell? ⟨w.heap.size, 12, none⟩ = some (.int .i64 (g.c : Int)) := hd0
          clear hc hd
          go_wp2_with (first
            | (go_at_call 26; (with_reducible refine (h26 _).mono ?_); rintro e w' ⟨rfl, hw'⟩; have hw2 := hw'.symm; subst hw2)
            | (go_at_call 25; (with_reducible refine (h25 _ hWr).mono ?_); rintro e w4 ⟨rfl, hB4⟩)
            | (go_at_call 24; (with_reducible refine (hrow w4.heap.size (w4.alloc _) (by exact (cell_of_row (w4.alloc (.cells _ 9)) w4.heap.size 0 _ 9 (0, 0) (heap_alloc_new w4 _)).trans rfl) (by exact (cell_of_row (w4.alloc (.cells _ 9)) w4.heap.size 1 _ 9 (0, 0) (heap_alloc_new w4 _)).trans rfl)).mono ?_); rintro e w5 ⟨rfl, hB5⟩)
            | fail)
          go_roundw
          case measure => simp [intOf]
          case rel =>
            have L4 : Below w.heap.size w w4 := belK HY.out.2.2.2.2 hB4
            exact ⟨T, 3, rfl, rfl, by omega, HY.out.1, HY.out.2.1, keepb hB5 (heap_al (keepb hB4 HY.out.2.2.1)), keepb hB5 (heap_al (keepb hB4 HY.out.2.2.2.1)), (L4.alloc L4.size _).trans (hB5.mono (by have := L4.size; simp; omega))⟩
        · have h26 : ∀ W : World, Calls Tryd.prog 26 #[.pointer (some ⟨w.heap.size, 0, none⟩), .string { data := #[100, 101, 112, 116, 104] }] W fun e w' => e = .returned (.pointer (some ⟨w.heap.size, 13, none⟩)) ∧ w' = W := fun W => place26 w.heap.size { data := #[100, 101, 112, 116, 104] } 3 (by decide) W
          have h25 := fun W hW => itoa25 (g.num 3) (by have := hnl 3; omega) W hW
          have hD := dgs_len (g.num 3) (hnl 3)
          have hrow := fun bk W c0 c1 => row24 bk { data := #[100, 101, 112, 116, 104] } (dgs (g.num 3)) W c0 c1 (by decide) (by omega)
          have hrr : ofL ((({ data := #[100, 101, 112, 116, 104] } : ByteArray).data.toList ++ 32 :: (dgs (g.num 3)).data.toList) ++ [10]) = ofL (PL g (9 + 3) ++ [10]) := row_num g 3
          rw [hrr] at hrow
          have hpl := PL_len g HG.out (9 + 3) (by omega)
          obtain ⟨J, hJ⟩ : ∃ J, ofL (PL g (9 + 3) ++ [10]) = J := ⟨_, rfl⟩
          have hJs : J.size ≤ 11 := by rw [← hJ, ofL_size]; simp only [List.length_append, List.length_cons, List.length_nil]; omega
          have hJd : J.data.toList = PL g (9 + 3) ++ [10] := by rw [← hJ]; simp [ofL]
          rw [hJ] at hrow
          obtain ⟨T, s1, d1, e1⟩ := add_cat s J (by omega)
          have hT : T.data.toList = SP g (9 + 4) := by rw [d1, hJd, hs]; rfl
          have hTs : T.size ≤ 200 + 20 * 4 := by omega
          have HY := Aside0.mk (And.intro hT (And.intro hTs (And.intro hq (And.intro hn hB))))
          replace h25 : ∀ W, Pw W → Calls Tryd.prog 25 #[.int .i64 (g.d : Int)] W fun e w' => e = .returned (.string (dgs (g.num 3))) ∧ Below W.heap.size W w' := h25
          generalize dgs (g.num 3) = D at h25 hrow
          clear hs hsz hq hn hpl hJ hJs hJd s1 d1 hT hTs hrr hD hnl
          have hc0 := hc 3
          have hd0 := hd 13
          replace hc0 : wr.cell? ⟨W0.heap.size, 3, none⟩ = some (.string { data := #[100, 101, 112, 116, 104] }) := hc0
          replace hd0 : wr.cell? ⟨w.heap.size, 13, none⟩ = some (.int .i64 (g.d : Int)) := hd0
          clear hc hd
          go_wp2_with (first
            | (go_at_call 26; (with_reducible refine (h26 _).mono ?_); rintro e w' ⟨rfl, hw'⟩; have hw2 := hw'.symm; subst hw2)
            | (go_at_call 25; (with_reducible refine (h25 _ hWr).mono ?_); rintro e w4 ⟨rfl, hB4⟩)
            | (go_at_call 24; (with_reducible refine (hrow w4.heap.size (w4.alloc _) (by exact (cell_of_row (w4.alloc (.cells _ 9)) w4.heap.size 0 _ 9 (0, 0) (heap_alloc_new w4 _)).trans rfl) (by exact (cell_of_row (w4.alloc (.cells _ 9)) w4.heap.size 1 _ 9 (0, 0) (heap_alloc_new w4 _)).trans rfl)).mono ?_); rintro e w5 ⟨rfl, hB5⟩)
            | fail)
          go_roundw
          case measure => simp [intOf]
          case rel =>
            have L4 : Below w.heap.size w w4 := belK HY.out.2.2.2.2 hB4
            exact ⟨T, 4, rfl, rfl, by omega, HY.out.1, HY.out.2.1, keepb hB5 (heap_al (keepb hB4 HY.out.2.2.1)), keepb hB5 (heap_al (keepb hB4 HY.out.2.2.2.1)), (L4.alloc L4.size _).trans (hB5.mono (by have := L4.size; simp; omega))⟩
        · have hsE : s = ofL (SP g 13) := ofL_of hs
          subst hsE
          clear hc hd hq hn
          go_wp2
          go_ret
          exact ⟨rfl, hB⟩
end Go.Proofs.YtcbmeklhmajglaaDoor
end
section
namespace Go.Proofs.YtcbmeklhmajglaaDoor
open Go.RowKit Go.CfgLaw Go.Proofs.YtcbmeklhmajglaaDoorW.PrintWords Go.Proofs.YtcbmeklhmajglaaDoorW.PrintLast Go.Proofs.YtcbmeklhmajglaaDoorW.PrintMore
set_option linter.unusedVariables false
attribute [local go_sem] setCell_drewN alloc_drewN
attribute [local simp] setCell_drewN alloc_drewN
theorem numbers_at {w : World} {q : Nat} (h : w.heap[q]? = some numbersO) (n : Nat) (hn : n < 4) : w.cell? ⟨q, n, none⟩ = some (.string (ofL (NU.getD n []))) := by
  rw [cell_of_row w q n _ 9 (0, 0) h]
  match n, hn with
  | 0, _ => rfl
  | 1, _ => rfl
  | 2, _ => rfl
  | 3, _ => rfl
  | m + 4, h => exact absurd h (by omega)
theorem ints_at (g : Gd) {w : World} {q : Nat} (h : w.heap[q]? = some (.cells #[.int .i64 (g.a : Int), .int .i64 (g.b : Int), .int .i64 (g.c : Int), .int .i64 (g.d : Int)] 3)) (n : Nat) (hn : n < 4) : w.cell? ⟨q, n, none⟩ = some (.int .i64 (g.num n : Nat)) := by
  rw [cell_of_row w q n _ 3 (0, 0) h]
  match n, hn with
  | 0, _ => rfl
  | 1, _ => rfl
  | 2, _ => rfl
  | 3, _ => rfl
  | m + 4, h => exact absurd h (by omega)
theorem PL_rule (g : Gd) (k : Nat) (hk : k < 9) : PL g k = NM.getD (k + 1) [] ++ 32 :: wd (g.on (k + 1)) := by unfold PL; rw [if_pos hk]
theorem PL_num (g : Gd) (j : Nat) : PL g (9 + j) = NU.getD j [] ++ 32 :: Lib.decDigits (g.num j) := by
  unfold PL
  rw [if_neg (by omega), show 9 + j - 9 = j by omega]
set_option maxRecDepth 100000 in
set_option maxHeartbeats 8000000 in
theorem print14 (g : Gd) (hg : g.Ok) (w : World) : Calls Tryd.prog 14 #[.agg #[.bool false, .bool (g.on 1), .bool (g.on 2), .bool (g.on 3), .bool (g.on 4), .bool (g.on 5), .bool (g.on 6), .bool (g.on 7), .bool (g.on 8), .bool (g.on 9), .int .i64 (g.a : Int), .int .i64 (g.b : Int), .int .i64 (g.c : Int), .int .i64 (g.d : Int)]] w fun e w' => e = .returned (.string (ofL (SP g 13))) ∧ Below w.heap.size w w' := by
  have HG := Aside0.mk hg
  clear hg
  go_enter Tryd.func14, Tryd.ntmps14
  go_wp2_with (first
    | (go_at_call 27; (with_reducible refine (names27 _).mono ?_); rintro e w2 ⟨rfl, rfl⟩)
    | fail)
  go_loopw [3, 5] (fun v3 v5 wr => ∃ (s : ByteArray) (i : Nat), v3 = .string s ∧ v5 = .int .i64 i ∧ 1 ≤ i ∧ i ≤ 10 ∧ s.data.toList = SP g (i - 1) ∧ s.size ≤ 20 * i ∧ wr.heap[w.heap.size]? = some (.cells #[.bool false, .bool (g.on 1), .bool (g.on 2), .bool (g.on 3), .bool (g.on 4), .bool (g.on 5), .bool (g.on 6), .bool (g.on 7), .bool (g.on 8), .bool (g.on 9), .int .i64 (g.a : Int), .int .i64 (g.b : Int), .int .i64 (g.c : Int), .int .i64 (g.d : Int)] 28) ∧ wr.heap[w.heap.size + 1]? = some namesO ∧ Below w.heap.size w wr) (fun _ v5 _ => 10 - (intOf v5).toNat)
  case atStart =>
    refine ⟨⟨#[]⟩, 1, rfl, rfl, by omega, by omega, rfl, by decide, heap_al (heap_alloc_new w _), ?_, ((Below.refl _ w).alloc (Nat.le_refl _) _).alloc (by simp) _⟩
    have h2 := heap_alloc_new (w.alloc (.cells #[.bool false, .bool (g.on 1), .bool (g.on 2), .bool (g.on 3), .bool (g.on 4), .bool (g.on 5), .bool (g.on 6), .bool (g.on 7), .bool (g.on 8), .bool (g.on 9), .int .i64 (g.a : Int), .int .i64 (g.b : Int), .int .i64 (g.c : Int), .int .i64 (g.d : Int)] 28)) namesO
    have e : (w.alloc (.cells #[.bool false, .bool (g.on 1), .bool (g.on 2), .bool (g.on 3), .bool (g.on 4), .bool (g.on 5), .bool (g.on 6), .bool (g.on 7), .bool (g.on 8), .bool (g.on 9), .int .i64 (g.a : Int), .int .i64 (g.b : Int), .int .i64 (g.c : Int), .int .i64 (g.d : Int)] 28)).heap.size = w.heap.size + 1 := by simp
    rw [e] at h2
    exact h2
  case round =>
    obtain ⟨s, i, rfl, rfl, hi1, hi, hs, hsz, hq, hn, hB⟩ := hrel
    by_cases hlt : i < 10
    · have hltz : (i : Int) ≤ 9 := by omega
      have hi0 : (0 : Int) ≤ i := by omega
      have hi10 : (i : Int) < 10 := by omega
      have hu := names_at hn i hlt
      obtain ⟨k, hI⟩ : ∃ k, k + 1 = i := ⟨i - 1, by omega⟩
      rw [show i - 1 = k by omega] at hs
      replace hu : wr.cell? ⟨w.heap.size + 1, i, none⟩ = some (.string (ofL (NM.getD (k + 1) []))) := by rw [hI]; exact hu
      have hon : wr.cell? ⟨w.heap.size, i, none⟩ = some (.bool (g.on (k + 1))) := by
        rw [hI]
        exact (cell_of_row wr w.heap.size i _ 28 (0, 0) hq).trans (gcell_on g i (by omega) (by omega))
      have h5 := (nm_facts k (by omega)).2.2.2.2
      have hpl := PL_rule g k (by omega)
      have huz : (ofL (NM.getD (k + 1) [])).size ≤ 5 := by rw [ofL_size]; omega
      have hud : (ofL (NM.getD (k + 1) [])).data.toList = NM.getD (k + 1) [] := by simp [ofL]
      obtain ⟨U, hU⟩ : ∃ U, ofL (NM.getD (k + 1) []) = U := ⟨_, rfl⟩
      rw [hU] at hu huz hud
      obtain ⟨x, hx⟩ : ∃ x, g.on (k + 1) = x := ⟨_, rfl⟩
      rw [hx] at hon hpl
      have hwl : (ofL (32 :: wd x ++ [10])).size ≤ 5 := by cases x <;> decide
      have hwd : (ofL (32 :: wd x ++ [10])).data.toList = 32 :: wd x ++ [10] := by simp [ofL]
      obtain ⟨T1, s1, d1, e1⟩ := add_cat s U (by omega)
      obtain ⟨T2, s2, d2, e2⟩ := add_cat T1 (ofL (32 :: wd x ++ [10])) (by omega)
      have hT : T2.data.toList = SP g (k + 1) := by
        rw [d2, d1, hud, hwd, hs, sp_next, hpl]
        simp
      have hTs : T2.size ≤ 20 * (i + 1) := by omega
      have HX := Aside0.mk (And.intro hT (And.intro hTs (And.intro hq (And.intro hn (And.intro hB hI)))))
      clear hs hsz hq hn h5 hpl huz hud hU hx hwl hwd s1 s2 d1 d2 hT hTs hI
      cases x
      · replace e2 : ∀ w, (Op.stringOp .add T1 { data := #[32, 111, 102, 102, 10] }).run Tryd.prog w = .ok (.string T2) w := e2
        go_wp2
        go_roundw
        case measure => simp only [intOf]; omega
        case rel =>
          have hI := HX.out.2.2.2.2.2
          exact ⟨T2, i + 1, rfl, by simp, by omega, by omega, by rw [HX.out.1, hI]; rfl, HX.out.2.1, HX.out.2.2.1, HX.out.2.2.2.1, HX.out.2.2.2.2.1⟩
      · replace e2 : ∀ w, (Op.stringOp .add T1 { data := #[32, 111, 110, 10] }).run Tryd.prog w = .ok (.string T2) w := e2
        go_wp2
        go_roundw
        case measure => simp only [intOf]; omega
        case rel =>
          have hI := HX.out.2.2.2.2.2
          exact ⟨T2, i + 1, rfl, by simp, by omega, by omega, by rw [HX.out.1, hI]; rfl, HX.out.2.1, HX.out.2.2.1, HX.out.2.2.2.1, HX.out.2.2.2.2.1⟩
    · have hi9 : i - 1 = 9 := by omega
      have hltz : ¬ (i : Int) ≤ 9 := by omega
      have hs2 : s.data.toList = SP g (9 + 0) := by rw [hs, hi9]
      have hsz2 : s.size ≤ 200 + 20 * 0 := by omega
      have hd := fun j => cell_of_row wr w.heap.size j _ 28 (0, 0) hq
      have hd10 : wr.cell? ⟨w.heap.size, 10, none⟩ = some (.int .i64 (g.a : Int)) := hd 10
      have hd11 : wr.cell? ⟨w.heap.size, 11, none⟩ = some (.int .i64 (g.b : Int)) := hd 11
      have hd12 : wr.cell? ⟨w.heap.size, 12, none⟩ = some (.int .i64 (g.c : Int)) := hd 12
      have hd13 : wr.cell? ⟨w.heap.size, 13, none⟩ = some (.int .i64 (g.d : Int)) := hd 13
      have a10 := fun o => al_cell o hd10
      have a11 := fun o => al_cell o hd11
      have a12 := fun o => al_cell o hd12
      have a13 := fun o => al_cell o hd13
      have HX := Aside0.mk (And.intro hs2 (And.intro hsz2 hB))
      clear hs hsz hq hn hs2 hsz2 hi9 hd
      go_wp2_with (first
        | (go_at_call 28; (with_reducible refine (numbers28 _).mono ?_); rintro e w2 ⟨rfl, rfl⟩)
        | fail)
      generalize wr = W0 at *
      go_loopw [3, 8] (fun v3 v8 wr => ∃ (s : ByteArray) (j : Nat), v3 = .string s ∧ v8 = .int .i64 j ∧ j ≤ 4 ∧ s.data.toList = SP g (9 + j) ∧ s.size ≤ 200 + 20 * j ∧ wr.heap[W0.heap.size]? = some numbersO ∧ wr.heap[W0.heap.size + 1]? = some (.cells #[.int .i64 (g.a : Int), .int .i64 (g.b : Int), .int .i64 (g.c : Int), .int .i64 (g.d : Int)] 3) ∧ Below w.heap.size w wr) (fun _ v8 _ => 4 - (intOf v8).toNat)
      case atStart =>
        refine ⟨s, 0, rfl, rfl, by omega, HX.out.1, HX.out.2.1, heap_al (heap_alloc_new W0 _), ?_, (HX.out.2.2.alloc HX.out.2.2.size _).alloc (by have := HX.out.2.2.size; simp; omega) _⟩
        have h2 := heap_alloc_new (W0.alloc numbersO) (.cells #[.int .i64 (g.a : Int), .int .i64 (g.b : Int), .int .i64 (g.c : Int), .int .i64 (g.d : Int)] 3)
        have e : (W0.alloc numbersO).heap.size = W0.heap.size + 1 := by simp
        rw [e] at h2
        exact h2
      case round =>
        obtain ⟨s, j, rfl, rfl, hj, hs, hsz, hn, hq, hB⟩ := hrel
        by_cases hlt : j < 4
        · have hltz : (j : Int) < 4 := by omega
          have hj0 : (0 : Int) ≤ j := by omega
          have hu := numbers_at hn j hlt
          have hv := ints_at g hq j hlt
          have h29 := fun W => digits29 (g.num j) (by have := g.num_le HG.out j; omega) W
          have hD := dgs_len (g.num j) (g.num_le HG.out j)
          have hDd := dgs_data (g.num j)
          have h6 := (nu_facts j hlt).2.2.2.2.2
          have huz : (ofL (NU.getD j [])).size ≤ 6 := by rw [ofL_size]; omega
          have hud : (ofL (NU.getD j [])).data.toList = NU.getD j [] := by simp [ofL]
          obtain ⟨U, hU⟩ : ∃ U, ofL (NU.getD j []) = U := ⟨_, rfl⟩
          rw [hU] at hu huz hud
          obtain ⟨D, hDe⟩ : ∃ D, dgs (g.num j) = D := ⟨_, rfl⟩
          rw [hDe] at h29 hD hDd
          have q1 : (⟨#[32]⟩ : ByteArray).size = 1 := rfl
          have q2 : (⟨#[10]⟩ : ByteArray).size = 1 := rfl
          obtain ⟨T1, s1, d1, e1⟩ := add_cat s U (by omega)
          obtain ⟨T2, s2, d2, e2⟩ := add_cat T1 ⟨#[32]⟩ (by omega)
          obtain ⟨T3, s3, d3, e3⟩ := add_cat T2 D (by omega)
          obtain ⟨T4, s4, d4, e4⟩ := add_cat T3 ⟨#[10]⟩ (by omega)
          have hT : T4.data.toList = SP g (9 + (j + 1)) := by
            rw [d4, d3, d2, d1, hud, hDd, hs, show 9 + (j + 1) = (9 + j) + 1 by omega, sp_next, PL_num g j]
            simp
          have hTs : T4.size ≤ 200 + 20 * (j + 1) := by omega
          have hu0 := lt_of_cell hu
          have hv0 := lt_of_cell hv
          have HY := Aside0.mk (And.intro hT (And.intro hTs (And.intro hn (And.intro hq hB))))
          generalize ((g.num j : Nat) : Int) = NJ at h29 hv
          clear hs hsz hn hq hD hDd h6 huz hud hU hDe s1 s2 s3 s4 d1 d2 d3 d4 hT hTs
          go_wp2
          go_region_held3 (fun V => V.cell? ⟨W0.heap.size, j, none⟩ = some (.string U) ∧ V.cell? ⟨W0.heap.size + 1, j, none⟩ = some (.int .i64 NJ)) (first | exact ⟨hu, hv⟩ | exact ⟨hu4, hv4⟩ | fail) (first
            | (go_at_call 29; (with_reducible refine (h29 _).mono ?_); rintro e w4 ⟨rfl, hB4⟩; have hu4 : w4.cell? ⟨W0.heap.size, j, none⟩ = some (.string U) := (hB4.cell hu0).trans hu; have hv4 : w4.cell? ⟨W0.heap.size + 1, j, none⟩ = some (.int .i64 NJ) := (hB4.cell hv0).trans hv)
            | fail)
          go_wp2
          go_roundw
          case measure => simp only [intOf]; omega
          case rel => exact ⟨T4, j + 1, rfl, by simp, by omega, HY.out.1, HY.out.2.1, keepb hB4 (id HY.out.2.2.1), keepb hB4 (id HY.out.2.2.2.1), belK HY.out.2.2.2.2.drew hB4⟩
        · have hltz : ¬ (j : Int) < 4 := by omega
          obtain rfl : j = 4 := by omega
          have hsE : s = ofL (SP g 13) := ofL_of hs
          subst hsE
          clear hq hn
          go_wp2
          go_ret
          exact ⟨rfl, hB⟩
end Go.Proofs.YtcbmeklhmajglaaDoor
end
