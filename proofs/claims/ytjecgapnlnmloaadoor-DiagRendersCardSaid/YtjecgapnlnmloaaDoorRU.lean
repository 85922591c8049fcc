/- A part of the proof: an interpreter of the program, shown right once, and the laws that it computes. -/
import Derived.Test.YtjecgapnlnmloaaDoorRT
import Derived.Test.YtjecgapnlnmloaaDoorShB
import Derived.Lib.LaidTab
import Derived.Test.YtjecgapnlnmloaaDoorPknownx
namespace Go.Proofs.YtjecgapnlnmloaaDoor.PRender
open Go.Sort Go.RowKit Go.Proofs.YtjecgapnlnmloaaDoorW.PrintWords Go.Proofs.YtjecgapnlnmloaaDoorW.PrintLast Go.Proofs.YtjecgapnlnmloaaDoorW.PrintMore
set_option linter.unusedVariables false
/-- The codes' words. -/
def wl : List ByteArray := (Pknown.diag_words.f).getD []
theorem wl_len : wl.length = 12 := by decide +kernel
theorem wl_f : Pknown.diag_words.f = some wl := rfl
/-- A code's word. -/
def txt (c : Int) : ByteArray := if c < 1 ∨ 12 ≤ c then rdOf ByteArray.empty wl 0 else rdOf ByteArray.empty wl c
theorem txt_size (c : Int) : (txt c).size ≤ 10 := by
  have h : ∀ x ∈ wl, x.size ≤ 10 := by decide +kernel
  have g : ∀ i : Int, (rdOf ByteArray.empty wl i).size ≤ 10 := by
    intro i
    unfold rdOf
    by_cases hi : i.toNat < wl.length
    · rw [List.getD_eq_getElem?_getD, List.getElem?_eq_getElem hi]
      exact h _ (List.getElem_mem hi)
    · rw [List.getD_eq_getElem?_getD, List.getElem?_eq_none (by omega)]
      decide
  unfold txt
  split <;> exact g _
theorem text7 (c : Int) (w : World) : Calls Tryd.prog 7 #[.int .i64 c] w fun e w' => e = .returned (.string (txt c)) ∧ Below w.heap.size w w' := by
  refine correctorref14_Text.calls c (txt c) w ?_
  show ((some wl).bind fun y101 => _) = _
  rw [Option.bind_some, wl_len]
  unfold txt
  by_cases h1 : c < 1
  · rw [if_pos h1, if_pos (by omega), if_pos (.inl h1)]
  · rw [if_neg h1]
    by_cases h2 : c ≥ 12
    · rw [if_pos (by omega), if_pos (by omega), if_pos (.inr h2)]
    · rw [if_neg (by omega), if_pos (by omega), if_pos (by omega), if_neg (by omega)]
theorem text6 (c : Int) (w : World) : Calls Tryd.prog 6 #[.int .i64 c] w fun e w' => e = .returned (.string (txt c)) ∧ Below w.heap.size w w' := by
  refine Pknown.diag_Text.calls 2 c (txt c) w ?_
  unfold txt
  simp only [Pknown.diag_Text.f]
  by_cases h1 : c < 1
  · rw [if_pos h1, if_pos (.inl h1)]
    simp only [Pknown.diag_Text.j0, wl_f, if_true, Option.bind_some, wl_len]
    rw [if_pos (by omega)]
  · rw [if_neg h1]
    by_cases h2 : c > 11
    · rw [show decide (c > 11) = true from decide_eq_true h2, if_pos (.inr (by omega))]
      simp only [Pknown.diag_Text.j0, wl_f, if_true, Option.bind_some, wl_len]
      rw [if_pos (by omega)]
    · rw [show decide (c > 11) = false from decide_eq_false h2, if_neg (by omega)]
      simp only [Pknown.diag_Text.j0, wl_f, Bool.false_eq_true, if_false, Option.bind_some, wl_len]
      rw [if_pos (by omega), if_pos (by omega)]
theorem known4 (w : World) : Calls Tryd.prog 4 #[] w fun e w' => e = .returned (.bool true) ∧ Below w.heap.size w w' :=
  Pknown.correctorlaw14_known.calls 5 true w (by decide +kernel)
/-- The table of strconv's powers of ten stands. -/
def Pw (w : World) : Prop := Lib.TabIs Tryd.prog w "internal/strconv.uint64pow10" .u64 Lib.pow10Tab
theorem gpow : ∃ g, Tryd.prog.globalNamed "internal/strconv.uint64pow10" = some g := by
  have h : (Tryd.prog.globalNamed "internal/strconv.uint64pow10").isSome = true := by kernel_rfl
  exact Option.isSome_iff_exists.1 h
theorem Pw.below {w w' : World} (h : Pw w) (hb : Below w.heap.size w w') : Pw w' := by
  obtain ⟨g, hg⟩ := gpow
  unfold Pw Lib.TabIs World.var? at h ⊢
  rw [hg] at h ⊢
  simp only [Option.bind_some] at h ⊢
  have hlt : g < w.heap.size := by
    rcases Nat.lt_or_ge g w.heap.size with h' | h'
    · exact h'
    · rw [Array.getElem?_eq_none h'] at h; cases h
  rw [hb.block g hlt]
  exact h
theorem below_grown {w w' : World} (h : ∃ k os, w' = grow (w.drewN k) os) : Below w.heap.size w w' := by
  obtain ⟨q, os, rfl⟩ := h
  have h1 : Below w.heap.size w (w.drewN q) := by
    clear os
    induction q with
    | zero => exact Below.refl _ w
    | succ q ih => exact ih.drew
  exact ⟨h1.os, h1.tape, h1.output, by rw [size_grow]; exact Nat.le_trans h1.size (Nat.le_add_right _ _), fun k hk => (heap_grow_old _ os (by have := h1.size; omega)).trans (h1.block k hk)⟩
/-- A number's digits. -/
def dgs (n : Nat) : ByteArray := ⟨(Lib.decDigits n).toArray⟩
theorem dgs_size (n : Nat) (h : n < 1000000000) : (dgs n).size ≤ 20 := by
  show (Lib.decDigits n).toArray.size ≤ 20
  rw [List.size_toArray, Lib.decDigits_length]
  exact Lib.nDigits_le20 _ (by omega)
theorem itoa19 (n : Nat) (h : n < 1000000000) (w : World) (hw : Pw w) : Calls Tryd.prog 19 #[.int .i64 n] w fun e w' => e = .returned (.string (dgs n)) ∧ Below w.heap.size w w' := by
  refine (Tryd.strconv_Itoa n (by omega) (by omega) w hw).mono ?_
  rintro e w' ⟨rfl, hg⟩
  exact ⟨by rw [Lib.itoa_nonneg]; rfl, below_grown hg⟩
theorem placeOf_lt (xs : List Int) (a : Nat) (hb : Byt xs) (ha : a ≤ xs.length) (hl : xs.length < 1000000) : (placeOf xs a).1 < 10000000 ∧ (placeOf xs a).2 < 10000000 := by
  have h1 := st_len xs a
  have h2 := rc_le _ _ ((hb.take a).drop (fromOf xs a)) (Nat.le_refl _)
  rw [List.length_drop, List.length_take] at h2
  refine ⟨?_, ?_⟩
  · show (st xs a).length < _; omega
  · show 1 + rc ((xs.take a).drop (fromOf xs a)) < _; omega
/-- A place, told. -/
def plS (xs : List Int) (a : Nat) : ByteArray := dgs (placeOf xs a).1 ++ ⟨#[58]⟩ ++ dgs (placeOf xs a).2
set_option maxRecDepth 100000 in
set_option maxHeartbeats 1000000 in
theorem place13 (A : Option Addr) (c : Nat) (xs : List Int) (a : Nat) (w : World) (hC : Kd.C (Kd.int .u8) w A xs.length xs) (hc : xs.length ≤ c) (hb : Byt xs) (hl : xs.length < 1000000) (ha : a ≤ xs.length) (hw : Pw w) :
    Calls Tryd.prog 13 #[.slice A xs.length c, .int .i64 a] w fun e w' => e = .returned (.string (plS xs a)) ∧ Below w.heap.size w w' := by
  have h18 := place18 A c xs a w hC hc hb hl ha
  obtain ⟨l1, l2⟩ := placeOf_lt xs a hb ha hl
  unfold plS
  clear hC hc hb
  generalize (placeOf xs a).1 = p at *
  generalize (placeOf xs a).2 = q at *
  have hi1 := fun w h => itoa19 p (by omega) w h
  have hi2 := fun w h => itoa19 q (by omega) w h
  have s1 := dgs_size p (by omega)
  have s2 := dgs_size q (by omega)
  generalize dgs p = D1 at *
  generalize dgs q = D2 at *
  have c1 : ∀ w, (Op.stringOp .add D1 ⟨#[58]⟩).run Tryd.prog w = .ok (.string (D1 ++ ⟨#[58]⟩)) w := fun w => run_string_add_sum w _ _ (by have : (⟨#[58]⟩ : ByteArray).size = 1 := rfl; omega)
  have z1 : (D1 ++ (⟨#[58]⟩ : ByteArray)).size ≤ 21 := by rw [ByteArray.size_append]; exact Nat.add_le_add s1 (Nat.le_refl _)
  have c2 : ∀ w, (Op.stringOp .add (D1 ++ ⟨#[58]⟩) D2).run Tryd.prog w = .ok (.string (D1 ++ ⟨#[58]⟩ ++ D2)) w := fun w => run_string_add_sum w _ _ (by omega)
  go_enter Tryd.func13, Tryd.ntmps13
  go_wp2_with (first
    | (go_at_call 18; (with_reducible refine h18.mono ?_); rintro e w1 ⟨rfl, hB1⟩; have g1 := hi1 w1 (hw.below hB1))
    | (go_at_call 19; (with_reducible refine g1.mono ?_); rintro e w2 ⟨rfl, hB2⟩; have g2 := hi2 w2 ((hw.below hB1).below hB2); clear g1)
    | (go_at_call 19; (with_reducible refine g2.mono ?_); rintro e w3 ⟨rfl, hB3⟩))
  go_ret
  exact ⟨rfl, hB1.trans ((hB2.trans (hB3.mono hB2.size)).mono hB1.size)⟩
end Go.Proofs.YtjecgapnlnmloaaDoor.PRender
