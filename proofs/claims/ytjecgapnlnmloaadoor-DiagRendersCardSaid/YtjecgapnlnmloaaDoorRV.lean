/- A part of the proof: an interpreter of the program, shown right once, and the laws that it computes. -/
import Derived.Test.YtjecgapnlnmloaaDoorRU
import Derived.Deep.RegionHeld3
namespace Go.Proofs.YtjecgapnlnmloaaDoor.PRender
open Go.Sort Go.RowKit Go.Proofs.YtjecgapnlnmloaaDoorW.PrintWords Go.Proofs.YtjecgapnlnmloaaDoorW.PrintLast Go.Proofs.YtjecgapnlnmloaaDoorW.PrintMore
set_option linter.unusedVariables false
/-- May one be told? -/
def inr (xs : List Int) (d : S31) : Prop := (0 ≤ d.f1 ∧ d.f1 ≤ xs.length) ∧ 0 ≤ d.f2 ∧ d.f2 ≤ xs.length
instance (xs : List Int) (d : S31) : Decidable (inr xs d) := inferInstanceAs (Decidable (_ ∧ _))
/-- One, told. -/
def rowS (xs : List Int) (d : S31) : ByteArray := plS xs d.f1.toNat ++ ⟨#[32]⟩ ++ plS xs d.f2.toNat ++ ⟨#[32]⟩ ++ txt d.f0 ++ ⟨#[10]⟩
/-- All, told. -/
def ren (xs : List Int) : List S31 → ByteArray → ByteArray
  | [], out => out
  | d :: l, out => ren xs l (if inr xs d then out ++ rowS xs d else out)
theorem ren_take (xs : List Int) (l : List S31) (out : ByteArray) (k : Nat) (hk : k < l.length) : ren xs (l.take (k + 1)) out = if inr xs (rd_T31 l (k : Int)) then ren xs (l.take k) out ++ rowS xs (rd_T31 l (k : Int)) else ren xs (l.take k) out := by
  induction l generalizing out k with
  | nil => simp at hk
  | cons d l ih =>
    cases k with
    | zero => simp [ren, rd_T31]
    | succ k =>
      have e : rd_T31 (d :: l) ((k + 1 : Nat) : Int) = rd_T31 l (k : Int) := by
        unfold rd_T31
        rw [Int.toNat_natCast, Int.toNat_natCast, List.getD_cons_succ]
      rw [List.take_succ_cons, List.take_succ_cons, e]
      simp only [ren]
      exact ih _ k (by simpa using hk)
theorem plS_size (xs : List Int) (a : Nat) (hb : Byt xs) (ha : a ≤ xs.length) (hl : xs.length < 1000000) : (plS xs a).size ≤ 41 := by
  obtain ⟨l1, l2⟩ := placeOf_lt xs a hb ha hl
  unfold plS
  rw [ByteArray.size_append, ByteArray.size_append]
  have := dgs_size (placeOf xs a).1 (by omega)
  have := dgs_size (placeOf xs a).2 (by omega)
  show _ + 1 + _ ≤ _
  omega
theorem rowS_size (xs : List Int) (d : S31) (hb : Byt xs) (hl : xs.length < 1000000) (hd : inr xs d) : (rowS xs d).size ≤ 100 := by
  unfold rowS
  have h1 := plS_size xs d.f1.toNat hb (by have := hd.1; omega) hl
  have h2 := plS_size xs d.f2.toNat hb (by have := hd.2; omega) hl
  have h3 := txt_size d.f0
  simp only [ByteArray.size_append]
  show _ + 1 + _ + 1 + _ + 1 ≤ _
  omega
theorem ren_size (xs : List Int) (hb : Byt xs) (hl : xs.length < 1000000) : ∀ (l : List S31) (out : ByteArray), (ren xs l out).size ≤ out.size + 100 * l.length
  | [], out => by simp [ren]
  | d :: l, out => by
    simp only [ren, List.length_cons]
    have := ren_size xs hb hl l (if inr xs d then out ++ rowS xs d else out)
    by_cases h : inr xs d
    · rw [if_pos h, ByteArray.size_append] at this
      have := rowS_size xs d hb hl h
      rw [if_pos h]
      omega
    · rw [if_neg h] at this
      rw [if_neg h]
      omega
theorem ownF_bel {w W : World} {B e size n : Nat} {v : Value} {xs : List Value} (h : w.ownsRowF B e size v n xs) (hb : Below w.heap.size w W) : W.ownsRowF B e size v n xs :=
  h.kept (row := none) ⟨hb.os, hb.tape, hb.output, hb.size, fun k hk _ => hb.block k hk⟩ (Classical.em _)
theorem isb_bel {T e B b : Nat} {bs : List Value} {w W : World} (h : Lib.IsBuilderF T e B b bs w) (hb : Below w.heap.size w W) : Lib.IsBuilderF T e B b bs W := by
  have one : ∀ p, Lib.BuilderAtF T e B b p bs w → Lib.BuilderAtF T e B b p bs W := by
    rintro p ⟨h1, v, h2, h3, h4⟩
    exact ⟨h1, v, (hb.block b (Array.getElem?_eq_some_iff.1 h2).1).trans h2, ownF_bel h3 hb, h4⟩
  exact h.imp (one _) (one _)
theorem strCells_app (s t : ByteArray) : Lib.strCells (s ++ t) = Lib.strCells s ++ Lib.strCells t := by
  unfold Lib.strCells
  rw [ByteArray.data_append, Array.toList_append, List.map_append]
theorem cat (s t : ByteArray) (h : s.size + t.size ≤ 1000000) (w : World) : (Op.stringOp .add s t).run Tryd.prog w = .ok (.string (s ++ t)) w := run_string_add_sum w _ _ (by omega)
set_option maxRecDepth 100000 in
set_option maxHeartbeats 1000000 in
theorem render8 (A : Option Addr) (c : Nat) (xs : List Int) (A2 : Option Addr) (c2 : Nat) (l : List S31) (w : World) (hC : Kd.C (Kd.int .u8) w A xs.length xs) (hc : xs.length ≤ c) (hb : Byt xs) (hl : xs.length < 1000000)
    (hD : Kd.C k31 w A2 l.length l) (hl2 : l.length ≤ 100) (hw : Pw w) :
    Calls Tryd.prog 8 #[.slice A xs.length c, .slice A2 l.length c2] w fun e w' => e = .returned (.string (ren xs l ⟨#[]⟩)) ∧ Below w.heap.size w w' := by
  have HC : Aside0 (Kd.C (Kd.int .u8) w A xs.length xs ∧ Byt xs ∧ Kd.C k31 w A2 l.length l ∧ Pw w) := ⟨⟨hC, hb, hD, hw⟩⟩
  clear hC hb hD hw
  go_enter Tryd.func8, Tryd.ntmps8
  go_wp2
  go_loopw [10] (fun i wr => ∃ k : Nat, i = .int .i64 k ∧ k ≤ l.length ∧ Lib.IsBuilderF 36 5 w.heap.size w.heap.size (Lib.strCells (ren xs (l.take k) ⟨#[]⟩)) wr ∧ Below w.heap.size w wr) (fun i _ => l.length - (intOf i).toNat)
  case atStart => exact ⟨0, rfl, Nat.zero_le _, by rw [List.take_zero]; exact Lib.IsBuilderF.of (Lib.fresh_isBuilder 36 5 w), (Below.refl _ w).alloc (Nat.le_refl _) _⟩
  case round =>
    obtain ⟨k, rfl, hk, hI, hB⟩ := hrel
    have hs := hB.size
    by_cases hlt : k < l.length
    · have hlt' : (k : Int) < l.length := by omega
      obtain ⟨ad, rfl, e0, e1, e2⟩ := at_T31 (Kd.C_below HC.out.2.2.1 hB) (k : Int) (by omega) (by omega)
      have hrt := ren_take xs l ⟨#[]⟩ k hlt
      have hrs := ren_size xs HC.out.2.1 hl (l.take k) ⟨#[]⟩
      generalize rd_T31 l (k : Int) = d at *
      obtain ⟨f0, f1, f2⟩ := d
      dsimp only at e0 e1 e2
      rw [Int.toNat_natCast] at e0 e1 e2
      by_cases hin : inr xs ⟨f0, f1, f2⟩
      · rw [if_pos hin] at hrt
        obtain ⟨⟨i1, i2⟩, i3, i4⟩ := hin
        obtain ⟨n1, hn1⟩ : ∃ n : Nat, f1 = n := ⟨f1.toNat, by dsimp only at i1; omega⟩
        obtain ⟨n2, hn2⟩ : ∃ n : Nat, f2 = n := ⟨f2.toNat, by dsimp only at i3; omega⟩
        dsimp only at i1 i2 i3 i4
        subst hn1 hn2
        have hR : rowS xs ⟨f0, n1, n2⟩ = plS xs n1 ++ ⟨#[32]⟩ ++ plS xs n2 ++ ⟨#[32]⟩ ++ txt f0 ++ ⟨#[10]⟩ := by unfold rowS; simp only [Int.toNat_natCast]
        rw [hR] at hrt
        have hp1 := fun W h => place13 A c xs n1 W (Kd.C_below HC.out.1 h) hc HC.out.2.1 hl (by omega) (HC.out.2.2.2.below h)
        have hp2 := fun W h => place13 A c xs n2 W (Kd.C_below HC.out.1 h) hc HC.out.2.1 hl (by omega) (HC.out.2.2.2.below h)
        have z1 := plS_size xs n1 HC.out.2.1 (by omega) hl
        have z2 := plS_size xs n2 HC.out.2.1 (by omega) hl
        have z3 := txt_size f0
        have ht := fun W => text6 f0 W
        generalize plS xs n1 = P1 at *
        generalize plS xs n2 = P2 at *
        generalize txt f0 = T at *
        have a1 := cat P1 ⟨#[32]⟩ (by show _ + 1 ≤ _; omega)
        have y1 : (P1 ++ (⟨#[32]⟩ : ByteArray)).size ≤ 42 := by rw [ByteArray.size_append]; show _ + 1 ≤ _; omega
        have a2 := cat (P1 ++ ⟨#[32]⟩) P2 (by omega)
        have y2 : (P1 ++ (⟨#[32]⟩ : ByteArray) ++ P2).size ≤ 83 := by rw [ByteArray.size_append]; omega
        have a3 := cat (P1 ++ ⟨#[32]⟩ ++ P2) ⟨#[32]⟩ (by show _ + 1 ≤ _; omega)
        have y3 : (P1 ++ (⟨#[32]⟩ : ByteArray) ++ P2 ++ ⟨#[32]⟩).size ≤ 84 := by rw [ByteArray.size_append]; show _ + 1 ≤ _; omega
        have a4 := cat (P1 ++ ⟨#[32]⟩ ++ P2 ++ ⟨#[32]⟩) T (by omega)
        have y4 : (P1 ++ (⟨#[32]⟩ : ByteArray) ++ P2 ++ ⟨#[32]⟩ ++ T).size ≤ 94 := by rw [ByteArray.size_append]; omega
        have a5 := cat (P1 ++ ⟨#[32]⟩ ++ P2 ++ ⟨#[32]⟩ ++ T) ⟨#[10]⟩ (by show _ + 1 ≤ _; omega)
        have y5 : (P1 ++ (⟨#[32]⟩ : ByteArray) ++ P2 ++ ⟨#[32]⟩ ++ T ++ ⟨#[10]⟩).size ≤ 95 := by rw [ByteArray.size_append]; show _ + 1 ≤ _; omega
        clear z1 z2 z3 y1 y2 y3 y4 hR
        generalize P1 ++ (⟨#[32]⟩ : ByteArray) = Q1 at *
        generalize Q1 ++ P2 = Q2 at *
        generalize Q2 ++ (⟨#[32]⟩ : ByteArray) = Q3 at *
        generalize Q3 ++ T = Q4 at *
        generalize Q4 ++ (⟨#[10]⟩ : ByteArray) = Q5 at *
        go_wp2_with fail
        generalize hW : wr.alloc (.cells #[.int .i64 f0, .int .i64 (n1 : Int), .int .i64 (n2 : Int)] 31) = W
        have hBW : Below w.heap.size w W := by rw [← hW]; exact hB.alloc hs _
        have hIW := isb_bel hI ((Below.refl _ wr).alloc (Nat.le_refl _) (.cells #[.int .i64 f0, .int .i64 (n1 : Int), .int .i64 (n2 : Int)] 31))
        rw [hW] at hIW
        have hq : wr.heap.size < W.heap.size := by rw [← hW]; simp
        have d0 : W.cell? ⟨wr.heap.size, 0, none⟩ = some (.int .i64 f0) := by rw [← hW]; exact new_cell _ _ _ _ _ _ rfl rfl
        have d1 : W.cell? ⟨wr.heap.size, 1, none⟩ = some (.int .i64 (n1 : Int)) := by rw [← hW]; exact new_cell _ _ _ _ _ _ rfl rfl
        have d2 : W.cell? ⟨wr.heap.size, 2, none⟩ = some (.int .i64 (n2 : Int)) := by rw [← hW]; exact new_cell _ _ _ _ _ _ rfl rfl
        have hdq : W.drew.heap[wr.heap.size]? = some (.cells #[.int .i64 f0, .int .i64 (n1 : Int), .int .i64 (n2 : Int)] 31 (0, 0)) := by rw [← hW]; show (wr.heap.push _)[wr.heap.size]? = _; exact Array.getElem?_push_size
        clear hW
        have hqw : wr.heap.size ≠ w.heap.size := fun h => by rcases hI with ⟨_, v, h2, _⟩ | ⟨_, v, h2, _⟩ <;> (have := (Array.getElem?_eq_some_iff.1 h2).1; omega)
        generalize wr.heap.size = q at *
        have g1 := hp1 W.drew hBW.drew
        have hlenN : (Lib.strCells (ren xs (l.take k) ⟨#[]⟩)).length ≤ 100 * l.length := by
          rw [List.length_take] at hrs
          have : (Lib.strCells (ren xs (l.take k) ⟨#[]⟩)).length = (ren xs (l.take k) ⟨#[]⟩).size := by simp only [Lib.strCells, List.length_map]; rfl
          have e0 : (⟨#[]⟩ : ByteArray).size = 0 := rfl
          omega
        have hsW := hBW.size
        have hIWd : Lib.IsBuilderF 36 5 w.heap.size w.heap.size (Lib.strCells (ren xs (l.take k) ⟨#[]⟩)) W.drew := isb_bel hIW (Below.refl _ W).drew
        clear hIW
        clear hp1 hrs hI hs
        generalize hbs : Lib.strCells (ren xs (l.take k) ⟨#[]⟩) = bs at *
        go_region_held3 (fun V => V.cell? ⟨q, 0, none⟩ = some (.int .i64 f0) ∧ V.cell? ⟨q, 1, none⟩ = some (.int .i64 (n1 : Int)) ∧ V.cell? ⟨q, 2, none⟩ = some (.int .i64 (n2 : Int))) (go_keep) (first
          | (go_at_call 13; (with_reducible refine g1.mono ?_); rintro e w1 ⟨rfl, hB1⟩; have e1 := (hB1.block q hq).trans hdq; have r0 : w1.cell? ⟨q, 0, none⟩ = some (.int .i64 f0) := Lib.cell_of_heap e1 0; have r1 : w1.cell? ⟨q, 1, none⟩ = some (.int .i64 (n1 : Int)) := Lib.cell_of_heap e1 1; have r2 : w1.cell? ⟨q, 2, none⟩ = some (.int .i64 (n2 : Int)) := Lib.cell_of_heap e1 2; have hBW1 : Below w.heap.size w w1 := hBW.drew.trans (hB1.mono hsW); have g2 := hp2 w1 hBW1)
          | (go_at_call 13; (with_reducible refine g2.mono ?_); rintro e w2 ⟨rfl, hB2⟩; have hq1 := Nat.lt_of_lt_of_le hq hB1.size; have e2 := (hB2.block q hq1).trans e1; have t0 : w2.cell? ⟨q, 0, none⟩ = some (.int .i64 f0) := Lib.cell_of_heap e2 0; have t1 : w2.cell? ⟨q, 1, none⟩ = some (.int .i64 (n1 : Int)) := Lib.cell_of_heap e2 1; have t2 : w2.cell? ⟨q, 2, none⟩ = some (.int .i64 (n2 : Int)) := Lib.cell_of_heap e2 2; have hBW2 := hBW1.trans (hB2.mono hBW1.size); have g3 := ht w2)
          | (go_at_call 6; (with_reducible refine g3.mono ?_); rintro e w3 ⟨rfl, hB3⟩; have hq2 := Nat.lt_of_lt_of_le hq1 hB2.size; have e3 := (hB3.block q hq2).trans e2; have u0 : w3.cell? ⟨q, 0, none⟩ = some (.int .i64 f0) := Lib.cell_of_heap e3 0; have u1 : w3.cell? ⟨q, 1, none⟩ = some (.int .i64 (n1 : Int)) := Lib.cell_of_heap e3 1; have u2 : w3.cell? ⟨q, 2, none⟩ = some (.int .i64 (n2 : Int)) := Lib.cell_of_heap e3 2; have hBW3 := hBW2.trans (hB3.mono hBW2.size); have hI3 := isb_bel (isb_bel (isb_bel hIWd hB1) hB2) hB3; have g4 := Tryd.Builder_WriteString_k w.heap.size w.heap.size bs Q5 w3 hI3 (by omega) hBW3.size)
          | (go_at_call 12; (with_reducible refine g4.mono ?_); rintro e w4 ⟨rfl, hI4, hB4, hO4⟩; have e4 := hO4 q _ e3 (fun h => hqw (Option.some.inj h)) (fun cc fz h => by cases h); have v0 : w4.cell? ⟨q, 0, none⟩ = some (.int .i64 f0) := Lib.cell_of_heap e4 0; have v1 : w4.cell? ⟨q, 1, none⟩ = some (.int .i64 (n1 : Int)) := Lib.cell_of_heap e4 1; have v2 : w4.cell? ⟨q, 2, none⟩ = some (.int .i64 (n2 : Int)) := Lib.cell_of_heap e4 2; have hBW4 : Below w.heap.size w w4 := hBW3.trans hB4))
        all_goals go_wp2
        all_goals go_roundw
        all_goals first
          | (simp only [intOf]; omega)
          | exact ⟨k + 1, by simp, by omega, by rw [hrt, strCells_app, hbs]; exact .inr hI4, hBW4⟩
      · rw [if_neg hin] at hrt
        have hex : ¬ (0 ≤ f1 ∧ f1 ≤ (xs.length : Int) ∧ 0 ≤ f2 ∧ f2 ≤ (xs.length : Int)) := fun h => hin ⟨⟨h.1, h.2.1⟩, h.2.2.1, h.2.2.2⟩
        have HX := Aside0.mk hex
        clear hex hin
        go_wp2_with fail
        all_goals first
          | exact absurd ⟨‹0 ≤ f1›, ‹f1 ≤ (xs.length : Int)›, ‹0 ≤ f2›, ‹f2 ≤ (xs.length : Int)›⟩ HX.out
          | exact ⟨⟨k + 1, by simp, by omega, by rw [hrt]; exact isb_bel hI ((Below.refl _ wr).alloc (Nat.le_refl _) _), hB.alloc hs _⟩, by simp only [intOf]; omega⟩
    · have hk' : k = l.length := by omega
      subst hk'
      have hlt' : ¬ (l.length : Int) < l.length := by omega
      rw [List.take_length] at hI
      have hst : Lib.strCells (ren xs l ⟨#[]⟩) = Lib.byteCells (ren xs l ⟨#[]⟩).data.toList := rfl
      rw [hst] at hI
      have g5 := Tryd.Builder_String_any_f w.heap.size w.heap.size _ wr hI hs
      go_wp2_with (go_at_call 14; (with_reducible refine g5.mono ?_); rintro e w5 ⟨rfl, _, hB5⟩)
      go_ret
      exact ⟨rfl, hB.trans hB5⟩
end Go.Proofs.YtjecgapnlnmloaaDoor.PRender
