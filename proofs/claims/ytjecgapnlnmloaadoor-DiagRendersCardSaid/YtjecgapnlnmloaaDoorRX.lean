/- A part of the proof: an interpreter of the program, shown right once, and the laws that it computes. -/
import Derived.Test.YtjecgapnlnmloaaDoorRW
import Derived.Test.YtjecgapnlnmloaaDoorPgoodx
namespace Go.Proofs.YtjecgapnlnmloaaDoor.PRender
open Go.Sort Go.RowKit Go.Proofs.YtjecgapnlnmloaaDoorW.PrintWords Go.Proofs.YtjecgapnlnmloaaDoorW.PrintLast Go.Proofs.YtjecgapnlnmloaaDoorW.PrintMore
set_option linter.unusedVariables false
theorem reads_map {α β : Type} {R1 : α → List Value → Prop} {R2 : β → List Value → Prop} (f : α → β) {size : Nat} {w : World} {A : Option Addr} {n : Nat} {ps : List α} (hR : ∀ x c, R1 x c → R2 (f x) c) (h : ReadsRow R1 size w A n ps) : ReadsRow R2 size w A n (ps.map f) := by
  refine ⟨by rw [List.length_map]; exact h.1, h.2.1, fun hn => ?_⟩
  obtain ⟨ad, e, hc⟩ := h.2.2 hn
  refine ⟨ad, e, fun j p hj => ?_⟩
  rw [List.getElem?_map] at hj
  obtain ⟨x, hx, rfl⟩ := Option.map_eq_some_iff.1 hj
  obtain ⟨c, h1, h2, h3⟩ := hc j x hx
  exact ⟨c, h1, hR x c h2, h3⟩
def toG (d : S31) : Pgood.S31 := ⟨d.f0, d.f1, d.f2⟩
def toR (d : Pgood.S31) : S31 := ⟨d.f0, d.f1, d.f2⟩
theorem c_toG {w : World} {A : Option Addr} {n : Nat} {l : List S31} (h : Kd.C k31 w A n l) : Kd.C Pgood.k31 w A n (l.map toG) :=
  reads_map toG (fun x c hx => by obtain rfl := k31_open hx; exact Pgood.k31_mk w (toG x)) h
theorem c_toR {w : World} {A : Option Addr} {n : Nat} {l : List Pgood.S31} (h : Kd.C Pgood.k31 w A n l) : Kd.C k31 w A n (l.map toR) :=
  reads_map toR (fun x c hx => by obtain rfl := Pgood.k31_open hx; exact k31_mk w (toR x)) h
theorem within_some (a n : Int) (h : n ≠ 0) : ∃ r, Pgood.correctorlaw14_within.f a n = some r := by
  unfold Pgood.correctorlaw14_within.f
  rw [if_neg h]
  split <;> exact ⟨_, rfl⟩
theorem good_l (d : Nat) : ∀ (k : Nat) (xs out : List Pgood.S31) (i : Nat), xs.length - i ≤ d → i ≤ xs.length → xs.length ≤ 40 → out.length = i → 2 * d + 3 ≤ k → ∃ r, Pgood.correctorlaw14_good.l0 k xs out (i : Int) = some r ∧ r.length = xs.length := by
  induction d with
  | zero =>
    intro k xs out i hd hi h40 ho hk
    obtain ⟨k, rfl⟩ : ∃ m, k = m + 2 := ⟨k - 2, by omega⟩
    simp only [Pgood.correctorlaw14_good.l0]
    rw [if_neg (by omega)]
    simp only [Pgood.correctorlaw14_good.j1, Bool.false_eq_true, if_false]
    exact ⟨_, rfl, by omega⟩
  | succ d ih =>
    intro k xs out i hd hi h40 ho hk
    obtain ⟨k, rfl⟩ : ∃ m, k = m + 2 := ⟨k - 2, by omega⟩
    simp only [Pgood.correctorlaw14_good.l0]
    by_cases he : i < xs.length
    · rw [if_pos (by omega), show decide ((i : Int) < 40) = true from decide_eq_true (by omega)]
      simp only [Pgood.correctorlaw14_good.j1, if_true]
      rw [if_pos (by omega), if_pos (by omega)]
      obtain ⟨r1, h1⟩ := within_some ((Pgood.rd_T31 xs i).f1) 30 (by decide)
      obtain ⟨r2, h2⟩ := within_some ((Pgood.rd_T31 xs i).f0) 13 (by decide)
      obtain ⟨r3, h3⟩ := within_some ((Pgood.rd_T31 xs i).f2) 6 (by decide)
      rw [h1, Option.bind_some, h2, Option.bind_some, h3, Option.bind_some, if_pos (by omega), show wrap64 ((i : Int) + 1) = ((i + 1 : Nat) : Int) by unfold wrap64; omega]
      exact ih k xs _ (i + 1) (by omega) (by omega) h40 (by rw [List.length_append, ho]; rfl) (by omega)
    · rw [if_neg (by omega)]
      simp only [Pgood.correctorlaw14_good.j1, Bool.false_eq_true, if_false]
      exact ⟨_, rfl, by omega⟩
theorem good5 (A : Option Addr) (c : Nat) (l : List S31) (w : World) (hD : Kd.C k31 w A l.length l) (hc : l.length ≤ c) (h40 : l.length ≤ 40) :
    Calls Tryd.prog 5 #[.slice A l.length c] w fun e w' => ∃ A' c' l', e = .returned (.slice A' l'.length c') ∧ Kd.C k31 w' A' l'.length l' ∧ l'.length ≤ c' ∧ l'.length ≤ 100 ∧ Below w.heap.size w w' := by
  obtain ⟨r, hr, hrl⟩ := good_l l.length (2 * l.length + 3) (l.map toG) [] 0 (by rw [List.length_map]; omega) (by omega) (by rw [List.length_map]; omega) rfl (Nat.le_refl _)
  have h := Pgood.correctorlaw14_good.calls _ A c (l.map toG) r w (by rw [List.length_map]; exact c_toG hD) (by rw [List.length_map]; exact hc) hr
  rw [List.length_map] at h hrl
  refine h.mono ?_
  rintro e w' ⟨v, rfl, hR, hB⟩
  obtain ⟨A', c', rfl, hle, hC⟩ := Kd.R_reads hR
  refine ⟨A', c', r.map toR, by rw [List.length_map], by rw [List.length_map]; exact c_toR hC, by rw [List.length_map]; exact hle, by rw [List.length_map]; omega, hB⟩
set_option maxRecDepth 100000 in
set_option maxHeartbeats 1000000 in
theorem renders3 (A : Option Addr) (n c : Nat) (A2 : Option Addr) (n2 c2 : Nat) (code : Int) (w : World) (hbx : n ≤ 100 → ∃ xs : List Int, xs.length = n ∧ Kd.C (Kd.int .u8) w A n xs ∧ n ≤ c ∧ Byt xs)
    (hlx : n2 ≤ 40 → ∃ l : List S31, l.length = n2 ∧ Kd.C k31 w A2 n2 l ∧ n2 ≤ c2) (hw : Pw w) :
    Calls Tryd.prog 3 #[.slice A n c, .slice A2 n2 c2, .int .i64 code] w fun e w' => e = .returned (.bool true) ∧ Below w.heap.size w w' := by
  by_cases h1 : n ≤ 100
  · have g1 : ¬ (100 : Int) < n := by omega
    by_cases h2 : n2 ≤ 40
    · have g2 : ¬ (40 : Int) < n2 := by omega
      obtain ⟨xs, hxs, hC, hc, hb⟩ := hbx h1
      obtain ⟨l, hl, hD, hc2⟩ := hlx h2
      subst hxs hl
      clear hbx hlx
      have HC : Aside0 (Kd.C (Kd.int .u8) w A xs.length xs ∧ Byt xs ∧ Kd.C k31 w A2 l.length l ∧ Pw w) := ⟨⟨hC, hb, hD, hw⟩⟩
      clear hC hb hD hw
      go_enter Tryd.func3, Tryd.ntmps3
      go_wp2_with (first
        | (go_at_call 4; (with_reducible refine (known4 _).mono ?_); rintro e w1 ⟨rfl, hB1⟩; have gd := good5 A2 c2 l w1 (Kd.C_below HC.out.2.2.1 hB1) hc2 h2)
        | (go_at_call 5; (with_reducible refine gd.mono ?_); rintro e w2 ⟨A3, c3, g, rfl, hG, hgc, hg100, hB2⟩; have hb2 := hB1.trans (hB2.mono hB1.size)))
      have HG : Aside0 (Kd.C k31 w2 A3 g.length g) := ⟨hG⟩
      clear gd hG
      go_loopw [8] (fun i wr => ∃ j : Nat, i = .int .i64 ((j : Int) - 1) ∧ j ≤ 15 ∧ Below w2.heap.size w2 wr) (fun i _ => 20 - (intOf i + 1).toNat)
      case atStart => exact ⟨0, rfl, by omega, Below.refl _ w2⟩
      case round =>
        obtain ⟨j, rfl, hj, hB⟩ := hrel
        by_cases hlt : j < 15
        · have hlt' : (j : Int) - 1 < 14 := by omega
          have ht6 := fun W => text6 ((j : Int) - 1) W
          have ht7 := fun W => text7 ((j : Int) - 1) W
          generalize txt ((j : Int) - 1) = T at *
          go_wp2_with (first
            | (go_at_call 6; (with_reducible refine (ht6 _).mono ?_); rintro e w3 ⟨rfl, hB3⟩)
            | (go_at_call 7; (with_reducible refine (ht7 _).mono ?_); rintro e w4 ⟨rfl, hB4⟩))
          go_roundw
          case rel => exact ⟨j + 1, by rw [show ((j + 1 : Nat) : Int) - 1 = (j : Int) by omega], by omega, hB.trans ((hB3.trans (hB4.mono hB3.size)).mono hB.size)⟩
          case measure => simp only [intOf]; omega
        · have hj' : j = 15 := by omega
          subst hj'
          have hb3 := hb2.trans (hB.mono hb2.size)
          have hs3 := hb3.size
          have r8g := fun W (h : Below wr.heap.size wr W) => render8 A c xs A3 c3 g W (Kd.C_below HC.out.1 (hb3.trans (h.mono hs3))) hc HC.out.2.1 (by omega) (Kd.C_below (Kd.C_below HG.out hB) h) hg100 (HC.out.2.2.2.below (hb3.trans (h.mono hs3)))
          have r9g := fun W (h : Below wr.heap.size wr W) => render9 A c xs A3 c3 g W (Kd.C_below HC.out.1 (hb3.trans (h.mono hs3))) hc HC.out.2.1 (by omega) (Kd.C_below (Kd.C_below HG.out hB) h) hg100
          have r8l := fun W (h : Below wr.heap.size wr W) => render8 A c xs A2 c2 l W (Kd.C_below HC.out.1 (hb3.trans (h.mono hs3))) hc HC.out.2.1 (by omega) (Kd.C_below HC.out.2.2.1 (hb3.trans (h.mono hs3))) (by omega) (HC.out.2.2.2.below (hb3.trans (h.mono hs3)))
          have r9l := fun W (h : Below wr.heap.size wr W) => render9 A c xs A2 c2 l W (Kd.C_below HC.out.1 (hb3.trans (h.mono hs3))) hc HC.out.2.1 (by omega) (Kd.C_below HC.out.2.2.1 (hb3.trans (h.mono hs3))) (by omega)
          have ht6 := fun W => text6 code W
          have ht7 := fun W => text7 code W
          generalize ren xs g ⟨#[]⟩ = Sg at *
          generalize ren xs l ⟨#[]⟩ = Sl at *
          generalize txt code = T at *
          have c0 := Below.refl wr.heap.size wr
          go_wp2_with (first
            | (go_at_call 8; (with_reducible refine (r8g _ c0).mono ?_); rintro e w3 ⟨rfl, hB3⟩; have c1 := c0.trans hB3)
            | (go_at_call 9; (with_reducible refine (r9g _ c1).mono ?_); rintro e w4 ⟨rfl, hB4⟩; have c2' := c1.trans (hB4.mono c1.size))
            | (go_at_call 8; (with_reducible refine (r8l _ c2').mono ?_); rintro e w5 ⟨rfl, hB5⟩; have c3' := c2'.trans (hB5.mono c2'.size))
            | (go_at_call 9; (with_reducible refine (r9l _ c3').mono ?_); rintro e w6 ⟨rfl, hB6⟩; have c4 := c3'.trans (hB6.mono c3'.size))
            | (go_at_call 6; (with_reducible refine (ht6 _).mono ?_); rintro e w7 ⟨rfl, hB7⟩; have c5 := c4.trans (hB7.mono c4.size))
            | (go_at_call 7; (with_reducible refine (ht7 _).mono ?_); rintro e w8 ⟨rfl, hB8⟩; have c6 := c5.trans (hB8.mono c5.size)))
          go_ret
          exact ⟨by simp, hb3.trans (c6.mono hs3)⟩
    · have g2 : (40 : Int) < n2 := by omega
      go_enter Tryd.func3, Tryd.ntmps3
      go_wp2_with (go_at_call 4; (with_reducible refine (known4 _).mono ?_); rintro e w1 ⟨rfl, hB1⟩)
      go_ret
      exact ⟨rfl, hB1⟩
  · have g1 : (100 : Int) < n := by omega
    go_enter Tryd.func3, Tryd.ntmps3
    go_wp2_with (go_at_call 4; (with_reducible refine (known4 _).mono ?_); rintro e w1 ⟨rfl, hB1⟩)
    go_ret
    exact ⟨rfl, hB1⟩
end Go.Proofs.YtjecgapnlnmloaaDoor.PRender
