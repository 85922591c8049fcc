/- A part of the proof: an interpreter of the program, shown right once, and the laws that it computes. -/
import Derived.Test.YtjecgapnlnmloaaDoorRV
namespace Go.Proofs.YtjecgapnlnmloaaDoor.PRender
open Go.Sort Go.RowKit Go.Proofs.YtjecgapnlnmloaaDoorW.PrintWords Go.Proofs.YtjecgapnlnmloaaDoorW.PrintLast Go.Proofs.YtjecgapnlnmloaaDoorW.PrintMore
set_option linter.unusedVariables false
theorem bel_cell {w w' : World} (hb : Below w.heap.size w w') {a : Addr} {v : Value} (hc : w.cell? a = some v) : w'.cell? a = some v := (hb.cell (World.block_lt_of_cell? w a hc)).trans hc
theorem digits16 (n : Nat) (hn : n < 1000000) (w : World) : Calls Tryd.prog 16 #[.int .i64 n] w fun e w' => e = .returned (.string (dgs n)) ∧ Below w.heap.size w w' :=
  correctorref14_Digits.calls (n + 1) n (dgs n) w (digits_f (n + 1) n hn (Nat.lt_succ_self n))
/-- A place's line and column, wherever it is. -/
def plc (xs : List Int) (a : Int) : Nat × Nat := if 0 ≤ a ∧ a ≤ xs.length then placeOf xs a.toNat else (0, 0)
theorem place15 (A : Option Addr) (c : Nat) (xs : List Int) (a : Int) (w : World) (hC : Kd.C (Kd.int .u8) w A xs.length xs) (hc : xs.length ≤ c) (hb : Byt xs) (hl : xs.length < 1000000) :
    Calls Tryd.prog 15 #[.slice A xs.length c, .int .i64 a] w fun e w' => e = .returned (.tuple #[.int .i64 (plc xs a).1, .int .i64 (plc xs a).2]) ∧ Below w.heap.size w w' := by
  unfold plc
  by_cases h : 0 ≤ a ∧ a ≤ xs.length
  · rw [if_pos h]
    obtain ⟨n, rfl⟩ : ∃ n : Nat, a = n := ⟨a.toNat, by omega⟩
    rw [Int.toNat_natCast]
    exact correctorref2_Place.calls _ A c xs n _ _ w hC hc (place_f (2 * xs.length + 30) xs n hb (by omega) hl (Nat.le_refl _))
  · rw [if_neg h]
    exact correctorref2_Place.calls _ A c xs a 0 0 w hC hc (place_none 0 xs a (by omega))
theorem line_pos (xs : List Int) (a : Nat) : 1 ≤ (placeOf xs a).1 := List.length_pos_iff.2 (st_ne xs a)
theorem placeOf_lt2 (xs : List Int) (a : Nat) (hb : Byt xs) (ha : a ≤ xs.length) (hl : xs.length < 100000) : (placeOf xs a).1 < 1000000 ∧ (placeOf xs a).2 < 1000000 := by
  have h1 := st_len xs a
  have h2 := rc_le _ _ ((hb.take a).drop (fromOf xs a)) (Nat.le_refl _)
  rw [List.length_drop, List.length_take] at h2
  refine ⟨?_, ?_⟩
  · show (st xs a).length < _; omega
  · show 1 + rc ((xs.take a).drop (fromOf xs a)) < _; omega
set_option maxRecDepth 100000 in
set_option maxHeartbeats 1000000 in
theorem render9 (A : Option Addr) (c : Nat) (xs : List Int) (A2 : Option Addr) (c2 : Nat) (l : List S31) (w : World) (hC : Kd.C (Kd.int .u8) w A xs.length xs) (hc : xs.length ≤ c) (hb : Byt xs) (hl : xs.length < 100000)
    (hD : Kd.C k31 w A2 l.length l) (hl2 : l.length ≤ 100) :
    Calls Tryd.prog 9 #[.slice A xs.length c, .slice A2 l.length c2] w fun e w' => e = .returned (.string (ren xs l ⟨#[]⟩)) ∧ Below w.heap.size w w' := by
  have HC : Aside0 (Kd.C (Kd.int .u8) w A xs.length xs ∧ Byt xs ∧ Kd.C k31 w A2 l.length l) := ⟨⟨hC, hb, hD⟩⟩
  clear hC hb hD
  go_enter Tryd.func9, Tryd.ntmps9
  go_wp2
  go_loopw [5, 6] (fun v5 i wr => ∃ k : Nat, i = .int .i64 k ∧ k ≤ l.length ∧ v5 = .string (ren xs (l.take k) ⟨#[]⟩) ∧ Below w.heap.size w wr) (fun _ i _ => l.length - (intOf i).toNat)
  case atStart => exact ⟨0, rfl, Nat.zero_le _, by rw [List.take_zero]; rfl, Below.refl _ w⟩
  case round =>
    obtain ⟨k, rfl, hk, rfl, hB⟩ := hrel
    have hs := hB.size
    by_cases hlt : k < l.length
    · have hlt' : (k : Int) < l.length := by omega
      obtain ⟨ad, rfl, e0, e1, e2⟩ := at_T31 (Kd.C_below HC.out.2.2 hB) (k : Int) (by omega) (by omega)
      have hrt := ren_take xs l ⟨#[]⟩ k hlt
      have hrs := ren_size xs HC.out.2.1 (by omega) (l.take k) ⟨#[]⟩
      rw [List.length_take] at hrs
      generalize ren xs (l.take k) ⟨#[]⟩ = out at *
      have hos : out.size ≤ 10000 := by
        have z0 : (⟨#[]⟩ : ByteArray).size = 0 := rfl
        omega
      generalize rd_T31 l (k : Int) = d at *
      obtain ⟨f0, f1, f2⟩ := d
      dsimp only at e0 e1 e2
      rw [Int.toNat_natCast] at e0 e1 e2
      have hp1 := fun W h => place15 A c xs f1 W (Kd.C_below HC.out.1 h) hc HC.out.2.1 (by omega)
      have hp2 := fun W h => place15 A c xs f2 W (Kd.C_below HC.out.1 h) hc HC.out.2.1 (by omega)
      by_cases hin : inr xs ⟨f0, f1, f2⟩
      · rw [if_pos hin] at hrt
        obtain ⟨i1, i2⟩ := hin
        dsimp only at i1 i2
        have hR : rowS xs ⟨f0, f1, f2⟩ = plS xs f1.toNat ++ ⟨#[32]⟩ ++ plS xs f2.toNat ++ ⟨#[32]⟩ ++ txt f0 ++ ⟨#[10]⟩ := rfl
        rw [hR] at hrt
        unfold plS at hrt
        have q1 : plc xs f1 = placeOf xs f1.toNat := if_pos i1
        have q2 : plc xs f2 = placeOf xs f2.toNat := if_pos i2
        rw [q1] at hp1
        rw [q2] at hp2
        have j1 := line_pos xs f1.toNat
        have j2 := line_pos xs f2.toNat
        have m1 := placeOf_lt2 xs f1.toNat HC.out.2.1 (by omega) hl
        have m2 := placeOf_lt2 xs f2.toNat HC.out.2.1 (by omega) hl
        generalize (placeOf xs f1.toNat).1 = p1 at *
        generalize (placeOf xs f1.toNat).2 = p2 at *
        generalize (placeOf xs f2.toNat).1 = p3 at *
        generalize (placeOf xs f2.toNat).2 = p4 at *
        have g1 := fun W => digits16 p1 m1.1 W
        have g2 := fun W => digits16 p2 m1.2 W
        have g3 := fun W => digits16 p3 m2.1 W
        have g4 := fun W => digits16 p4 m2.2 W
        have s1 := dgs_size p1 (by omega)
        have s2 := dgs_size p2 (by omega)
        have s3 := dgs_size p3 (by omega)
        have s4 := dgs_size p4 (by omega)
        have s5 := txt_size f0
        have ht := fun W => text7 f0 W
        generalize dgs p1 = D1 at *
        generalize dgs p2 = D2 at *
        generalize dgs p3 = D3 at *
        generalize dgs p4 = D4 at *
        generalize txt f0 = T at *
        have a0 := cat (out) D1 (by omega)
        have y0 : (out ++ D1).size ≤ 10020 := by rw [ByteArray.size_append]; omega
        generalize hE0 : out ++ D1 = E0 at *
        have a1 := cat (E0) ⟨#[58]⟩ (by show _ + 1 ≤ _; omega)
        have y1 : (E0 ++ (⟨#[58]⟩ : ByteArray)).size ≤ 10021 := by rw [ByteArray.size_append]; show _ + 1 ≤ _; omega
        generalize hE1 : E0 ++ (⟨#[58]⟩ : ByteArray) = E1 at *
        have a2 := cat (E1) D2 (by omega)
        have y2 : (E1 ++ D2).size ≤ 10041 := by rw [ByteArray.size_append]; omega
        generalize hE2 : E1 ++ D2 = E2 at *
        have a3 := cat (E2) ⟨#[32]⟩ (by show _ + 1 ≤ _; omega)
        have y3 : (E2 ++ (⟨#[32]⟩ : ByteArray)).size ≤ 10042 := by rw [ByteArray.size_append]; show _ + 1 ≤ _; omega
        generalize hE3 : E2 ++ (⟨#[32]⟩ : ByteArray) = E3 at *
        have a4 := cat (E3) D3 (by omega)
        have y4 : (E3 ++ D3).size ≤ 10062 := by rw [ByteArray.size_append]; omega
        generalize hE4 : E3 ++ D3 = E4 at *
        have a5 := cat (E4) ⟨#[58]⟩ (by show _ + 1 ≤ _; omega)
        have y5 : (E4 ++ (⟨#[58]⟩ : ByteArray)).size ≤ 10063 := by rw [ByteArray.size_append]; show _ + 1 ≤ _; omega
        generalize hE5 : E4 ++ (⟨#[58]⟩ : ByteArray) = E5 at *
        have a6 := cat (E5) D4 (by omega)
        have y6 : (E5 ++ D4).size ≤ 10083 := by rw [ByteArray.size_append]; omega
        generalize hE6 : E5 ++ D4 = E6 at *
        have a7 := cat (E6) ⟨#[32]⟩ (by show _ + 1 ≤ _; omega)
        have y7 : (E6 ++ (⟨#[32]⟩ : ByteArray)).size ≤ 10084 := by rw [ByteArray.size_append]; show _ + 1 ≤ _; omega
        generalize hE7 : E6 ++ (⟨#[32]⟩ : ByteArray) = E7 at *
        have a8 := cat (E7) T (by omega)
        have y8 : (E7 ++ T).size ≤ 10094 := by rw [ByteArray.size_append]; omega
        generalize hE8 : E7 ++ T = E8 at *
        have a9 := cat (E8) ⟨#[10]⟩ (by show _ + 1 ≤ _; omega)
        have y9 : (E8 ++ (⟨#[10]⟩ : ByteArray)).size ≤ 10095 := by rw [ByteArray.size_append]; show _ + 1 ≤ _; omega
        generalize hE9 : E8 ++ (⟨#[10]⟩ : ByteArray) = E9 at *
        have hfin : E9 = ren xs (l.take (k + 1)) ⟨#[]⟩ := by
          rw [hrt]
          rw [← hE9]; rw [← hE8]; rw [← hE7]; rw [← hE6]; rw [← hE5]; rw [← hE4]; rw [← hE3]; rw [← hE2]; rw [← hE1]; rw [← hE0]; simp only [ByteArray.append_assoc]
        have n1 : ((p1 : Int) == 0) = false := beq_eq_false_iff_ne.2 (by omega)
        have n2 : (p1 == 0) = false := beq_eq_false_iff_ne.2 (by omega)
        have n3 : ((p3 : Int) == 0) = false := beq_eq_false_iff_ne.2 (by omega)
        have n4 : (p3 == 0) = false := beq_eq_false_iff_ne.2 (by omega)
        have n5 : ¬ p1 = 0 := by omega
        have n6 : ¬ p3 = 0 := by omega
        clear hrt hrs y0 y1 y2 y3 y4 y5 y6 y7 y8 y9
        go_wp2_with (first
          | (go_at_call 15; (with_reducible refine (hp1 _ hB).mono ?_); rintro e w1 ⟨rfl, hB1⟩; have u0 := bel_cell hB1 e0; have u1 := bel_cell hB1 e1; have u2 := bel_cell hB1 e2; have hb1 := hB.trans (hB1.mono hs))
          | (go_at_call 15; (with_reducible refine (hp2 _ hb1).mono ?_); rintro e w2 ⟨rfl, hB2⟩; have v0 := bel_cell hB2 u0; have hb2 := hb1.trans (hB2.mono hb1.size)))
        have v0d : w2.drew.cell? (ad.add (k * 3)) = some (.int .i64 f0) := v0
        have hb2d : Below w.heap.size w w2.drew := hb2.drew
        go_region_held3 (fun V => V.cell? (ad.add (k * 3)) = some (.int .i64 f0)) (go_keep) (first
          | (go_at_call 16; (with_reducible refine (g1 _).mono ?_); rintro e w3 ⟨rfl, hB3⟩; have v3 : w3.cell? (ad.add (k * 3)) = some (.int .i64 f0) := bel_cell hB3 v0d; have hb3 : Below w.heap.size w w3 := hb2d.trans (hB3.mono hb2d.size))
          | (go_at_call 16; (with_reducible refine (g2 _).mono ?_); rintro e w4 ⟨rfl, hB4⟩; have v4 : w4.cell? (ad.add (k * 3)) = some (.int .i64 f0) := bel_cell hB4 v3; have hb4 : Below w.heap.size w w4 := hb3.trans (hB4.mono hb3.size))
          | (go_at_call 16; (with_reducible refine (g3 _).mono ?_); rintro e w5 ⟨rfl, hB5⟩; have v5 : w5.cell? (ad.add (k * 3)) = some (.int .i64 f0) := bel_cell hB5 v4; have hb5 : Below w.heap.size w w5 := hb4.trans (hB5.mono hb4.size))
          | (go_at_call 16; (with_reducible refine (g4 _).mono ?_); rintro e w6 ⟨rfl, hB6⟩; have v6 : w6.cell? (ad.add (k * 3)) = some (.int .i64 f0) := bel_cell hB6 v5; have hb6 : Below w.heap.size w w6 := hb5.trans (hB6.mono hb5.size))
          | (go_at_call 7; (with_reducible refine (ht _).mono ?_); rintro e w7 ⟨rfl, hB7⟩; have v7 : w7.cell? (ad.add (k * 3)) = some (.int .i64 f0) := bel_cell hB7 v6; have hb7 : Below w.heap.size w w7 := hb6.trans (hB7.mono hb6.size)))
        all_goals go_wp2
        all_goals go_roundw
        all_goals first
          | (simp only [intOf]; omega)
          | exact ⟨k + 1, by simp, by omega, by rw [← hfin], hb7⟩
      · rw [if_neg hin] at hrt
        have hz : (plc xs f1).1 = 0 ∨ (plc xs f2).1 = 0 := by
          by_cases h1 : 0 ≤ f1 ∧ f1 ≤ (xs.length : Int)
          · right
            rw [plc, if_neg (fun h2 => hin ⟨h1, h2⟩)]
          · left
            rw [plc, if_neg h1]
        by_cases h1 : (plc xs f1).1 = 0
        · rw [h1] at hp1
          generalize (plc xs f1).2 = p2 at *
          generalize plc xs f2 = p34 at *
          obtain ⟨p3, p4⟩ := p34
          dsimp only at hp2
          go_wp2_with (first
            | (go_at_call 15; (with_reducible refine (hp1 _ hB).mono ?_); rintro e w1 ⟨rfl, hB1⟩; have u0 := bel_cell hB1 e0; have u1 := bel_cell hB1 e1; have u2 := bel_cell hB1 e2; have hb1 := hB.trans (hB1.mono hs))
            | (go_at_call 15; (with_reducible refine (hp2 _ hb1).mono ?_); rintro e w2 ⟨rfl, hB2⟩; have v0 := bel_cell hB2 u0; have hb2 := hb1.trans (hB2.mono hb1.size)))
          exact ⟨⟨k + 1, by simp, by omega, by rw [hrt], hb2⟩, by simp only [intOf]; omega⟩
        · have h3 := hz.resolve_left h1
          rw [h3] at hp2
          generalize (plc xs f2).2 = p4 at *
          generalize plc xs f1 = p12 at *
          obtain ⟨p1, p2⟩ := p12
          dsimp only at hp1 h1
          have n1 : ((p1 : Int) == 0) = false := beq_eq_false_iff_ne.2 (by omega)
          have n2 : (p1 == 0) = false := beq_eq_false_iff_ne.2 (by omega)
          go_wp2_with (first
            | (go_at_call 15; (with_reducible refine (hp1 _ hB).mono ?_); rintro e w1 ⟨rfl, hB1⟩; have u0 := bel_cell hB1 e0; have u1 := bel_cell hB1 e1; have u2 := bel_cell hB1 e2; have hb1 := hB.trans (hB1.mono hs))
            | (go_at_call 15; (with_reducible refine (hp2 _ hb1).mono ?_); rintro e w2 ⟨rfl, hB2⟩; have v0 := bel_cell hB2 u0; have hb2 := hb1.trans (hB2.mono hb1.size)))
          exact ⟨⟨k + 1, by simp, by omega, by rw [hrt], hb2⟩, by simp only [intOf]; omega⟩
    · have hk' : k = l.length := by omega
      subst hk'
      have hlt' : ¬ (l.length : Int) < l.length := by omega
      rw [List.take_length]
      go_wp2
      go_ret
      exact ⟨rfl, hB⟩
end Go.Proofs.YtjecgapnlnmloaaDoor.PRender
