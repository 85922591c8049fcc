/- A part of the proof: an interpreter of the program, shown right once, and the laws that it computes. -/
import Derived.Test.YtpanfhfcpniodaaGreatDoorTWk
import Derived.WalkKit
import Derived.ProofKit
import Derived.Below
import Derived.Carry
import Derived.Deep.RegionHeld3
namespace Go.Proofs.YtpanfhfcpniodaaGreatDoor
open Go.Eng Go.RowKit
set_option linter.unusedVariables false
/-- Put aside: what the walk is not to look at. -/
structure Aside0 (p : Prop) : Prop where
  out : p
theorem cellB {w w' : World} {B : Nat} (h : Below B w w') {p : Addr} {x : Value} (hp : p.block < B) (hc : w.cell? p = some x) : w'.cell? p = some x := by
  rw [World.cell?_of_block (h.block p.block hp)]; exact hc
theorem lt_cell {w : World} {p : Addr} {x : Value} (hc : w.cell? p = some x) : p.block < w.heap.size := by
  rcases Nat.lt_or_ge p.block w.heap.size with h | h
  · exact h
  · unfold World.cell? at hc
    rw [Array.getElem?_eq_none h] at hc
    cases hc
theorem add_some (t u : ByteArray) (h : t.size + u.size ≤ 9223372036854775807) : ∃ T : ByteArray, T.size = t.size + u.size ∧ ∀ w, (Op.stringOp .add t u).run Tryz.prog w = .ok (.string T) w :=
  ⟨t ++ u, by simp [ByteArray.size_append], fun w => run_string_add_sum w t u h⟩
theorem strN_size (l : List Nat) : (strN l).size = l.length := by simp [strN, ByteArray.size]
set_option maxRecDepth 100000 in
set_option maxHeartbeats 4000000 in
/-- The word of the map itself: some text. -/
theorem key34m (bk ok ck bo oo co N : Nat) (hn : N ≤ 30) (w : World) (hk : ∀ j, j < N → w.cell? ⟨bk, ok + j, none⟩ = some (.int .i64 j)) (ho : ∀ j, j < N → ∃ c : Nat, c < 32 ∧ w.cell? ⟨bo, oo + j, none⟩ = some (.int .i64 c)) (hbk : bk < w.heap.size) (hbo : bo < w.heap.size) :
    Calls Tryz.prog 34 #[.agg #[.int .i64 7, .string (strN []), .string (strN []), .slice (some ⟨bk, ok, none⟩) N ck], .slice (some ⟨bo, oo, none⟩) N co] w fun e w' => ∃ s : ByteArray, e = .returned (.string s) ∧ Below w.heap.size w w' := by
  have HK := Aside0.mk hk
  have HO := Aside0.mk ho
  clear hk ho
  have h7 : ∀ w, Calls Tryz.prog 63 #[.int .i64 7] w fun e w' => ∃ s : ByteArray, e = .returned (.string s) ∧ s.size ≤ 20 ∧ Below w.heap.size w w' := itoa63 7 (by decide)
  go_enter Tryz.func34, Tryz.ntmps34
  go_wp2
  have e0 : (w.alloc (.cells #[.int .i64 7, .string (strN []), .string (strN []), .slice (some ⟨bk, ok, none⟩) N ck] 62)).heap[w.heap.size]? = some (.cells #[.int .i64 7, .string (strN []), .string (strN []), .slice (some ⟨bk, ok, none⟩) N ck] 62) := heap_alloc_new w _
  have hs0 : w.heap.size < (w.alloc (.cells #[.int .i64 7, .string (strN []), .string (strN []), .slice (some ⟨bk, ok, none⟩) N ck] 62)).heap.size := by simp
  have hB0 : Below w.heap.size w (w.alloc (.cells #[.int .i64 7, .string (strN []), .string (strN []), .slice (some ⟨bk, ok, none⟩) N ck] 62)) := (Below.refl _ w).alloc (Nat.le_refl _) _
  generalize (w.alloc (.cells #[.int .i64 7, .string (strN []), .string (strN []), .slice (some ⟨bk, ok, none⟩) N ck] 62)) = W0 at *
  have p0 : W0.cell? ⟨w.heap.size, 0, none⟩ = some (.int .i64 7) := cell_eq e0
  have p1 : W0.cell? ⟨w.heap.size, 1, none⟩ = some (.string (strN [])) := cell_eq e0
  have p2 : W0.cell? ⟨w.heap.size, 2, none⟩ = some (.string (strN [])) := cell_eq e0
  go_region_held3 (fun V => V.cell? ⟨w.heap.size, 0, none⟩ = some (.int .i64 7) ∧ V.cell? ⟨w.heap.size, 1, none⟩ = some (.string (strN [])) ∧ V.cell? ⟨w.heap.size, 2, none⟩ = some (.string (strN []))) (go_keep) (first
    | (go_at_call 63; (with_reducible refine (h7 _).mono ?_); rintro e w1 ⟨s1, rfl, hs1, hB1⟩; have e1 := (hB1.block w.heap.size hs0).trans e0; have r0 : w1.cell? ⟨w.heap.size, 0, none⟩ = some (.int .i64 7) := cell_eq e1; have r1 : w1.cell? ⟨w.heap.size, 1, none⟩ = some (.string (strN [])) := cell_eq e1; have r2 : w1.cell? ⟨w.heap.size, 2, none⟩ = some (.string (strN [])) := cell_eq e1; have hz1 := Nat.lt_of_lt_of_le hs0 hB1.size; have hBx := hB0.drew.trans (hB1.mono hB0.size); have g2 := quote64 w1; obtain ⟨T1, z1, q1⟩ := add_some s1 ⟨#[32]⟩ (by show s1.size + 1 ≤ _; omega); obtain ⟨T2, z2, q2⟩ := add_some T1 (strN [34, 34]) (by rw [z1, strN_size]; show s1.size + 1 + 2 ≤ _; omega); obtain ⟨T3, z3, q3⟩ := add_some T2 ⟨#[32]⟩ (by rw [z2, z1, strN_size]; show s1.size + 1 + 2 + 1 ≤ _; omega); obtain ⟨T4, z4, q4⟩ := add_some T3 (strN [34, 34]) (by rw [z3, z2, z1, strN_size]; show s1.size + 1 + 2 + 1 + 2 ≤ _; omega); have z5 : T4.size ≤ 30 := (by rw [z4, z3, z2, z1, strN_size]; show s1.size + 1 + 2 + 1 + 2 ≤ _; omega))
    | (go_at_call 64; (with_reducible refine g2.mono ?_); rintro e w2 ⟨rfl, hB2⟩; have e2 := (hB2.block w.heap.size hz1).trans e1; have t0 : w2.cell? ⟨w.heap.size, 0, none⟩ = some (.int .i64 7) := cell_eq e2; have t1 : w2.cell? ⟨w.heap.size, 1, none⟩ = some (.string (strN [])) := cell_eq e2; have t2 : w2.cell? ⟨w.heap.size, 2, none⟩ = some (.string (strN [])) := cell_eq e2; have hz2 := Nat.lt_of_lt_of_le hz1 hB2.size; have hBy := hBx.trans (hB2.mono hBx.size); have g3 := quote64 w2)
    | (go_at_call 64; (with_reducible refine g3.mono ?_); rintro e w3 ⟨rfl, hB3⟩; have e3 := (hB3.block w.heap.size hz2).trans e2; have u0 : w3.cell? ⟨w.heap.size, 0, none⟩ = some (.int .i64 7) := cell_eq e3; have u1 : w3.cell? ⟨w.heap.size, 1, none⟩ = some (.string (strN [])) := cell_eq e3; have u2 : w3.cell? ⟨w.heap.size, 2, none⟩ = some (.string (strN [])) := cell_eq e3; have hBz := hBy.trans (hB3.mono hBy.size))
    | fail)
  have u3 : w3.cell? ⟨w.heap.size, 3, none⟩ = some (.slice (some ⟨bk, ok, none⟩) N ck) := cell_eq e3
  clear e0 e1 e2 e3 p0 p1 p2 r0 r1 r2 t0 t1 t2 hB1 hB2 hB3 hBx hBy g2 g3 q1 q2 q3 q4 z1 z2 z3 z4 hB0 hs0 hz1 hz2
  go_wp2
  go_loopw [5, 25] (fun v i wr => ∃ (k : Nat) (s : ByteArray), v = .string s ∧ i = .int .i64 k ∧ k ≤ N ∧ s.size ≤ 30 + 21 * k ∧ Below w.heap.size w wr) (fun _ i _ => N - (intOf i).toNat)
  case atStart => exact ⟨0, T4, rfl, rfl, Nat.zero_le _, z5, hBz⟩
  case round =>
    obtain ⟨k, s, rfl, rfl, hk, hs, hB⟩ := hrel
    by_cases hlt : k < N
    · have hlt' : (k : Int) < N := by omega
      have h0 : (0 : Int) ≤ k := by omega
      obtain ⟨c, hc, hcc⟩ := HO.out k hlt
      have d1 := cellB hB hbk (HK.out k hlt)
      have d2 := cellB hB hbo hcc
      have h63 := itoa63 c hc
      clear hcc
      go_wp2_with (go_at_call 63; (with_reducible refine (h63 _).mono ?_); rintro e w4 ⟨s4, rfl, hs4, hB4⟩; obtain ⟨T5, y5, x5⟩ := add_some ⟨#[32]⟩ s4 (by show 1 + s4.size ≤ _; omega); obtain ⟨T6, y6, x6⟩ := add_some s T5 (by rw [y5]; show s.size + (1 + s4.size) ≤ _; omega))
      have y7 : (⟨#[32]⟩ : ByteArray).size = 1 := rfl
      exact ⟨⟨k + 1, T6, rfl, by simp, by omega, by rw [y6, y5, y7]; omega, hB.trans (hB4.mono hB.size)⟩, by simp only [intOf]; omega⟩
    · have hk' : k = N := by omega
      subst hk'
      have hlt' : ¬ (k : Int) < k := by omega
      go_wp2
      go_ret
      exact ⟨⟨s, rfl⟩, hB⟩
end Go.Proofs.YtpanfhfcpniodaaGreatDoor
