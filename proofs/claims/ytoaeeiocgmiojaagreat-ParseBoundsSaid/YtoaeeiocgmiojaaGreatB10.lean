/- A part of the proof: an interpreter of the program, shown right once, and the laws that it computes. -/
import Derived.Test.YtoaeeiocgmiojaaGreatB1
import Derived.Test.YtoaeeiocgmiojaaGreatB8
import Derived.Test.YtoaeeiocgmiojaaGreatW12
import Derived.Test.YtoaeeiocgmiojaaGreatKN
import Derived.WalkKit
import Derived.ProofKit
import Derived.Below
import Derived.WalkMore
import Derived.Deep.RegionWith
import Derived.Deep.RegionHeld3
import Derived.KernelRfl
namespace Go.Proofs.YtoaeeiocgmiojaaGreat
open Go.RowKit Go.Eng
set_option linter.unusedVariables false
/-- 'within', as a function. -/
def wi (a n : Int) : Int := if a.tmod n < 0 then a.tmod n + n else a.tmod n
theorem wi_is : IsWithin wi := by
  refine ⟨fun a n h0 h1 => ?_, fun a n h0 h1 => ?_, fun a n h0 h1 w => ?_⟩
  · have q1 : -n < a.tmod n := Int.lt_tmod_of_pos a h0
    unfold wi
    split <;> omega
  · have q2 : a.tmod n < n := Int.tmod_lt_of_pos a h0
    unfold wi
    split <;> omega
  · unfold wi
    split
    · exact within12_neg a n w h0 h1 ‹_›
    · exact within12_pos a n w h0 ‹_›
abbrev nilCell : Obj := Obj.cells #[Value.slice none 0 0] 29
theorem lt_of_cell {w : World} {p : Addr} {v : Value} (h : w.cell? p = some v) : p.block < w.heap.size := by
  unfold World.cell? at h
  split at h
  · rename_i hh
    exact (Array.getElem?_eq_some_iff.1 hh).1
  · cases h
theorem al_cell {w : World} (o : Obj) {p : Addr} {v : Value} (h : w.cell? p = some v) : (w.alloc o).cell? p = some v :=
  (World.cell?_of_block (Below.heap_alloc w o p.block (lt_of_cell h))).trans h
theorem al_new (w : World) : (w.alloc nilCell).cell? ⟨w.heap.size, 0, none⟩ = some (.slice none 0 0) ∧ (w.alloc nilCell).frozen? ⟨w.heap.size, 0, none⟩ = false := by
  constructor <;> simp [nilCell]
theorem al_size (w : World) (o : Obj) : (w.alloc o).heap.size = w.heap.size + 1 := by simp
theorem be_cell {w v : World} (h : Below w.heap.size w v) {p : Addr} {x : Value} (hc : w.cell? p = some x) : v.cell? p = some x := (h.cell (lt_of_cell hc)).trans hc
theorem be_frozen {w v : World} (h : Below w.heap.size w v) {p : Addr} {x : Value} (hc : w.cell? p = some x) (hf : w.frozen? p = false) : v.frozen? p = false := (h.frozen (lt_of_cell hc)).trans hf
theorem ch {a b c : World} (h : Below a.heap.size a b) (k : Below b.heap.size b c) : Below a.heap.size a c := h.trans (k.mono h.size)
theorem ch_al {a b : World} (h : Below a.heap.size a b) (o : Obj) : Below a.heap.size a (b.alloc o) := h.alloc h.size o
theorem ch_set {a b : World} (h : Below a.heap.size a b) (B : Nat) (hb : a.heap.size ≤ B) (u : Value) : Below a.heap.size a (b.setCell ⟨B, 0, none⟩ u) := h.setCell hb u
theorem round_end {w wr W : World} {R : Nat} {x0 x1 x2 m : Int} (k : Nat) (hk : k ≤ 3) (hm : m = k) (hB : Below w.heap.size w wr) (q0 : wr.cell? ⟨R, 0, none⟩ = some (.int .i64 x0)) (q1 : wr.cell? ⟨R, 1, none⟩ = some (.int .i64 x1)) (q2 : wr.cell? ⟨R, 2, none⟩ = some (.int .i64 x2))
    (h : Below wr.heap.size wr W) : ∃ k : Nat, Value.int .i64 m = .int .i64 k ∧ k ≤ 3 ∧ W.cell? ⟨R, 0, none⟩ = some (.int .i64 x0) ∧ W.cell? ⟨R, 1, none⟩ = some (.int .i64 x1) ∧ W.cell? ⟨R, 2, none⟩ = some (.int .i64 x2) ∧ R < W.heap.size ∧ Below w.heap.size w W :=
  ⟨k, by rw [hm], hk, be_cell h q0, be_cell h q1, be_cell h q2, lt_of_cell (be_cell h q0), ch hB h⟩
set_option maxRecDepth 100000 in
set_option maxHeartbeats 4000000 in
theorem bounds4 (known : ∀ w, Calls Tryz.prog 11 #[] w fun e w' => e = .returned (.bool true) ∧ Below w.heap.size w w') (g : Int → Int → Int) (hg : IsWithin g) (a : Option Addr) (n c : Nat) (d : Int) (w : World) (hI : IntRow w a n) :
    Calls Tryz.prog 4 #[.slice a n c, .int .i64 d] w fun e w' => e = .returned (.bool true) ∧ Below w.heap.size w w' := by
  have l1 := hg.low d 99 (by decide) (by decide)
  have u1 := hg.high d 99 (by decide) (by decide)
  have c1 := hg.calls d 99 (by decide) (by decide)
  obtain ⟨j, ej⟩ := Int.eq_ofNat_of_zero_le l1
  rw [ej] at c1 u1
  clear l1 ej
  go_enter Tryz.func4, Tryz.ntmps4
  go_wp2_with (first | (go_at_call 11; refine (known _).mono ?_; rintro e w1 ⟨rfl, hB1⟩) | (go_at_call 12; with_reducible refine (c1 _).mono ?_; rintro e w' ⟨rfl, rfl⟩))
  go_loopw [6] (fun i wr => ∃ k : Nat, i = .int .i64 k ∧ k ≤ 3 ∧ wr.cell? ⟨w'.heap.size, 0, none⟩ = some (.int .i64 0) ∧ wr.cell? ⟨w'.heap.size, 1, none⟩ = some (.int .i64 (51 + j)) ∧ wr.cell? ⟨w'.heap.size, 2, none⟩ = some (.int .i64 (-1 - j)) ∧ w'.heap.size < wr.heap.size ∧ Below w.heap.size w wr) (fun i _ => 3 - (intOf i).toNat)
  case atStart => exact ⟨0, rfl, by decide, by simp, by simp, by simp, by simp, hB1.alloc hB1.size _⟩
  case round =>
    obtain ⟨k, rfl, hk, q0, q1, q2, hlt, hB⟩ := hrel
    have hne : wr.heap.size ≠ w'.heap.size := Ne.symm (Nat.ne_of_lt hlt)
    have hne2 : w'.heap.size ≠ wr.heap.size := Nat.ne_of_lt hlt
    have hlines := fun (v : World) (hv : Below w.heap.size w v) => lines14 g hg a n c v (hI.below hv)
    clear hg c1
    have hcases : k = 0 ∨ k = 1 ∨ k = 2 ∨ k = 3 := by omega
    rcases hcases with h | h | h | h <;> subst h
    · go_wp2
      go_region_held3 (fun v => v.cell? ⟨w'.heap.size, 0, none⟩ = some (.int .i64 (0))) (go_keep) (first | (go_at_call 14; refine (hlines wr.drew (Below.drew hB)).mono ?_; rintro e w2 ⟨⟨v2, l2, c2, rfl⟩, hB2⟩; have r0 : w2.cell? ⟨w'.heap.size, 0, none⟩ = some (.int .i64 (0)) := be_cell hB2 q0) | (go_at_call 14; refine (hlines (wr.drew.alloc _) (Below.alloc (Below.drew hB) hB.size _)).mono ?_; rintro e w2 ⟨⟨v2, l2, c2, rfl⟩, hB2⟩; have r0 : w2.cell? ⟨w'.heap.size, 0, none⟩ = some (.int .i64 (0)) := be_cell hB2 (al_cell _ q0); have z2 : w'.heap.size ≠ wr.heap.size := Nat.ne_of_lt hlt; have t2 : w2.cell? ⟨wr.heap.size, 0, none⟩ = some (.slice none 0 0) := be_cell hB2 (al_new wr.drew).1; have f2 : w2.frozen? ⟨wr.heap.size, 0, none⟩ = false := be_frozen hB2 (al_new wr.drew).1 (al_new wr.drew).2) | (go_at_call 13; refine (treeNone (.bool true) (0) (by omega) _ _ _ (w2.alloc _)).mono ?_; rintro e w3 ⟨rfl, hB3⟩; have r3 : w3.cell? ⟨w'.heap.size, 0, none⟩ = some (.int .i64 (0)) := be_cell hB3 (al_cell _ r0); have z2 : w'.heap.size ≠ w2.heap.size := Nat.ne_of_lt (lt_of_cell r0); have z3 : w2.heap.size ≠ w'.heap.size := Ne.symm z2; have t3 : w3.cell? ⟨w2.heap.size, 0, none⟩ = some (.slice none 0 0) := be_cell hB3 (al_new w2).1; have f3 : w3.frozen? ⟨w2.heap.size, 0, none⟩ = false := be_frozen hB3 (al_new w2).1 (al_new w2).2) | (go_at_call 13; refine (treeNone (.bool true) (0) (by omega) _ _ _ w2).mono ?_; rintro e w3 ⟨rfl, hB3⟩; have r3 : w3.cell? ⟨w'.heap.size, 0, none⟩ = some (.int .i64 (0)) := be_cell hB3 r0; try (have t3 : w3.cell? ⟨wr.heap.size, 0, none⟩ = some (.slice none 0 0) := be_cell hB3 t2; have f3 : w3.frozen? ⟨wr.heap.size, 0, none⟩ = false := be_frozen hB3 t2 f2)))
      all_goals go_wp2
      all_goals go_roundw
      all_goals first
        | (simp only [intOf]; omega)
        | (refine round_end (1) (by decide) (by rfl) hB q0 q1 q2 ?_
           repeat first
             | exact Below.refl _ _
             | refine Below.drew ?_
             | refine ch_al ?_ _
             | refine ch_set ?_ _ (Nat.le_refl _) _
             | refine ch_set ?_ _ (ch (Below.drew (Below.refl _ _)) hB2).size _
             | refine ch ?_ hB3
             | refine ch ?_ hB2)
    · go_wp2
      go_region_held3 (fun v => v.cell? ⟨w'.heap.size, 1, none⟩ = some (.int .i64 (51 + j))) (go_keep) (first | (go_at_call 14; refine (hlines wr.drew (Below.drew hB)).mono ?_; rintro e w2 ⟨⟨v2, l2, c2, rfl⟩, hB2⟩; have r0 : w2.cell? ⟨w'.heap.size, 1, none⟩ = some (.int .i64 (51 + j)) := be_cell hB2 q1) | (go_at_call 14; refine (hlines (wr.drew.alloc _) (Below.alloc (Below.drew hB) hB.size _)).mono ?_; rintro e w2 ⟨⟨v2, l2, c2, rfl⟩, hB2⟩; have r0 : w2.cell? ⟨w'.heap.size, 1, none⟩ = some (.int .i64 (51 + j)) := be_cell hB2 (al_cell _ q1); have z2 : w'.heap.size ≠ wr.heap.size := Nat.ne_of_lt hlt; have t2 : w2.cell? ⟨wr.heap.size, 0, none⟩ = some (.slice none 0 0) := be_cell hB2 (al_new wr.drew).1; have f2 : w2.frozen? ⟨wr.heap.size, 0, none⟩ = false := be_frozen hB2 (al_new wr.drew).1 (al_new wr.drew).2) | (go_at_call 13; refine (treeNone (.bool true) (51 + j) (by omega) _ _ _ (w2.alloc _)).mono ?_; rintro e w3 ⟨rfl, hB3⟩; have r3 : w3.cell? ⟨w'.heap.size, 1, none⟩ = some (.int .i64 (51 + j)) := be_cell hB3 (al_cell _ r0); have z2 : w'.heap.size ≠ w2.heap.size := Nat.ne_of_lt (lt_of_cell r0); have z3 : w2.heap.size ≠ w'.heap.size := Ne.symm z2; have t3 : w3.cell? ⟨w2.heap.size, 0, none⟩ = some (.slice none 0 0) := be_cell hB3 (al_new w2).1; have f3 : w3.frozen? ⟨w2.heap.size, 0, none⟩ = false := be_frozen hB3 (al_new w2).1 (al_new w2).2) | (go_at_call 13; refine (treeNone (.bool true) (51 + j) (by omega) _ _ _ w2).mono ?_; rintro e w3 ⟨rfl, hB3⟩; have r3 : w3.cell? ⟨w'.heap.size, 1, none⟩ = some (.int .i64 (51 + j)) := be_cell hB3 r0; try (have t3 : w3.cell? ⟨wr.heap.size, 0, none⟩ = some (.slice none 0 0) := be_cell hB3 t2; have f3 : w3.frozen? ⟨wr.heap.size, 0, none⟩ = false := be_frozen hB3 t2 f2)))
      all_goals go_wp2
      all_goals go_roundw
      all_goals first
        | (simp only [intOf]; omega)
        | (refine round_end (2) (by decide) (by rfl) hB q0 q1 q2 ?_
           repeat first
             | exact Below.refl _ _
             | refine Below.drew ?_
             | refine ch_al ?_ _
             | refine ch_set ?_ _ (Nat.le_refl _) _
             | refine ch_set ?_ _ (ch (Below.drew (Below.refl _ _)) hB2).size _
             | refine ch ?_ hB3
             | refine ch ?_ hB2)
    · go_wp2
      go_region_held3 (fun v => v.cell? ⟨w'.heap.size, 2, none⟩ = some (.int .i64 (-1 - j))) (go_keep) (first | (go_at_call 14; refine (hlines wr.drew (Below.drew hB)).mono ?_; rintro e w2 ⟨⟨v2, l2, c2, rfl⟩, hB2⟩; have r0 : w2.cell? ⟨w'.heap.size, 2, none⟩ = some (.int .i64 (-1 - j)) := be_cell hB2 q2) | (go_at_call 14; refine (hlines (wr.drew.alloc _) (Below.alloc (Below.drew hB) hB.size _)).mono ?_; rintro e w2 ⟨⟨v2, l2, c2, rfl⟩, hB2⟩; have r0 : w2.cell? ⟨w'.heap.size, 2, none⟩ = some (.int .i64 (-1 - j)) := be_cell hB2 (al_cell _ q2); have z2 : w'.heap.size ≠ wr.heap.size := Nat.ne_of_lt hlt; have t2 : w2.cell? ⟨wr.heap.size, 0, none⟩ = some (.slice none 0 0) := be_cell hB2 (al_new wr.drew).1; have f2 : w2.frozen? ⟨wr.heap.size, 0, none⟩ = false := be_frozen hB2 (al_new wr.drew).1 (al_new wr.drew).2) | (go_at_call 13; refine (treeNone (.bool true) (-1 - j) (by omega) _ _ _ (w2.alloc _)).mono ?_; rintro e w3 ⟨rfl, hB3⟩; have r3 : w3.cell? ⟨w'.heap.size, 2, none⟩ = some (.int .i64 (-1 - j)) := be_cell hB3 (al_cell _ r0); have z2 : w'.heap.size ≠ w2.heap.size := Nat.ne_of_lt (lt_of_cell r0); have z3 : w2.heap.size ≠ w'.heap.size := Ne.symm z2; have t3 : w3.cell? ⟨w2.heap.size, 0, none⟩ = some (.slice none 0 0) := be_cell hB3 (al_new w2).1; have f3 : w3.frozen? ⟨w2.heap.size, 0, none⟩ = false := be_frozen hB3 (al_new w2).1 (al_new w2).2) | (go_at_call 13; refine (treeNone (.bool true) (-1 - j) (by omega) _ _ _ w2).mono ?_; rintro e w3 ⟨rfl, hB3⟩; have r3 : w3.cell? ⟨w'.heap.size, 2, none⟩ = some (.int .i64 (-1 - j)) := be_cell hB3 r0; try (have t3 : w3.cell? ⟨wr.heap.size, 0, none⟩ = some (.slice none 0 0) := be_cell hB3 t2; have f3 : w3.frozen? ⟨wr.heap.size, 0, none⟩ = false := be_frozen hB3 t2 f2)))
      all_goals go_wp2
      all_goals go_roundw
      all_goals first
        | (simp only [intOf]; omega)
        | (refine round_end (3) (by decide) (by rfl) hB q0 q1 q2 ?_
           repeat first
             | exact Below.refl _ _
             | refine Below.drew ?_
             | refine ch_al ?_ _
             | refine ch_set ?_ _ (Nat.le_refl _) _
             | refine ch_set ?_ _ (ch (Below.drew (Below.refl _ _)) hB2).size _
             | refine ch ?_ hB3
             | refine ch ?_ hB2)
    · go_wp2
      go_ret
      exact ⟨rfl, hB⟩
end Go.Proofs.YtoaeeiocgmiojaaGreat
