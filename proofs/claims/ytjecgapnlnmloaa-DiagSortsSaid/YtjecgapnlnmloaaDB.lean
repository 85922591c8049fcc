/- A part of the proof: an interpreter of the program, shown right once, and the laws that it computes. -/
import Derived.Test.YtjecgapnlnmloaaDA
import Derived.Lib.OwnBridge
import Derived.Laws.OwnMore
namespace Go.Proofs.Ytjecgapnlnmloaa
open Go.RowKit Go.Shelf Go.Lib Go.Sort Go.DiagLaw
set_option linter.unusedVariables false
namespace D
/-- How two stand. -/
def cfD (x y : Dg) : Int := orI (Lib.compareInt x.2.1 y.2.1) (Lib.compareInt x.2.2 y.2.2) (Lib.compareInt x.1 y.1)
def encD (x : Dg) : List Value := [.int .i64 x.1, .int .i64 x.2.1, .int .i64 x.2.2]
theorem dgN (w : World) (os : Array Obj) (q : Nat) : (grow w os).drewN q = grow (w.drewN q) os := by
  induction q with
  | zero => rfl
  | succ q ih => first | rfl | (simp only [World.drewN, ih]; rfl)
set_option maxRecDepth 100000 in
theorem closure31 (x y : Dg) (w : World) : Calls Try.prog 31 #[dg x.1 x.2.1 x.2.2, dg y.1 y.2.1 y.2.2] w fun e w' => e = .returned (.int .i64 (cfD x y)) ∧ ∃ q os, w' = grow (w.drewN q) os := by
  have hcon := fun w => order32 x.1 x.2.1 x.2.2 y.1 y.2.1 y.2.2 w
  unfold cfD
  generalize orI (Lib.compareInt x.2.1 y.2.1) (Lib.compareInt x.2.2 y.2.2) (Lib.compareInt x.1 y.1) = r at hcon ⊢
  go_enter Try.func31, Try.ntmps31
  go_wp2_with (go_at_call 32; with_reducible refine (hcon _).mono ?_; rintro e w' ⟨rfl, q, os, rfl⟩)
  go_ret
  exact ⟨rfl, q, _, by rw [alloc_eq_grow, alloc_eq_grow, grow_grow, dgN, grow_grow]⟩
theorem cmpLays31 (blk off size : Nat) (w : World) : CmpLays Try.prog 31 #[] encD 3 cfD blk off size w :=
  fun _ _ _ _ x y => closure31 x y _
theorem ltOf_cfD (x y : Dg) : ltOf cfD x y = Go.DiagLaw.ahead x y := by
  unfold ltOf cfD orI Lib.compareInt Go.DiagLaw.ahead
  by_cases h1 : x.2.1 < y.2.1
  · simp [h1]
  · by_cases h2 : y.2.1 < x.2.1
    · have : ¬ x.2.1 = y.2.1 := by omega
      simp [h1, h2, this]
    · have e : x.2.1 = y.2.1 := by omega
      by_cases h3 : x.2.2 < y.2.2
      · simp [e, h3]
      · by_cases h4 : y.2.2 < x.2.2
        · have : ¬ x.2.2 = y.2.2 := by omega
          simp [e, h3, h4, this]
        · have e2 : x.2.2 = y.2.2 := by omega
          by_cases h5 : x.1 < y.1
          · simp [e, e2, h5]
          · by_cases h6 : y.1 < x.1 <;> simp [e, e2, h5, h6]
theorem swoD : SWO (ltOf cfD) where
  irrefl x := by rw [ltOf_cfD]; simpa using ahead_irrefl x
  trans x y z h1 h2 := by rw [ltOf_cfD] at *; exact ahead_trans h1 h2
  ntrans x y z h1 h2 := by
    rw [ltOf_cfD] at *
    simp [Go.DiagLaw.ahead] at *
    omega
/-- A slice's cells are diagnostics. -/
def DRow (w : World) (a : Option Addr) (L : List Dg) : Prop := ∀ i, i < L.length → ∃ b o, a = some ⟨b, o, none⟩ ∧ b < w.heap.size ∧ w.cell? ⟨b, o + i * 3, none⟩ = some (.int .i64 (L.getD i (0, 0, 0)).1) ∧ w.cell? ⟨b, o + i * 3 + 1, none⟩ = some (.int .i64 (L.getD i (0, 0, 0)).2.1) ∧ w.cell? ⟨b, o + i * 3 + 2, none⟩ = some (.int .i64 (L.getD i (0, 0, 0)).2.2)
theorem DRow.below {w W : World} {a : Option Addr} {L : List Dg} (h : DRow w a L) (hB : Below w.heap.size w W) : DRow W a L := fun i hi => by
  obtain ⟨b, o, h1, h2, h3, h4, h5⟩ := h i hi
  exact ⟨b, o, h1, Nat.lt_of_lt_of_le h2 hB.size, (hB.cell (p := ⟨b, o + i * 3, none⟩) h2).trans h3, (hB.cell (p := ⟨b, o + i * 3 + 1, none⟩) h2).trans h4, (hB.cell (p := ⟨b, o + i * 3 + 2, none⟩) h2).trans h5⟩
theorem below_drewN {B : Nat} {a w : World} (h : Below B a w) : ∀ q, Below B a (w.drewN q)
  | 0 => h
  | q + 1 => (below_drewN h q).drew
theorem below_growD {B : Nat} {w0 w : World} (h : Below B w0 w) (hB : B ≤ w.heap.size) (os : Array Obj) : Below B w0 (grow w os) :=
  ⟨h.os, h.tape, h.output, by rw [size_grow]; have := h.size; omega, fun k hk => (heap_grow_old w os (by omega)).trans (h.block k hk)⟩
theorem below_of_grown {w w' : World} (h : ∃ q os, w' = grow (w.drewN q) os) : Below w.heap.size w w' := by
  obtain ⟨q, os, rfl⟩ := h
  exact below_growD (below_drewN (Below.refl _ w) q) (Nat.le_refl _) os
/-- Diagnostics' cells, one behind the other. -/
def fl (L : List Dg) : List Value := (flatK encD 3 L.toArray).toList
theorem fl_length (L : List Dg) : (fl L).length = L.length * 3 := by simp [fl]
theorem fl_get {L : List Dg} {j : Nat} (hj : j < L.length * 3) : (fl L)[j]? = some (flatK encD 3 L.toArray)[j]! := by
  unfold fl
  rw [Array.getElem?_toList, getElem!_pos _ j (by simpa using hj)]
  exact Array.getElem?_eq_getElem _
theorem fl_cell {L : List Dg} {j : Nat} (hj : j < L.length * 3) : (flatK encD 3 L.toArray)[j]! = if j % 3 = 0 then .int .i64 (L.getD (j / 3) (0, 0, 0)).1 else if j % 3 = 1 then .int .i64 (L.getD (j / 3) (0, 0, 0)).2.1 else .int .i64 (L.getD (j / 3) (0, 0, 0)).2.2 := by
  have h2 : j / 3 < L.length := by omega
  rw [get_flatK _ _ _ j (by simpa using hj), getElem!_pos L.toArray (j / 3) (by simpa using h2), DiagLaw.getD_lt h2]
  have : j % 3 = 0 ∨ j % 3 = 1 ∨ j % 3 = 2 := by omega
  rcases this with h | h | h <;> rw [h] <;> rfl
theorem fl_one (L : List Dg) : ∀ u ∈ fl L, u.oneCell' = true := by
  intro u hu
  obtain ⟨j, hj, rfl⟩ := List.mem_iff_getElem.1 hu
  rw [fl_length] at hj
  have h := fl_get hj
  rw [fl_cell hj] at h
  rw [List.getElem?_eq_getElem (by rw [fl_length]; exact hj)] at h
  rw [Option.some.inj h]
  split
  · rfl
  · split <;> rfl
theorem info34 : (Try.prog.info? 34).map (fun i => (i.zero, i.size, i.bytes)) = some (some (dg 0 0 0), 3, 24) := by kernel_rfl
theorem fl_at {w : World} {b off : Nat} {L : List Dg} (h : DRow w (some ⟨b, off, none⟩) L) (j : Nat) (u : Value) (hu : (fl L)[j]? = some u) : w.cell? ⟨b, off + j, none⟩ = some u := by
  have hj : j < L.length * 3 := by rw [← fl_length]; exact (List.getElem?_eq_some_iff.1 hu).1
  rw [fl_get hj, fl_cell hj] at hu
  obtain ⟨b', o', e, _, h0, h1, h2⟩ := h (j / 3) (by omega)
  cases e
  rw [← Option.some.inj hu]
  by_cases hm : j % 3 = 0
  · rw [if_pos hm, ← h0, show off + j / 3 * 3 = off + j by omega]
  · rw [if_neg hm]
    by_cases hm1 : j % 3 = 1
    · rw [if_pos hm1, ← h1, show off + j / 3 * 3 + 1 = off + j by omega]
    · rw [if_neg hm1, ← h2, show off + j / 3 * 3 + 2 = off + j by omega]
theorem cellsAt {w : World} {blk off : Nat} {d : Array Dg} (h : HoldsK encD 3 w blk off d) {i : Nat} (hi : i < d.size) :
    w.cell? ⟨blk, off + i * 3, none⟩ = some (.int .i64 d[i]!.1) ∧ w.cell? ⟨blk, off + i * 3 + 1, none⟩ = some (.int .i64 d[i]!.2.1) ∧ w.cell? ⟨blk, off + i * 3 + 2, none⟩ = some (.int .i64 d[i]!.2.2) :=
  ⟨(h.cell (c := 0) hi (by decide)).1, (h.cell (c := 1) hi (by decide)).1, (h.cell (c := 2) hi (by decide)).1⟩
theorem drow_of_holds {w : World} {g : Nat} {L : List Dg} (h : HoldsK encD 3 w g 0 L.toArray) (hg : g < w.heap.size) : DRow w (some ⟨g, 0, none⟩) L := by
  intro i hi
  obtain ⟨c0, c1, c2⟩ := cellsAt h (i := i) (by simpa using hi)
  have e : L.getD i (0, 0, 0) = L.toArray[i]! := by rw [getElem!_pos _ i (by simpa using hi)]; simp [List.getD, hi]
  rw [e]
  exact ⟨g, 0, rfl, hg, c0, c1, c2⟩
theorem holds_of_own {w : World} {base g n cap : Nat} {L : List Dg} (hLn : L.length = n) (h : w.ownsRow base 34 3 (.slice (some ⟨g, 0, none⟩) n cap) n (fl L)) : HoldsK encD 3 w g 0 L.toArray := by
  subst hLn
  intro j hj
  have hj' : j < L.length * 3 := by simpa using hj
  rw [Nat.zero_add]
  exact ⟨by rw [h.cellAt j hj', fl_get hj']; rfl, h.frozenAt j⟩
/-- A slice of the call's own, or none: its cells. -/
theorem drow_of_own {w : World} {base n : Nat} {v : Value} {L : List Dg} (hLn : L.length = n) (h : w.ownsRow base 34 3 v n (fl L)) : ∃ a c, v = .slice a n c ∧ DRow w a L := by
  rcases h.2 with ⟨rfl, h0⟩ | ⟨g, cap, cur, rfl, hb, hg, hn, hm, hs, ht⟩
  · subst h0
    exact ⟨none, 0, rfl, fun i hi => absurd hi (by omega)⟩
  · exact ⟨_, cap, rfl, drow_of_holds (holds_of_own hLn h) (Array.getElem?_eq_some_iff.1 hg).1⟩
end D
end Go.Proofs.Ytjecgapnlnmloaa
