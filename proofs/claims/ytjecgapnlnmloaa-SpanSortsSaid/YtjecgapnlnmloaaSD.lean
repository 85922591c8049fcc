/- A part of the proof: an interpreter of the program, shown right once, and the laws that it computes. -/
import Derived.Test.YtjecgapnlnmloaaSC
import Derived.Lib.OwnBridge
import Derived.Laws.OwnMore
namespace Go.Proofs.Ytjecgapnlnmloaa
open Go.RowKit Go.Shelf Go.Lib Go.Sort Go.SpanLaw
set_option linter.unusedVariables false
/-- Spans' cells, one behind the other. -/
def fl (L : List Sp) : List Value := (flatK encS 2 L.toArray).toList
theorem fl_length (L : List Sp) : (fl L).length = L.length * 2 := by simp [fl]
theorem fl_get {L : List Sp} {j : Nat} (hj : j < L.length * 2) : (fl L)[j]? = some (flatK encS 2 L.toArray)[j]! := by
  unfold fl
  rw [Array.getElem?_toList, getElem!_pos _ j (by simpa using hj)]
  exact Array.getElem?_eq_getElem _
theorem fl_cell {L : List Sp} {j : Nat} (hj : j < L.length * 2) : (flatK encS 2 L.toArray)[j]! = if j % 2 = 0 then .int .i64 (L.getD (j / 2) (0, 0)).1 else .int .i64 (L.getD (j / 2) (0, 0)).2 := by
  have h2 : j / 2 < L.length := by omega
  rw [get_flatK _ _ _ j (by simpa using hj), getElem!_pos L.toArray (j / 2) (by simpa using h2), getD_lt h2]
  have : j % 2 = 0 ∨ j % 2 = 1 := by omega
  rcases this with h | h <;> rw [h] <;> rfl
theorem fl_one (L : List Sp) : ∀ u ∈ fl L, u.oneCell' = true := by
  intro u hu
  obtain ⟨j, hj, rfl⟩ := List.mem_iff_getElem.1 hu
  rw [fl_length] at hj
  have h := fl_get hj
  rw [fl_cell hj] at h
  rw [List.getElem?_eq_getElem (by rw [fl_length]; exact hj)] at h
  rw [Option.some.inj h]
  split <;> rfl
theorem info23 : (Try.prog.info? 23).map (fun i => (i.zero, i.size, i.bytes)) = some (some (sp 0 0), 2, 16) := by kernel_rfl
theorem fl_at {w : World} {b off : Nat} {L : List Sp} (h : SRow w (some ⟨b, off, none⟩) L) (j : Nat) (u : Value) (hu : (fl L)[j]? = some u) : w.cell? ⟨b, off + j, none⟩ = some u := by
  have hj : j < L.length * 2 := by rw [← fl_length]; exact (List.getElem?_eq_some_iff.1 hu).1
  rw [fl_get hj, fl_cell hj] at hu
  obtain ⟨b', o', e, _, h1, h2⟩ := h (j / 2) (by omega)
  cases e
  rw [← Option.some.inj hu]
  by_cases hm : j % 2 = 0
  · rw [if_pos hm, ← h1, show off + j / 2 * 2 = off + j by omega]
  · rw [if_neg hm, ← h2, show off + j / 2 * 2 + 1 = off + j by omega]
theorem holds_of_own {w : World} {base : Nat} {v : Value} {L : List Sp} (h : w.ownsRow base 23 2 v L.length (fl L)) (hv : v ≠ .slice none 0 0) :
    ∃ g cap, v = .slice (some ⟨g, 0, none⟩) L.length cap ∧ base ≤ g ∧ g < w.heap.size ∧ L.length ≤ cap ∧ HoldsK encS 2 w g 0 L.toArray := by
  rcases h.2 with ⟨e0, _⟩ | ⟨g, cap, cur, rfl, hb, hg, hn, hm, hs, ht⟩
  · exact absurd e0 hv
  · refine ⟨g, cap, rfl, hb, (Array.getElem?_eq_some_iff.1 hg).1, hn, fun j hj => ?_⟩
    have hj' : j < L.length * 2 := by simpa using hj
    rw [Nat.zero_add]
    exact ⟨by rw [h.cellAt j hj', fl_get hj']; rfl, h.frozenAt j⟩
theorem srow_of_holds {w : World} {g : Nat} {dk : Array Sp} {L : List Sp} (h : HoldsK encS 2 w g 0 dk) (hg : g < w.heap.size) (hlen : L.length ≤ dk.size) (he : ∀ j, j < L.length → L[j]? = some dk[j]!) : SRow w (some ⟨g, 0, none⟩) L := by
  intro i hi
  obtain ⟨c1, c2, _, _⟩ := cellsAt h (i := i) (by omega)
  have e : L.getD i (0, 0) = dk[i]! := by simp [List.getD, he i hi]
  rw [e]
  exact ⟨g, 0, rfl, hg, c1, c2⟩
theorem clone35 (b off c : Nat) (L : List Sp) (w : World) (hL : SRow w (some ⟨b, off, none⟩) L) (hn : L.length ≤ 40) : Calls Try.prog 35 #[.slice (some ⟨b, off, none⟩) L.length c] w fun e w' =>
    ∃ g cap, e = .returned (.slice (some ⟨g, 0, none⟩) L.length cap) ∧ w.heap.size ≤ g ∧ g < w'.heap.size ∧ L.length ≤ cap ∧ HoldsK encS 2 w' g 0 L.toArray ∧ Below w.heap.size w w' := by
  obtain ⟨i0, hi, hz0, hz1, hz2⟩ := info_parts info23
  have hc := AnyE.slices_Clone Try.cloneSp i0 (sp 0 0) 2 16 hi hz0 hz1 hz2 rfl (by decide) (fun w => by kernel_rfl) b off L.length c (fl L) w (fl_length L) (by unfold maxLen; omega) (by omega) (fl_at hL) (fl_one L)
  change Calls Try.prog 35 _ _ _ at hc
  refine hc.mono ?_
  rintro e w' ⟨v', rfl, hown, hv, hB⟩
  obtain ⟨g, cap, rfl, h1, h2, h3, h4⟩ := holds_of_own hown hv
  exact ⟨g, cap, rfl, h1, h2, h3, h4, hB⟩
theorem clone35_nil (w : World) : Calls Try.prog 35 #[.slice none 0 0] w fun e w' => e = .returned (.slice none 0 0) ∧ w' = w :=
  AnyE.slices_Clone_nil Try.cloneSp 0 0 w
/-- Put in order. -/
def upS (L : List Sp) : List Sp := L.mergeSort fun x y => !(ltOf cfS) y x
theorem upS_perm (L : List Sp) : (upS L).Perm L := List.mergeSort_perm _ _
theorem upS_up (L : List Sp) : (upS L).Pairwise fun x y => ¬ Go.SpanLaw.ahead y x = true := by
  have h := List.pairwise_mergeSort (le := fun x y => !(ltOf cfS) y x) (fun a b c h1 h2 => by
    simp only [ltOf_cfS, Bool.not_eq_true'] at *
    simp only [Go.SpanLaw.ahead, Bool.or_eq_false_iff, Bool.and_eq_false_iff, decide_eq_false_iff_not] at *
    omega) (fun a b => by
    simp only [ltOf_cfS]
    cases h1 : Go.SpanLaw.ahead b a with
    | false => rfl
    | true =>
      have := ahead_asymm h1
      simp only [Bool.not_eq_true] at this
      rw [this]; rfl) L
  exact h.imp fun {x y} hxy => by
    simp only [ltOf_cfS] at hxy
    intro hh
    rw [hh] at hxy
    cases hxy
/-- Put in order, each once. -/
def sortS (L : List Sp) : List Sp := compactUpTo (upS L).toArray (upS L).toArray.size
theorem sortS_strict (L : List Sp) : Strict (sortS L) := by
  refine compact_strict fun i j hij hj => ?_
  have hj' : j < (upS L).length := by simpa using hj
  have := List.pairwise_iff_getElem.1 (upS_up L) i j (by omega) hj' hij
  rw [getElem!_pos (upS L).toArray j hj, getElem!_pos (upS L).toArray i (by simp; omega)]
  simpa using this
theorem mem_sortS {L : List Sp} {x : Sp} : x ∈ sortS L ↔ x ∈ L := by
  unfold sortS
  rw [mem_compact]
  simpa using (upS_perm L).mem_iff
theorem sorts_eq (L : List Sp) : sortS L = sorts L := by
  obtain ⟨h1, h2⟩ := foldl_ins L [] List.Pairwise.nil
  refine uniq (sortS_strict L) h1 fun x => ?_
  rw [mem_sortS]
  show _ ↔ x ∈ L.foldl (fun out x => ins x out) []
  rw [h2]
  simp
end Go.Proofs.Ytjecgapnlnmloaa
