/- A part of the proof: an interpreter of the program, shown right once, and the laws that it computes. -/
import Derived.Test.YtjecgapnlnmloaaPl
import Derived.Lib.SlicesCompact
namespace Go.SpanLaw
open Go.Lib
theorem lt_of_keeps {d : Array Sp} (h : ∀ i j, i < j → j < d.size → ¬ ahead d[j]! d[i]! = true) {i j : Nat} (hij : i < j) (hj : j < d.size) (hk : keeps d j = true) : ahead d[i]! d[j]! = true := by
  have hne : d[j]! ≠ d[j - 1]! := by
    have h0 : ¬ j = 0 := by omega
    simpa [keeps, h0] using hk
  have h1 : ahead d[j - 1]! d[j]! = true := by
    cases hh : ahead d[j - 1]! d[j]!
    · exact absurd (ahead_tri (by rw [hh]; decide) (h (j - 1) j (by omega) hj)) (Ne.symm hne)
    · rfl
  by_cases e : i = j - 1
  · rw [e]; exact h1
  · have h2 := h i (j - 1) (by omega) (by omega)
    cases hh : ahead d[i]! d[j - 1]!
    · rw [ahead_tri (by rw [hh]; decide) h2]; exact h1
    · exact ahead_trans hh h1
theorem compact_strict {d : Array Sp} (h : ∀ i j, i < j → j < d.size → ¬ ahead d[j]! d[i]! = true) : Strict (compactUpTo d d.size) := by
  unfold compactUpTo Strict
  rw [List.pairwise_map]
  have h1 : ((List.range d.size).filter (keeps d)).Pairwise (· < ·) := List.Pairwise.filter _ List.pairwise_lt_range
  refine h1.imp_of_mem fun {a b} ha hb hab => ?_
  obtain ⟨hb1, hb2⟩ := List.mem_filter.1 hb
  exact lt_of_keeps h hab (List.mem_range.1 hb1) hb2
theorem mem_compact {d : Array Sp} {x : Sp} : x ∈ compactUpTo d d.size ↔ x ∈ d.toList := by
  unfold compactUpTo
  constructor
  · intro hx
    obtain ⟨j, hj, rfl⟩ := List.mem_map.1 hx
    have hj := List.mem_range.1 (List.mem_filter.1 hj).1
    rw [getElem!_pos d j hj]
    simp
  · intro hx
    obtain ⟨j, hj, rfl⟩ := List.mem_iff_getElem.1 hx
    have hj' : j < d.size := by simpa using hj
    have : ∀ j, j < d.size → d[j]! ∈ ((List.range d.size).filter (keeps d)).map (d[·]!) := by
      intro j
      induction j with
      | zero => intro h0; exact List.mem_map.2 ⟨0, List.mem_filter.2 ⟨List.mem_range.2 h0, keeps_lt_one d 0 (by omega)⟩, rfl⟩
      | succ j ih =>
        intro h0
        by_cases e : d[j + 1]! = d[j]!
        · rw [e]; exact ih (by omega)
        · exact List.mem_map.2 ⟨j + 1, List.mem_filter.2 ⟨List.mem_range.2 h0, keeps_pos (by simpa using e)⟩, rfl⟩
    have := this j hj'
    rw [getElem!_pos d j hj'] at this
    simpa using this
end Go.SpanLaw
