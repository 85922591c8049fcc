/- A part of the proof: an interpreter of the program, shown right once, and the laws that it computes. -/
import Derived.Test.YtjecgapnlnmloaaDD
namespace Go.Proofs.Ytjecgapnlnmloaa
open Go.RowKit Go.Shelf Go.Lib Go.Sort Go.DiagLaw
set_option linter.unusedVariables false
namespace D
theorem clone33 (g c n : Nat) (L : List Dg) (hLn : L.length = n) (w : World) (hL : DRow w (some ⟨g, 0, none⟩) L) (hn : n ≤ 60) : Calls Try.prog 33 #[.slice (some ⟨g, 0, none⟩) n c] w fun e w' =>
    ∃ g cap, e = .returned (.slice (some ⟨g, 0, none⟩) n cap) ∧ DRow w' (some ⟨g, 0, none⟩) L ∧ Below w.heap.size w w' := by
  subst hLn
  obtain ⟨i0, hi, hz0, hz1, hz2⟩ := info_parts info34
  have hc := AnyE.slices_Clone Try.cloneDg i0 (dg 0 0 0) 3 24 hi hz0 hz1 hz2 rfl (by decide) (fun w => by kernel_rfl) g 0 L.length c (fl L) w (fl_length L) (by unfold maxLen; omega) (by omega) (fl_at hL) (fl_one L)
  change Calls Try.prog 33 _ _ _ at hc
  refine hc.mono ?_
  rintro e w' ⟨v', rfl, hown, hv, hB⟩
  rcases hown.2 with ⟨e0, _⟩ | ⟨g, cap, cur, rfl, hb, hg, hn, hm, hs, ht⟩
  · exact absurd e0 hv
  · exact ⟨g, cap, rfl, drow_of_holds (holds_of_own rfl hown) (Array.getElem?_eq_some_iff.1 hg).1, hB⟩
theorem clone33_nil (w : World) : Calls Try.prog 33 #[.slice none 0 0] w fun e w' => e = .returned (.slice none 0 0) ∧ w' = w :=
  AnyE.slices_Clone_nil Try.cloneDg 0 0 w
/-- Put in order. -/
def upD (L : List Dg) : List Dg := L.mergeSort fun x y => !(ltOf cfD) y x
theorem upD_perm (L : List Dg) : (upD L).Perm L := List.mergeSort_perm _ _
theorem upD_len (L : List Dg) : (upD L).length = L.length := (upD_perm L).length_eq
theorem upD_up (L : List Dg) : (upD L).Pairwise fun x y => ¬ Go.DiagLaw.ahead y x = true := by
  have h := List.pairwise_mergeSort (le := fun x y => !(ltOf cfD) y x) (fun a b c h1 h2 => by
    simp only [ltOf_cfD, Bool.not_eq_true'] at *
    simp only [Go.DiagLaw.ahead, Bool.or_eq_false_iff, Bool.and_eq_false_iff, decide_eq_false_iff_not] at *
    omega) (fun a b => by
    simp only [ltOf_cfD]
    cases h1 : Go.DiagLaw.ahead b a with
    | false => rfl
    | true =>
      have := ahead_asymm h1
      simp only [Bool.not_eq_true] at this
      rw [this]; rfl) L
  exact h.imp fun {x y} hxy => by
    simp only [ltOf_cfD] at hxy
    intro hh
    rw [hh] at hxy
    cases hxy
/-- Put in order, each once. -/
def sortD (L : List Dg) : List Dg := upD (once L)
theorem mem_sortD {L : List Dg} {x : Dg} : x ∈ sortD L ↔ x ∈ L := by
  unfold sortD
  rw [(upD_perm _).mem_iff, mem_once]
theorem sortD_strict (L : List Dg) : Strict (sortD L) := by
  have h1 := upD_up (once L)
  have h2 : (upD (once L)).Nodup := (upD_perm _).nodup_iff.2 (once_nodup L)
  exact (List.Pairwise.and h1 h2).imp fun {x y} h => by
    cases hh : Go.DiagLaw.ahead x y
    · exact absurd (ahead_tri (by rw [hh]; decide) h.1) h.2
    · rfl
theorem size_putRowK (w : World) (q g : Nat) (d : Array Dg) : (putRowK encD 3 (Sort.ahead w q) g 0 d).heap.size = w.heap.size := by
  simp [putRowK, putRow, mapBlock, Sort.ahead]
theorem sortFunc30 (g cap n : Nat) (L : List Dg) (hLn : L.length = n) (w : World) (hH : HoldsK encD 3 w g 0 L.toArray) (hg : g < w.heap.size) (hn : n ≤ 60) : Calls Try.prog 30 #[.slice (some ⟨g, 0, none⟩) n cap, .func (.func 31) #[] #[]] w fun e w' =>
    e = .returned (.tuple #[]) ∧ DRow w' (some ⟨g, 0, none⟩) (upD L) ∧ ∀ B, B ≤ g → Below B w w' := by
  subst hLn
  have eg : ∀ args w, (callFunc 31 args).run Try.prog w = .ok (.enter 31 args) w := enters_of Try.func31 (by kernel_rfl) rfl
  have hc := AnyQ.slices_SortFunc_total Try.sortDg 3 (fun w => by kernel_rfl) (fun w => by kernel_rfl) encD (fun _ => rfl) (fun x v hv => by simp [encD] at hv; rcases hv with rfl | rfl | rfl <;> rfl) cfD swoD 31 #[] g 0 cap L.toArray w eg (cmpLays31 g 0 _ w) hH hg (by simp; omega) (fun x y h1 h2 => by
    rw [ltOf_cfD] at h1 h2
    exact ahead_tri (by rw [h1]; decide) (by rw [h2]; decide))
  change Calls Try.prog 30 _ _ _ at hc
  rw [show L.toArray.size = L.length by simp] at hc
  refine hc.mono ?_
  rintro e w' ⟨rfl, n, os, rfl⟩
  have hs : (upD L).toArray.size = L.toArray.size := by simp [upD_len]
  refine ⟨rfl, ?_, fun B hB => ?_⟩
  · refine drow_of_holds (holdsK_grow encD 3 _ os g 0 _ (by rw [size_putRowK]; exact hg) (holdsK_putRowK encD 3 _ g 0 _ _ (holdsK_ahead encD 3 w n g 0 _ hH) hs)) ?_
    show g < (grow (putRowK encD 3 (Sort.ahead w n) g 0 _) os).heap.size
    rw [size_grow, size_putRowK]; omega
  · exact below_growD (below_putRow (Below.refl _ w |>.mono (by omega)) hB) (by show B ≤ (putRowK encD 3 (Sort.ahead w n) g 0 (upD L).toArray).heap.size; rw [size_putRowK]; omega) os
theorem sortFunc30_nil (w : World) : Calls Try.prog 30 #[.slice none 0 0, .func (.func 31) #[] #[]] w fun e w' => e = .returned (.tuple #[]) ∧ w' = w :=
  AnyF.slices_SortFunc_none Try.sortDg none 0 _ w
end D
end Go.Proofs.Ytjecgapnlnmloaa
