/- A part of the proof: an interpreter of the program, shown right once, and the laws that it computes. -/
import Derived.Test.YtjecgapnlnmloaaSD
namespace Go.Proofs.Ytjecgapnlnmloaa
open Go.RowKit Go.Shelf Go.Lib Go.Sort Go.SpanLaw
set_option linter.unusedVariables false
theorem below_growS {B : Nat} {w0 w : World} (h : Below B w0 w) (hB : B ≤ w.heap.size) (os : Array Obj) : Below B w0 (grow w os) :=
  ⟨h.os, h.tape, h.output, by rw [size_grow]; have := h.size; omega, fun k hk => (heap_grow_old w os (by omega)).trans (h.block k hk)⟩
theorem size_putRowK (w : World) (q g : Nat) (d : Array Sp) : (putRowK encS 2 (Sort.ahead w q) g 0 d).heap.size = w.heap.size := by
  simp [putRowK, putRow, mapBlock, Sort.ahead]
theorem upS_len (L : List Sp) : (upS L).length = L.length := (upS_perm L).length_eq
theorem sortFunc36 (g cap : Nat) (L : List Sp) (w : World) (hH : HoldsK encS 2 w g 0 L.toArray) (hg : g < w.heap.size) (hn : L.length ≤ 40) : Calls Try.prog 36 #[.slice (some ⟨g, 0, none⟩) L.length cap, .func (.func 37) #[] #[]] w fun e w' =>
    e = .returned (.tuple #[]) ∧ HoldsK encS 2 w' g 0 (upS L).toArray ∧ g < w'.heap.size ∧ ∀ B, B ≤ g → Below B w w' := by
  have eg : ∀ args w, (callFunc 37 args).run Try.prog w = .ok (.enter 37 args) w := enters_of Try.func37 (by kernel_rfl) rfl
  have hc := AnyQ.slices_SortFunc_total Try.sortSp 2 (fun w => by kernel_rfl) (fun w => by kernel_rfl) encS (fun _ => rfl) (fun x v hv => by simp [encS] at hv; rcases hv with rfl | rfl <;> rfl) cfS swoS 37 #[] g 0 cap L.toArray w eg (cmpLays37 g 0 _ w) hH hg (by simp; omega) (fun x y h1 h2 => by
    rw [ltOf_cfS] at h1 h2
    exact ahead_tri (by rw [h1]; decide) (by rw [h2]; decide))
  change Calls Try.prog 36 _ _ _ at hc
  rw [show L.toArray.size = L.length by simp] at hc
  refine hc.mono ?_
  rintro e w' ⟨rfl, n, os, rfl⟩
  have hs : (upS L).toArray.size = L.toArray.size := by simp [upS_len]
  refine ⟨rfl, ?_, ?_, fun B hB => ?_⟩
  · exact holdsK_grow encS 2 _ os g 0 _ (by rw [size_putRowK]; exact hg) (holdsK_putRowK encS 2 _ g 0 _ _ (holdsK_ahead encS 2 w n g 0 _ hH) hs)
  · show g < (grow (putRowK encS 2 (Sort.ahead w n) g 0 _) os).heap.size
    rw [size_grow, size_putRowK]; omega
  · exact below_growS (below_putRow (Below.refl _ w |>.mono (by omega)) hB) (by show B ≤ (putRowK encS 2 (Sort.ahead w n) g 0 (upS L).toArray).heap.size; rw [size_putRowK]; omega) os
theorem compact39' (g cap : Nat) (d : Array Sp) (w : World) (hH : HoldsK encS 2 w g 0 d) (hg : g < w.heap.size) (hsz : d.size ≤ 40) (hcap : d.size ≤ cap) :
    Calls Try.prog 39 #[.slice (some ⟨g, 0, none⟩) d.size cap] w fun e w' => e = .returned (.slice (some ⟨g, 0, none⟩) (compactUpTo d d.size).length cap) ∧ SRow w' (some ⟨g, 0, none⟩) (compactUpTo d d.size) ∧ g < w'.heap.size ∧ ∀ B, B ≤ g → Below B w w' := by
  refine (compact39 g 0 cap d w hH hsz hcap).mono ?_
  rintro e w' ⟨rfl, q, dk, rfl, hs, he⟩
  have hg' : g < (putRowK encS 2 (Sort.ahead w q) g 0 dk).heap.size := by rw [size_putRowK]; exact hg
  have hlen : (compactUpTo d d.size).length ≤ d.size := by
    unfold compactUpTo
    rw [List.length_map]
    exact Nat.le_trans (List.length_filter_le _ _) (by simp)
  exact ⟨rfl, srow_of_holds (holdsK_putRowK encS 2 _ g 0 _ _ (holdsK_ahead encS 2 w q g 0 _ hH) hs) hg' (by rw [hs]; exact hlen) he, hg', fun B hB => below_putRow (Below.refl _ w |>.mono (by omega)) hB⟩
theorem compact39_nil (w : World) : Calls Try.prog 39 #[.slice none 0 0] w fun e w' => e = .returned (.slice none 0 0) ∧ w' = w := by
  go_enter Try.func39, Try.ntmps39
  go_wp2
  go_ret
  exact ⟨rfl, rfl⟩
theorem sortFunc36_nil (w : World) : Calls Try.prog 36 #[.slice none 0 0, .func (.func 37) #[] #[]] w fun e w' => e = .returned (.tuple #[]) ∧ w' = w :=
  AnyF.slices_SortFunc_none Try.sortSp none 0 _ w
theorem sort24_nil (w : World) : Calls Try.prog 24 #[.slice none 0 0] w fun e w' => e = .returned (.slice none 0 0) ∧ w' = w := by
  have h35 := clone35_nil
  have h36 := sortFunc36_nil
  have h39 := compact39_nil
  go_enter Try.func24, Try.ntmps24
  go_wp2_with (first | (go_at_call 35; with_reducible refine (h35 _).mono ?_; rintro e w' ⟨rfl, rfl⟩) | (go_at_call 36; with_reducible refine (h36 _).mono ?_; rintro e w' ⟨rfl, rfl⟩) | (go_at_call 39; with_reducible refine (h39 _).mono ?_; rintro e w' ⟨rfl, rfl⟩))
  go_ret
  exact ⟨rfl, rfl⟩
theorem compact39S (g cap : Nat) (L : List Sp) (w : World) (hH : HoldsK encS 2 w g 0 (upS L).toArray) (hg : g < w.heap.size) (hn : L.length ≤ 40) (hcap : L.length ≤ cap) :
    Calls Try.prog 39 #[.slice (some ⟨g, 0, none⟩) L.length cap] w fun e w' => e = .returned (.slice (some ⟨g, 0, none⟩) (sortS L).length cap) ∧ SRow w' (some ⟨g, 0, none⟩) (sortS L) ∧ g < w'.heap.size ∧ ∀ B, B ≤ g → Below B w w' := by
  have e : (upS L).toArray.size = L.length := by simp [upS_len]
  have h := compact39' g cap (upS L).toArray w hH hg (by omega) (by omega)
  rw [show Value.slice (some ⟨g, 0, none⟩) L.length cap = .slice (some ⟨g, 0, none⟩) (upS L).toArray.size cap by rw [e]]
  exact h
theorem sortS_len (L : List Sp) : (sortS L).length ≤ L.length := by
  unfold sortS compactUpTo
  rw [List.length_map]
  exact Nat.le_trans (List.length_filter_le _ _) (by simp [upS_len])
theorem sort24_some (b off c : Nat) (L : List Sp) (w : World) (hL : SRow w (some ⟨b, off, none⟩) L) (hn : L.length ≤ 40) : Calls Try.prog 24 #[.slice (some ⟨b, off, none⟩) L.length c] w fun e w' =>
    ∃ a' c', e = .returned (.slice a' (sortS L).length c') ∧ SRow w' a' (sortS L) ∧ Below w.heap.size w w' := by
  have h35 := clone35 b off c L w hL hn
  have hlen := sortS_len L
  go_enter Try.func24, Try.ntmps24
  go_wp2_with (go_at_call 35; with_reducible refine h35.mono ?_; rintro e w1 ⟨g, cap, rfl, hg1, hg2, hcap, hH1, hB1⟩; have h36 := sortFunc36 g cap L w1 hH1 hg2 hn; clear h35)
  go_wp2_with (go_at_call 36; with_reducible refine h36.mono ?_; rintro e w2 ⟨rfl, hH2, hg3, hB2⟩; have h39 := compact39S g cap L w2 hH2 hg3 hn hcap; clear h36 hH1 hH2)
  go_wp2_with (go_at_call 39; with_reducible refine h39.mono ?_; rintro e w3 ⟨rfl, hR3, hg4, hB3⟩; have h35 := clone35 g 0 cap (sortS L) w3 hR3 (by omega); clear h39)
  go_wp2_with (go_at_call 35; with_reducible refine h35.mono ?_; rintro e w4 ⟨g5, cap5, rfl, hg5, hg6, hcap5, hH5, hB5⟩; clear h35)
  go_ret
  refine ⟨_, _, rfl, ?_, ?_⟩
  · exact srow_of_holds hH5 hg6 (by simp) (fun j hj => by rw [getElem!_pos _ j (by simpa using hj)]; simp [hj])
  · exact hB1.trans (((hB2 _ hg1).trans (hB3 _ hg1)).trans (hB5.mono (by omega)))
end Go.Proofs.Ytjecgapnlnmloaa
