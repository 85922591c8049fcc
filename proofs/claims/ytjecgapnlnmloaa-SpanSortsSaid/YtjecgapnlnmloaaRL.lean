/- A part of the proof: an interpreter of the program, shown right once, and the laws that it computes. -/
import Derived.Test.YtjecgapnlnmloaaRA
import Derived.Test.YtjecgapnlnmloaaSF2
import Derived.Deep.Onto
namespace Go.Proofs.Ytjecgapnlnmloaa
open Go.RowKit Go.Shelf Go.Lib Go.Sort Go.SpanLaw
set_option linter.unusedVariables false
theorem fl_sing (p : Sp) : fl [p] = encS p := by
  rw [show [p] = [] ++ [p] from rfl, fl_append]
  simp [fl, flatK]
theorem fl_two (A : List Sp) : ∀ B : List Sp, fl (A ++ B) = fl A ++ fl B := by
  intro B
  induction B generalizing A with
  | nil => simp [fl, flatK]
  | cons b B ih =>
    rw [show A ++ b :: B = (A ++ [b]) ++ B by simp, ih, fl_append, show b :: B = [b] ++ B from rfl, ih [b], fl_sing, List.append_assoc]
theorem fl_take (O : List Sp) (m : Nat) (hm : m ≤ O.length) : fl (O.take m) = (fl O).take (m * 2) := by
  have h := fl_two (O.take m) (O.drop m)
  rw [List.take_append_drop] at h
  rw [h, List.take_left' (by rw [fl_length, List.length_take]; omega)]
theorem fl_drop (O : List Sp) (m : Nat) (hm : m ≤ O.length) : fl (O.drop m) = (fl O).drop (m * 2) := by
  have h := fl_two (O.take m) (O.drop m)
  rw [List.take_append_drop] at h
  rw [h, List.drop_left' (by rw [fl_length, List.length_take]; omega)]
theorem add_none (b o j : Nat) : (⟨b, o, none⟩ : Addr).add j = ⟨b, o + j, none⟩ := by
  by_cases h0 : j = 0
  · subst h0; rfl
  · simp [Addr.add, h0]
theorem take_news {W : World} {g m : Nat} {O : List Sp} (h : SRow W (some ⟨g, 0, none⟩) O) (j : Nat) (u : Value) (hu : ((fl O).take (m * 2))[j]? = some u) : W.cell? ((⟨g, 0, none⟩ : Addr).add j) = some u := by
  rw [add_none]
  refine fl_at h j u ?_
  rw [List.getElem?_take] at hu
  split at hu
  · exact hu
  · cases hu
theorem drop_news {W : World} {g m : Nat} {O : List Sp} (h : SRow W (some ⟨g, 0, none⟩) O) (j : Nat) (u : Value) (hu : ((fl O).drop (m * 2))[j]? = some u) : W.cell? ((⟨g, m * 2, none⟩ : Addr).add j) = some u := by
  rw [add_none, show m * 2 + j = 0 + (m * 2 + j) by omega]
  refine fl_at h _ u ?_
  rw [List.getElem?_drop] at hu
  exact hu
theorem fl_put (O : List Sp) (x : Sp) (m : Nat) (hm : m ≤ O.length) : ((([] : List Value) ++ (fl O).take (m * 2)) ++ [.int .i64 x.1, .int .i64 x.2]) ++ (fl O).drop (m * 2) = fl (O.take m ++ x :: O.drop m) := by
  rw [fl_two, show x :: O.drop m = [x] ++ O.drop m from rfl, fl_two [x], fl_sing, fl_take O m hm, fl_drop O m hm]
  simp [encS]
theorem fl_put' (O : List Sp) (x1 x2 : Int) (m : Nat) (hm : m ≤ O.length) : fl (O.take m ++ (x1, x2) :: O.drop m) = (fl O).take (m * 2) ++ Value.int .i64 x1 :: Value.int .i64 x2 :: (fl O).drop (m * 2) := by
  rw [← fl_put O (x1, x2) m hm]
  simp
theorem take_one (O : List Sp) (m : Nat) : ∀ u ∈ (fl O).take (m * 2), u.oneCell' = true := fun u hu => fl_one O u (List.mem_of_mem_take hu)
theorem drop_one (O : List Sp) (m : Nat) : ∀ u ∈ (fl O).drop (m * 2), u.oneCell' = true := fun u hu => fl_one O u (List.mem_of_mem_drop hu)
theorem own_empty (W : World) (B : Nat) (hB : B ≤ W.heap.size) : (W.alloc (.cells #[] 23)).ownsRow B 23 2 (.slice (some ⟨W.heap.size, 0, none⟩) 0 0) 0 [] :=
  World.ownsRow_made W #[] 0 hB (by decide) rfl
theorem holds_of_own' {w : World} {base g n cap : Nat} {L : List Sp} (hLn : L.length = n) (h : w.ownsRow base 23 2 (.slice (some ⟨g, 0, none⟩) n cap) n (fl L)) : HoldsK encS 2 w g 0 L.toArray := by
  subst hLn
  intro j hj
  have hj' : j < L.length * 2 := by simpa using hj
  rw [Nat.zero_add]
  exact ⟨by rw [h.cellAt j hj', fl_get hj']; rfl, h.frozenAt j⟩
theorem own_below {w W : World} {B n : Nat} {v : Value} {xs : List Value} (h : w.ownsRow B 23 2 v n xs) (hB : Below w.heap.size w W) : W.ownsRow B 23 2 v n xs := by
  refine ⟨h.1, ?_⟩
  rcases h.2 with h | ⟨g, cap, cur, hv, h1, h2, h3, h4, h5, h6⟩
  · exact .inl h
  · exact .inr ⟨g, cap, cur, hv, h1, (hB.block g (Array.getElem?_eq_some_iff.1 h2).1).trans h2, h3, h4, h5, h6⟩
end Go.Proofs.Ytjecgapnlnmloaa
