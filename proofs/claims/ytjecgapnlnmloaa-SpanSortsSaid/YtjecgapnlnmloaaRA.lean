/- A part of the proof: an interpreter of the program, shown right once, and the laws that it computes. -/
import Derived.Test.YtjecgapnlnmloaaSE
import Derived.BigQuiet
import Derived.Shelf.SlSortCmp.QuietGrown
import Derived.Laws.AppendOwnNone
namespace Go.Proofs.Ytjecgapnlnmloaa
open Go.RowKit Go.Shelf Go.Lib Go.Sort Go.SpanLaw
set_option linter.unusedVariables false
set_option maxRecDepth 100000 in
set_option maxHeartbeats 400000 in
theorem less40 (a b c d : Int) (w : World) : Calls Try.prog 40 #[sp a b, sp c d] w fun e w' => e = .returned (.bool (Go.SpanLaw.ahead (a, b) (c, d))) ∧ ∃ q os, w' = grow (w.drewN q) os := by
  by_cases h1 : a < c
  · rw [show Go.SpanLaw.ahead (a, b) (c, d) = true from by simp [Go.SpanLaw.ahead, h1]]
    go_enter Try.func40, Try.ntmps40
    go_wp2
    go_ret
    exact ⟨rfl, 0, _, by rw [alloc_eq_grow, alloc_eq_grow, grow_grow]; rfl⟩
  · by_cases h2 : a = c
    · subst h2
      by_cases h3 : b < d
      · rw [show Go.SpanLaw.ahead (a, b) (a, d) = true from by simp [Go.SpanLaw.ahead, h3]]
        go_enter Try.func40, Try.ntmps40
        go_wp2
        go_ret
        exact ⟨rfl, 0, _, by rw [alloc_eq_grow, alloc_eq_grow, grow_grow]; rfl⟩
      · rw [show Go.SpanLaw.ahead (a, b) (a, d) = false from by simp [Go.SpanLaw.ahead, h3]]
        have h3' : decide (b < d) = false := decide_eq_false h3
        go_enter Try.func40, Try.ntmps40
        go_wp2
        go_ret
        exact ⟨rfl, 0, _, by rw [alloc_eq_grow, alloc_eq_grow, grow_grow]; rfl⟩
    · rw [show Go.SpanLaw.ahead (a, b) (c, d) = false from by simp [Go.SpanLaw.ahead, h1, h2]]
      have h1' : decide (a < c) = false := decide_eq_false h1
      go_enter Try.func40, Try.ntmps40
      go_wp2
      go_ret
      exact ⟨rfl, 0, _, by rw [alloc_eq_grow, alloc_eq_grow, grow_grow]; rfl⟩
theorem ins_at : ∀ (O : List Sp) (x : Sp) (n : Nat), n ≤ O.length → (∀ j, j < n → Go.SpanLaw.ahead (O.getD j (0, 0)) x = true) → (n < O.length → ¬ Go.SpanLaw.ahead (O.getD n (0, 0)) x = true) →
    ins x O = if n < O.length ∧ O.getD n (0, 0) = x then O else O.take n ++ x :: O.drop n
  | [], x, n, hn, _, _ => by
    have : n = 0 := by simpa using hn
    subst this
    simp [ins]
  | y :: O, x, 0, _, _, h2 => by
    have h2' : ¬ Go.SpanLaw.ahead y x = true := by simpa using h2 (by simp)
    unfold ins
    rw [if_neg h2']
    by_cases e : y = x
    · subst e; simp
    · simp [e]
  | y :: O, x, n + 1, hn, h1, h2 => by
    have h0 : Go.SpanLaw.ahead y x = true := by simpa using h1 0 (by omega)
    unfold ins
    rw [if_pos h0, ins_at O x n (by simpa using hn) (fun j hj => by simpa using h1 (j + 1) (by omega)) (fun h => by simpa using h2 (by simpa using h))]
    simp only [List.length_cons, Nat.add_lt_add_iff_right, List.getD_cons_succ, List.take_succ_cons, List.drop_succ_cons, List.cons_append]
    split <;> rfl
/-- What the document's way has, of the first k. -/
def outS (L : List Sp) (k : Nat) : List Sp := (L.take k).foldl (fun out x => ins x out) []
theorem outS_succ (L : List Sp) (k : Nat) (hk : k < L.length) : outS L (k + 1) = ins (L.getD k (0, 0)) (outS L k) := by
  unfold outS
  rw [List.take_succ_eq_append_getElem hk, List.foldl_append, getD_lt hk]
  rfl
theorem outS_all (L : List Sp) : outS L L.length = sorts L := by unfold outS sorts; rw [List.take_length]
theorem ins_length (x : Sp) : ∀ O : List Sp, (ins x O).length ≤ O.length + 1
  | [] => by simp [ins]
  | y :: O => by
    unfold ins
    split
    · have := ins_length x O; simp; omega
    · split <;> simp
theorem outS_length (L : List Sp) : ∀ k, k ≤ L.length → (outS L k).length ≤ k
  | 0, _ => by simp [outS]
  | k + 1, h => by
    rw [outS_succ L k (by omega)]
    have := ins_length (L.getD k (0, 0)) (outS L k)
    have := outS_length L k (by omega)
    omega
end Go.Proofs.Ytjecgapnlnmloaa
