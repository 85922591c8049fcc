/- A part of the proof: an interpreter of the program, shown right once, and the laws that it computes. -/
import Derived.Test.YtbfegpecmoigbaaGreatDoorEKr
set_option linter.constructorNameAsVariable false
namespace Go.Proofs.YtbfegpecmoigbaaGreatDoor
open Go.Eng
def t9_0 : List Nat := [57]
def p9_0 : Pack := ⟨.agg [.sl 2 0 1 1 false, .sl 3 0 1 1 false, .sl 1 0 3 3 false], [⟨[.int .i64 (.negSucc 0), .int .i64 (.ofNat 0), .int .i64 (.ofNat 0)], 3, 0, 2⟩, ⟨[.int .i64 (.ofNat 3), .str [57], .str [], .nilsl], 81, 0, 0⟩, ⟨[.int .i64 (.ofNat 0)], 3, 0, 0⟩], [58, 71, 75]⟩
def t9_1 : List Nat := [39, 57, 39]
def p9_1 : Pack := ⟨.agg [.sl 2 0 1 1 false, .sl 3 0 1 1 false, .sl 1 0 3 3 false], [⟨[.int .i64 (.negSucc 0), .int .i64 (.ofNat 0), .int .i64 (.ofNat 0)], 3, 0, 2⟩, ⟨[.int .i64 (.ofNat 5), .str [57], .str [], .nilsl], 81, 0, 0⟩, ⟨[.int .i64 (.ofNat 0)], 3, 0, 0⟩], [58, 71, 75]⟩
def t9_2 : List Nat := [33, 33, 115, 116, 114, 32, 57]
def p9_2 : Pack := ⟨.agg [.sl 2 0 1 1 false, .sl 3 0 1 1 false, .sl 1 0 3 3 false], [⟨[.int .i64 (.negSucc 0), .int .i64 (.ofNat 0), .int .i64 (.ofNat 0)], 3, 0, 2⟩, ⟨[.int .i64 (.ofNat 5), .str [57], .str [33, 33, 115, 116, 114], .nilsl], 81, 0, 0⟩, ⟨[.int .i64 (.ofNat 0)], 3, 0, 0⟩], [62, 75, 79]⟩
def t9_3 : List Nat := [33, 120, 32, 57]
def p9_3 : Pack := ⟨.agg [.sl 2 0 1 1 false, .sl 3 0 1 1 false, .sl 1 0 3 3 false], [⟨[.int .i64 (.negSucc 0), .int .i64 (.ofNat 0), .int .i64 (.ofNat 0)], 3, 0, 2⟩, ⟨[.int .i64 (.ofNat 5), .str [57], .str [33, 120], .nilsl], 81, 0, 0⟩, ⟨[.int .i64 (.ofNat 0)], 3, 0, 0⟩], [62, 75, 79]⟩
def t9_4 : List Nat := [91, 57, 93]
def p9_4 : Pack := ⟨.agg [.sl 3 0 2 2 false, .sl 4 0 1 1 false, .sl 1 0 4 4 false], [⟨[.int .i64 (.negSucc 0), .int .i64 (.ofNat 1), .int .i64 (.ofNat 1), .int .i64 (.ofNat 0)], 3, 0, 2⟩, ⟨[.int .i64 (.ofNat 0)], 3, 0, 0⟩, ⟨[.int .i64 (.ofNat 3), .str [57], .str [], .nilsl, .int .i64 (.ofNat 6), .str [], .str [], .sl 2 0 1 1 false], 81, 0, 2⟩, ⟨[.int .i64 (.ofNat 1)], 3, 0, 0⟩], [109, 129, 132, 136]⟩
def t9_5 : List Nat := [123, 57, 58, 32, 57, 125]
def p9_5 : Pack := ⟨.agg [.sl 3 0 3 3 false, .sl 4 0 1 1 false, .sl 1 0 6 6 false], [⟨[.int .i64 (.negSucc 0), .int .i64 (.ofNat 2), .int .i64 (.ofNat 2), .int .i64 (.negSucc 0), .int .i64 (.ofNat 0), .int .i64 (.ofNat 1)], 3, 0, 2⟩, ⟨[.int .i64 (.ofNat 0), .int .i64 (.ofNat 1)], 3, 0, 0⟩, ⟨[.int .i64 (.ofNat 3), .str [57], .str [], .nilsl, .int .i64 (.ofNat 3), .str [57], .str [], .nilsl, .int .i64 (.ofNat 7), .str [], .str [], .sl 2 0 2 2 false], 81, 0, 2⟩, ⟨[.int .i64 (.ofNat 2)], 3, 0, 0⟩], [191, 224, 227, 231]⟩
def t9_6 : List Nat := [57, 48]
def p9_6 : Pack := ⟨.agg [.sl 2 0 1 1 false, .sl 3 0 1 1 false, .sl 1 0 3 3 false], [⟨[.int .i64 (.negSucc 0), .int .i64 (.ofNat 0), .int .i64 (.ofNat 0)], 3, 0, 2⟩, ⟨[.int .i64 (.ofNat 3), .str [57, 48], .str [], .nilsl], 81, 0, 0⟩, ⟨[.int .i64 (.ofNat 0)], 3, 0, 0⟩], [58, 71, 75]⟩
def packs9 : List (List Nat × Pack) := [(t9_0, p9_0), (t9_1, p9_1), (t9_2, p9_2), (t9_3, p9_3), (t9_4, p9_4), (t9_5, p9_5), (t9_6, p9_6)]
theorem pk9_0 : Packed t9_0 p9_0 := by
  unfold Packed
  kernel_rfl
theorem pk9_1 : Packed t9_1 p9_1 := by
  unfold Packed
  kernel_rfl
theorem pk9_2 : Packed t9_2 p9_2 := by
  unfold Packed
  kernel_rfl
theorem pk9_3 : Packed t9_3 p9_3 := by
  unfold Packed
  kernel_rfl
theorem pk9_4 : Packed t9_4 p9_4 := by
  unfold Packed
  kernel_rfl
theorem pk9_5 : Packed t9_5 p9_5 := by
  unfold Packed
  kernel_rfl
theorem pk9_6 : Packed t9_6 p9_6 := by
  unfold Packed
  kernel_rfl
theorem packs9_ok (l : List Nat) (p : Pack) (h : (l, p) ∈ packs9) : Packed l p := by
  unfold packs9 at h
  simp only [List.mem_cons, Prod.mk.injEq, List.not_mem_nil, or_false] at h
  rcases h with ⟨rfl, rfl⟩ | ⟨rfl, rfl⟩ | ⟨rfl, rfl⟩ | ⟨rfl, rfl⟩ | ⟨rfl, rfl⟩ | ⟨rfl, rfl⟩ | ⟨rfl, rfl⟩
  · exact pk9_0
  · exact pk9_1
  · exact pk9_2
  · exact pk9_3
  · exact pk9_4
  · exact pk9_5
  · exact pk9_6
theorem main9 : isTrue ((run Tryz.prog (orX (memo (rowsK 10 9)) (memoR 5 (rowsP packs9))) 10000).f 3 [.sym 0] s₀ .ok) = true := by kernel_rfl
end Go.Proofs.YtbfegpecmoigbaaGreatDoor
