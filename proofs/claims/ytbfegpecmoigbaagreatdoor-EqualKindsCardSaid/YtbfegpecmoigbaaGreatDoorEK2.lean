/- A part of the proof: an interpreter of the program, shown right once, and the laws that it computes. -/
import Derived.Test.YtbfegpecmoigbaaGreatDoorEKr
set_option linter.constructorNameAsVariable false
namespace Go.Proofs.YtbfegpecmoigbaaGreatDoor
open Go.Eng
def t2_0 : List Nat := [50]
def p2_0 : Pack := ⟨.agg [.sl 2 0 1 1 false, .sl 3 0 1 1 false, .sl 1 0 3 3 false], [⟨[.int .i64 (.negSucc 0), .int .i64 (.ofNat 0), .int .i64 (.ofNat 0)], 3, 0, 2⟩, ⟨[.int .i64 (.ofNat 3), .str [50], .str [], .nilsl], 81, 0, 0⟩, ⟨[.int .i64 (.ofNat 0)], 3, 0, 0⟩], [58, 71, 75]⟩
def t2_1 : List Nat := [39, 50, 39]
def p2_1 : Pack := ⟨.agg [.sl 2 0 1 1 false, .sl 3 0 1 1 false, .sl 1 0 3 3 false], [⟨[.int .i64 (.negSucc 0), .int .i64 (.ofNat 0), .int .i64 (.ofNat 0)], 3, 0, 2⟩, ⟨[.int .i64 (.ofNat 5), .str [50], .str [], .nilsl], 81, 0, 0⟩, ⟨[.int .i64 (.ofNat 0)], 3, 0, 0⟩], [58, 71, 75]⟩
def t2_2 : List Nat := [33, 33, 115, 116, 114, 32, 50]
def p2_2 : Pack := ⟨.agg [.sl 2 0 1 1 false, .sl 3 0 1 1 false, .sl 1 0 3 3 false], [⟨[.int .i64 (.negSucc 0), .int .i64 (.ofNat 0), .int .i64 (.ofNat 0)], 3, 0, 2⟩, ⟨[.int .i64 (.ofNat 5), .str [50], .str [33, 33, 115, 116, 114], .nilsl], 81, 0, 0⟩, ⟨[.int .i64 (.ofNat 0)], 3, 0, 0⟩], [62, 75, 79]⟩
def t2_3 : List Nat := [33, 120, 32, 50]
def p2_3 : Pack := ⟨.agg [.sl 2 0 1 1 false, .sl 3 0 1 1 false, .sl 1 0 3 3 false], [⟨[.int .i64 (.negSucc 0), .int .i64 (.ofNat 0), .int .i64 (.ofNat 0)], 3, 0, 2⟩, ⟨[.int .i64 (.ofNat 5), .str [50], .str [33, 120], .nilsl], 81, 0, 0⟩, ⟨[.int .i64 (.ofNat 0)], 3, 0, 0⟩], [62, 75, 79]⟩
def t2_4 : List Nat := [91, 50, 93]
def p2_4 : Pack := ⟨.agg [.sl 3 0 2 2 false, .sl 4 0 1 1 false, .sl 1 0 4 4 false], [⟨[.int .i64 (.negSucc 0), .int .i64 (.ofNat 1), .int .i64 (.ofNat 1), .int .i64 (.ofNat 0)], 3, 0, 2⟩, ⟨[.int .i64 (.ofNat 0)], 3, 0, 0⟩, ⟨[.int .i64 (.ofNat 3), .str [50], .str [], .nilsl, .int .i64 (.ofNat 6), .str [], .str [], .sl 2 0 1 1 false], 81, 0, 2⟩, ⟨[.int .i64 (.ofNat 1)], 3, 0, 0⟩], [109, 129, 132, 136]⟩
def t2_5 : List Nat := [123, 50, 58, 32, 50, 125]
def p2_5 : Pack := ⟨.agg [.sl 3 0 3 3 false, .sl 4 0 1 1 false, .sl 1 0 6 6 false], [⟨[.int .i64 (.negSucc 0), .int .i64 (.ofNat 2), .int .i64 (.ofNat 2), .int .i64 (.negSucc 0), .int .i64 (.ofNat 0), .int .i64 (.ofNat 1)], 3, 0, 2⟩, ⟨[.int .i64 (.ofNat 0), .int .i64 (.ofNat 1)], 3, 0, 0⟩, ⟨[.int .i64 (.ofNat 3), .str [50], .str [], .nilsl, .int .i64 (.ofNat 3), .str [50], .str [], .nilsl, .int .i64 (.ofNat 7), .str [], .str [], .sl 2 0 2 2 false], 81, 0, 2⟩, ⟨[.int .i64 (.ofNat 2)], 3, 0, 0⟩], [191, 224, 227, 231]⟩
def t2_6 : List Nat := [50, 48]
def p2_6 : Pack := ⟨.agg [.sl 2 0 1 1 false, .sl 3 0 1 1 false, .sl 1 0 3 3 false], [⟨[.int .i64 (.negSucc 0), .int .i64 (.ofNat 0), .int .i64 (.ofNat 0)], 3, 0, 2⟩, ⟨[.int .i64 (.ofNat 3), .str [50, 48], .str [], .nilsl], 81, 0, 0⟩, ⟨[.int .i64 (.ofNat 0)], 3, 0, 0⟩], [58, 71, 75]⟩
def packs2 : List (List Nat × Pack) := [(t2_0, p2_0), (t2_1, p2_1), (t2_2, p2_2), (t2_3, p2_3), (t2_4, p2_4), (t2_5, p2_5), (t2_6, p2_6)]
theorem pk2_0 : Packed t2_0 p2_0 := by
  unfold Packed
  kernel_rfl
theorem pk2_1 : Packed t2_1 p2_1 := by
  unfold Packed
  kernel_rfl
theorem pk2_2 : Packed t2_2 p2_2 := by
  unfold Packed
  kernel_rfl
theorem pk2_3 : Packed t2_3 p2_3 := by
  unfold Packed
  kernel_rfl
theorem pk2_4 : Packed t2_4 p2_4 := by
  unfold Packed
  kernel_rfl
theorem pk2_5 : Packed t2_5 p2_5 := by
  unfold Packed
  kernel_rfl
theorem pk2_6 : Packed t2_6 p2_6 := by
  unfold Packed
  kernel_rfl
theorem packs2_ok (l : List Nat) (p : Pack) (h : (l, p) ∈ packs2) : Packed l p := by
  unfold packs2 at h
  simp only [List.mem_cons, Prod.mk.injEq, List.not_mem_nil, or_false] at h
  rcases h with ⟨rfl, rfl⟩ | ⟨rfl, rfl⟩ | ⟨rfl, rfl⟩ | ⟨rfl, rfl⟩ | ⟨rfl, rfl⟩ | ⟨rfl, rfl⟩ | ⟨rfl, rfl⟩
  · exact pk2_0
  · exact pk2_1
  · exact pk2_2
  · exact pk2_3
  · exact pk2_4
  · exact pk2_5
  · exact pk2_6
theorem main2 : isTrue ((run Tryz.prog (orX (memo (rowsK 10 2)) (memoR 5 (rowsP packs2))) 10000).f 3 [.sym 0] s₀ .ok) = true := by kernel_rfl
end Go.Proofs.YtbfegpecmoigbaaGreatDoor
