/- A part of the proof: an interpreter of the program, shown right once, and the laws that it computes. -/
import Derived.Test.YtbfegpecmoigbaaGreatDoorEKr
set_option linter.constructorNameAsVariable false
namespace Go.Proofs.YtbfegpecmoigbaaGreatDoor
open Go.Eng
def t3_0 : List Nat := [51]
def p3_0 : Pack := ⟨.agg [.sl 2 0 1 1 false, .sl 3 0 1 1 false, .sl 1 0 3 3 false], [⟨[.int .i64 (.negSucc 0), .int .i64 (.ofNat 0), .int .i64 (.ofNat 0)], 3, 0, 2⟩, ⟨[.int .i64 (.ofNat 3), .str [51], .str [], .nilsl], 81, 0, 0⟩, ⟨[.int .i64 (.ofNat 0)], 3, 0, 0⟩], [58, 71, 75]⟩
def t3_1 : List Nat := [39, 51, 39]
def p3_1 : Pack := ⟨.agg [.sl 2 0 1 1 false, .sl 3 0 1 1 false, .sl 1 0 3 3 false], [⟨[.int .i64 (.negSucc 0), .int .i64 (.ofNat 0), .int .i64 (.ofNat 0)], 3, 0, 2⟩, ⟨[.int .i64 (.ofNat 5), .str [51], .str [], .nilsl], 81, 0, 0⟩, ⟨[.int .i64 (.ofNat 0)], 3, 0, 0⟩], [58, 71, 75]⟩
def t3_2 : List Nat := [33, 33, 115, 116, 114, 32, 51]
def p3_2 : Pack := ⟨.agg [.sl 2 0 1 1 false, .sl 3 0 1 1 false, .sl 1 0 3 3 false], [⟨[.int .i64 (.negSucc 0), .int .i64 (.ofNat 0), .int .i64 (.ofNat 0)], 3, 0, 2⟩, ⟨[.int .i64 (.ofNat 5), .str [51], .str [33, 33, 115, 116, 114], .nilsl], 81, 0, 0⟩, ⟨[.int .i64 (.ofNat 0)], 3, 0, 0⟩], [62, 75, 79]⟩
def t3_3 : List Nat := [33, 120, 32, 51]
def p3_3 : Pack := ⟨.agg [.sl 2 0 1 1 false, .sl 3 0 1 1 false, .sl 1 0 3 3 false], [⟨[.int .i64 (.negSucc 0), .int .i64 (.ofNat 0), .int .i64 (.ofNat 0)], 3, 0, 2⟩, ⟨[.int .i64 (.ofNat 5), .str [51], .str [33, 120], .nilsl], 81, 0, 0⟩, ⟨[.int .i64 (.ofNat 0)], 3, 0, 0⟩], [62, 75, 79]⟩
def t3_4 : List Nat := [91, 51, 93]
def p3_4 : Pack := ⟨.agg [.sl 3 0 2 2 false, .sl 4 0 1 1 false, .sl 1 0 4 4 false], [⟨[.int .i64 (.negSucc 0), .int .i64 (.ofNat 1), .int .i64 (.ofNat 1), .int .i64 (.ofNat 0)], 3, 0, 2⟩, ⟨[.int .i64 (.ofNat 0)], 3, 0, 0⟩, ⟨[.int .i64 (.ofNat 3), .str [51], .str [], .nilsl, .int .i64 (.ofNat 6), .str [], .str [], .sl 2 0 1 1 false], 81, 0, 2⟩, ⟨[.int .i64 (.ofNat 1)], 3, 0, 0⟩], [109, 129, 132, 136]⟩
def t3_5 : List Nat := [123, 51, 58, 32, 51, 125]
def p3_5 : Pack := ⟨.agg [.sl 3 0 3 3 false, .sl 4 0 1 1 false, .sl 1 0 6 6 false], [⟨[.int .i64 (.negSucc 0), .int .i64 (.ofNat 2), .int .i64 (.ofNat 2), .int .i64 (.negSucc 0), .int .i64 (.ofNat 0), .int .i64 (.ofNat 1)], 3, 0, 2⟩, ⟨[.int .i64 (.ofNat 0), .int .i64 (.ofNat 1)], 3, 0, 0⟩, ⟨[.int .i64 (.ofNat 3), .str [51], .str [], .nilsl, .int .i64 (.ofNat 3), .str [51], .str [], .nilsl, .int .i64 (.ofNat 7), .str [], .str [], .sl 2 0 2 2 false], 81, 0, 2⟩, ⟨[.int .i64 (.ofNat 2)], 3, 0, 0⟩], [191, 224, 227, 231]⟩
def t3_6 : List Nat := [51, 48]
def p3_6 : Pack := ⟨.agg [.sl 2 0 1 1 false, .sl 3 0 1 1 false, .sl 1 0 3 3 false], [⟨[.int .i64 (.negSucc 0), .int .i64 (.ofNat 0), .int .i64 (.ofNat 0)], 3, 0, 2⟩, ⟨[.int .i64 (.ofNat 3), .str [51, 48], .str [], .nilsl], 81, 0, 0⟩, ⟨[.int .i64 (.ofNat 0)], 3, 0, 0⟩], [58, 71, 75]⟩
def packs3 : List (List Nat × Pack) := [(t3_0, p3_0), (t3_1, p3_1), (t3_2, p3_2), (t3_3, p3_3), (t3_4, p3_4), (t3_5, p3_5), (t3_6, p3_6)]
theorem pk3_0 : Packed t3_0 p3_0 := by
  unfold Packed
  kernel_rfl
theorem pk3_1 : Packed t3_1 p3_1 := by
  unfold Packed
  kernel_rfl
theorem pk3_2 : Packed t3_2 p3_2 := by
  unfold Packed
  kernel_rfl
theorem pk3_3 : Packed t3_3 p3_3 := by
  unfold Packed
  kernel_rfl
theorem pk3_4 : Packed t3_4 p3_4 := by
  unfold Packed
  kernel_rfl
theorem pk3_5 : Packed t3_5 p3_5 := by
  unfold Packed
  kernel_rfl
theorem pk3_6 : Packed t3_6 p3_6 := by
  unfold Packed
  kernel_rfl
theorem packs3_ok (l : List Nat) (p : Pack) (h : (l, p) ∈ packs3) : Packed l p := by
  unfold packs3 at h
  simp only [List.mem_cons, Prod.mk.injEq, List.not_mem_nil, or_false] at h
  rcases h with ⟨rfl, rfl⟩ | ⟨rfl, rfl⟩ | ⟨rfl, rfl⟩ | ⟨rfl, rfl⟩ | ⟨rfl, rfl⟩ | ⟨rfl, rfl⟩ | ⟨rfl, rfl⟩
  · exact pk3_0
  · exact pk3_1
  · exact pk3_2
  · exact pk3_3
  · exact pk3_4
  · exact pk3_5
  · exact pk3_6
theorem main3 : isTrue ((run Tryz.prog (orX (memo (rowsK 10 3)) (memoR 5 (rowsP packs3))) 10000).f 3 [.sym 0] s₀ .ok) = true := by kernel_rfl
end Go.Proofs.YtbfegpecmoigbaaGreatDoor
