/- A part of the proof: an interpreter of the program, shown right once, and the laws that it computes. -/
import Derived.Test.YtbfegpecmoigbaaGreatDoorEKr
set_option linter.constructorNameAsVariable false
namespace Go.Proofs.YtbfegpecmoigbaaGreatDoor
open Go.Eng
def t1_0 : List Nat := [49]
def p1_0 : Pack := ⟨.agg [.sl 2 0 1 1 false, .sl 3 0 1 1 false, .sl 1 0 3 3 false], [⟨[.int .i64 (.negSucc 0), .int .i64 (.ofNat 0), .int .i64 (.ofNat 0)], 3, 0, 2⟩, ⟨[.int .i64 (.ofNat 3), .str [49], .str [], .nilsl], 81, 0, 0⟩, ⟨[.int .i64 (.ofNat 0)], 3, 0, 0⟩], [58, 71, 75]⟩
def t1_1 : List Nat := [39, 49, 39]
def p1_1 : Pack := ⟨.agg [.sl 2 0 1 1 false, .sl 3 0 1 1 false, .sl 1 0 3 3 false], [⟨[.int .i64 (.negSucc 0), .int .i64 (.ofNat 0), .int .i64 (.ofNat 0)], 3, 0, 2⟩, ⟨[.int .i64 (.ofNat 5), .str [49], .str [], .nilsl], 81, 0, 0⟩, ⟨[.int .i64 (.ofNat 0)], 3, 0, 0⟩], [58, 71, 75]⟩
def t1_2 : List Nat := [33, 33, 115, 116, 114, 32, 49]
def p1_2 : Pack := ⟨.agg [.sl 2 0 1 1 false, .sl 3 0 1 1 false, .sl 1 0 3 3 false], [⟨[.int .i64 (.negSucc 0), .int .i64 (.ofNat 0), .int .i64 (.ofNat 0)], 3, 0, 2⟩, ⟨[.int .i64 (.ofNat 5), .str [49], .str [33, 33, 115, 116, 114], .nilsl], 81, 0, 0⟩, ⟨[.int .i64 (.ofNat 0)], 3, 0, 0⟩], [62, 75, 79]⟩
def t1_3 : List Nat := [33, 120, 32, 49]
def p1_3 : Pack := ⟨.agg [.sl 2 0 1 1 false, .sl 3 0 1 1 false, .sl 1 0 3 3 false], [⟨[.int .i64 (.negSucc 0), .int .i64 (.ofNat 0), .int .i64 (.ofNat 0)], 3, 0, 2⟩, ⟨[.int .i64 (.ofNat 5), .str [49], .str [33, 120], .nilsl], 81, 0, 0⟩, ⟨[.int .i64 (.ofNat 0)], 3, 0, 0⟩], [62, 75, 79]⟩
def t1_4 : List Nat := [91, 49, 93]
def p1_4 : Pack := ⟨.agg [.sl 3 0 2 2 false, .sl 4 0 1 1 false, .sl 1 0 4 4 false], [⟨[.int .i64 (.negSucc 0), .int .i64 (.ofNat 1), .int .i64 (.ofNat 1), .int .i64 (.ofNat 0)], 3, 0, 2⟩, ⟨[.int .i64 (.ofNat 0)], 3, 0, 0⟩, ⟨[.int .i64 (.ofNat 3), .str [49], .str [], .nilsl, .int .i64 (.ofNat 6), .str [], .str [], .sl 2 0 1 1 false], 81, 0, 2⟩, ⟨[.int .i64 (.ofNat 1)], 3, 0, 0⟩], [109, 129, 132, 136]⟩
def t1_5 : List Nat := [123, 49, 58, 32, 49, 125]
def p1_5 : Pack := ⟨.agg [.sl 3 0 3 3 false, .sl 4 0 1 1 false, .sl 1 0 6 6 false], [⟨[.int .i64 (.negSucc 0), .int .i64 (.ofNat 2), .int .i64 (.ofNat 2), .int .i64 (.negSucc 0), .int .i64 (.ofNat 0), .int .i64 (.ofNat 1)], 3, 0, 2⟩, ⟨[.int .i64 (.ofNat 0), .int .i64 (.ofNat 1)], 3, 0, 0⟩, ⟨[.int .i64 (.ofNat 3), .str [49], .str [], .nilsl, .int .i64 (.ofNat 3), .str [49], .str [], .nilsl, .int .i64 (.ofNat 7), .str [], .str [], .sl 2 0 2 2 false], 81, 0, 2⟩, ⟨[.int .i64 (.ofNat 2)], 3, 0, 0⟩], [191, 224, 227, 231]⟩
def t1_6 : List Nat := [49, 48]
def p1_6 : Pack := ⟨.agg [.sl 2 0 1 1 false, .sl 3 0 1 1 false, .sl 1 0 3 3 false], [⟨[.int .i64 (.negSucc 0), .int .i64 (.ofNat 0), .int .i64 (.ofNat 0)], 3, 0, 2⟩, ⟨[.int .i64 (.ofNat 3), .str [49, 48], .str [], .nilsl], 81, 0, 0⟩, ⟨[.int .i64 (.ofNat 0)], 3, 0, 0⟩], [58, 71, 75]⟩
def packs1 : List (List Nat × Pack) := [(t1_0, p1_0), (t1_1, p1_1), (t1_2, p1_2), (t1_3, p1_3), (t1_4, p1_4), (t1_5, p1_5), (t1_6, p1_6)]
theorem pk1_0 : Packed t1_0 p1_0 := by
  unfold Packed
  kernel_rfl
theorem pk1_1 : Packed t1_1 p1_1 := by
  unfold Packed
  kernel_rfl
theorem pk1_2 : Packed t1_2 p1_2 := by
  unfold Packed
  kernel_rfl
theorem pk1_3 : Packed t1_3 p1_3 := by
  unfold Packed
  kernel_rfl
theorem pk1_4 : Packed t1_4 p1_4 := by
  unfold Packed
  kernel_rfl
theorem pk1_5 : Packed t1_5 p1_5 := by
  unfold Packed
  kernel_rfl
theorem pk1_6 : Packed t1_6 p1_6 := by
  unfold Packed
  kernel_rfl
theorem packs1_ok (l : List Nat) (p : Pack) (h : (l, p) ∈ packs1) : Packed l p := by
  unfold packs1 at h
  simp only [List.mem_cons, Prod.mk.injEq, List.not_mem_nil, or_false] at h
  rcases h with ⟨rfl, rfl⟩ | ⟨rfl, rfl⟩ | ⟨rfl, rfl⟩ | ⟨rfl, rfl⟩ | ⟨rfl, rfl⟩ | ⟨rfl, rfl⟩ | ⟨rfl, rfl⟩
  · exact pk1_0
  · exact pk1_1
  · exact pk1_2
  · exact pk1_3
  · exact pk1_4
  · exact pk1_5
  · exact pk1_6
theorem main1 : isTrue ((run Tryz.prog (orX (memo (rowsK 10 1)) (memoR 5 (rowsP packs1))) 10000).f 3 [.sym 0] s₀ .ok) = true := by kernel_rfl
end Go.Proofs.YtbfegpecmoigbaaGreatDoor
