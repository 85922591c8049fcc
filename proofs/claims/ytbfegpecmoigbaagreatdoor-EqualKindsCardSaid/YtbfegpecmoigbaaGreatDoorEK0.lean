/- A part of the proof: an interpreter of the program, shown right once, and the laws that it computes. -/
import Derived.Test.YtbfegpecmoigbaaGreatDoorEKr
set_option linter.constructorNameAsVariable false
namespace Go.Proofs.YtbfegpecmoigbaaGreatDoor
open Go.Eng
def t0_0 : List Nat := [48]
def p0_0 : Pack := ⟨.agg [.sl 2 0 1 1 false, .sl 3 0 1 1 false, .sl 1 0 3 3 false], [⟨[.int .i64 (.negSucc 0), .int .i64 (.ofNat 0), .int .i64 (.ofNat 0)], 3, 0, 2⟩, ⟨[.int .i64 (.ofNat 3), .str [48], .str [], .nilsl], 81, 0, 0⟩, ⟨[.int .i64 (.ofNat 0)], 3, 0, 0⟩], [58, 71, 75]⟩
def t0_1 : List Nat := [39, 48, 39]
def p0_1 : Pack := ⟨.agg [.sl 2 0 1 1 false, .sl 3 0 1 1 false, .sl 1 0 3 3 false], [⟨[.int .i64 (.negSucc 0), .int .i64 (.ofNat 0), .int .i64 (.ofNat 0)], 3, 0, 2⟩, ⟨[.int .i64 (.ofNat 5), .str [48], .str [], .nilsl], 81, 0, 0⟩, ⟨[.int .i64 (.ofNat 0)], 3, 0, 0⟩], [58, 71, 75]⟩
def t0_2 : List Nat := [33, 33, 115, 116, 114, 32, 48]
def p0_2 : Pack := ⟨.agg [.sl 2 0 1 1 false, .sl 3 0 1 1 false, .sl 1 0 3 3 false], [⟨[.int .i64 (.negSucc 0), .int .i64 (.ofNat 0), .int .i64 (.ofNat 0)], 3, 0, 2⟩, ⟨[.int .i64 (.ofNat 5), .str [48], .str [33, 33, 115, 116, 114], .nilsl], 81, 0, 0⟩, ⟨[.int .i64 (.ofNat 0)], 3, 0, 0⟩], [62, 75, 79]⟩
def t0_3 : List Nat := [33, 120, 32, 48]
def p0_3 : Pack := ⟨.agg [.sl 2 0 1 1 false, .sl 3 0 1 1 false, .sl 1 0 3 3 false], [⟨[.int .i64 (.negSucc 0), .int .i64 (.ofNat 0), .int .i64 (.ofNat 0)], 3, 0, 2⟩, ⟨[.int .i64 (.ofNat 5), .str [48], .str [33, 120], .nilsl], 81, 0, 0⟩, ⟨[.int .i64 (.ofNat 0)], 3, 0, 0⟩], [62, 75, 79]⟩
def t0_4 : List Nat := [91, 48, 93]
def p0_4 : Pack := ⟨.agg [.sl 3 0 2 2 false, .sl 4 0 1 1 false, .sl 1 0 4 4 false], [⟨[.int .i64 (.negSucc 0), .int .i64 (.ofNat 1), .int .i64 (.ofNat 1), .int .i64 (.ofNat 0)], 3, 0, 2⟩, ⟨[.int .i64 (.ofNat 0)], 3, 0, 0⟩, ⟨[.int .i64 (.ofNat 3), .str [48], .str [], .nilsl, .int .i64 (.ofNat 6), .str [], .str [], .sl 2 0 1 1 false], 81, 0, 2⟩, ⟨[.int .i64 (.ofNat 1)], 3, 0, 0⟩], [109, 129, 132, 136]⟩
def t0_5 : List Nat := [123, 48, 58, 32, 48, 125]
def p0_5 : Pack := ⟨.agg [.sl 3 0 3 3 false, .sl 4 0 1 1 false, .sl 1 0 6 6 false], [⟨[.int .i64 (.negSucc 0), .int .i64 (.ofNat 2), .int .i64 (.ofNat 2), .int .i64 (.negSucc 0), .int .i64 (.ofNat 0), .int .i64 (.ofNat 1)], 3, 0, 2⟩, ⟨[.int .i64 (.ofNat 0), .int .i64 (.ofNat 1)], 3, 0, 0⟩, ⟨[.int .i64 (.ofNat 3), .str [48], .str [], .nilsl, .int .i64 (.ofNat 3), .str [48], .str [], .nilsl, .int .i64 (.ofNat 7), .str [], .str [], .sl 2 0 2 2 false], 81, 0, 2⟩, ⟨[.int .i64 (.ofNat 2)], 3, 0, 0⟩], [191, 224, 227, 231]⟩
def t0_6 : List Nat := [48, 48]
def p0_6 : Pack := ⟨.agg [.sl 2 0 1 1 false, .sl 3 0 1 1 false, .sl 1 0 3 3 false], [⟨[.int .i64 (.negSucc 0), .int .i64 (.ofNat 0), .int .i64 (.ofNat 0)], 3, 0, 2⟩, ⟨[.int .i64 (.ofNat 3), .str [48, 48], .str [], .nilsl], 81, 0, 0⟩, ⟨[.int .i64 (.ofNat 0)], 3, 0, 0⟩], [58, 71, 75]⟩
def packs0 : List (List Nat × Pack) := [(t0_0, p0_0), (t0_1, p0_1), (t0_2, p0_2), (t0_3, p0_3), (t0_4, p0_4), (t0_5, p0_5), (t0_6, p0_6)]
theorem pk0_0 : Packed t0_0 p0_0 := by
  unfold Packed
  kernel_rfl
theorem pk0_1 : Packed t0_1 p0_1 := by
  unfold Packed
  kernel_rfl
theorem pk0_2 : Packed t0_2 p0_2 := by
  unfold Packed
  kernel_rfl
theorem pk0_3 : Packed t0_3 p0_3 := by
  unfold Packed
  kernel_rfl
theorem pk0_4 : Packed t0_4 p0_4 := by
  unfold Packed
  kernel_rfl
theorem pk0_5 : Packed t0_5 p0_5 := by
  unfold Packed
  kernel_rfl
theorem pk0_6 : Packed t0_6 p0_6 := by
  unfold Packed
  kernel_rfl
theorem packs0_ok (l : List Nat) (p : Pack) (h : (l, p) ∈ packs0) : Packed l p := by
  unfold packs0 at h
  simp only [List.mem_cons, Prod.mk.injEq, List.not_mem_nil, or_false] at h
  rcases h with ⟨rfl, rfl⟩ | ⟨rfl, rfl⟩ | ⟨rfl, rfl⟩ | ⟨rfl, rfl⟩ | ⟨rfl, rfl⟩ | ⟨rfl, rfl⟩ | ⟨rfl, rfl⟩
  · exact pk0_0
  · exact pk0_1
  · exact pk0_2
  · exact pk0_3
  · exact pk0_4
  · exact pk0_5
  · exact pk0_6
theorem main0 : isTrue ((run Tryz.prog (orX (memo (rowsK 10 0)) (memoR 5 (rowsP packs0))) 10000).f 3 [.sym 0] s₀ .ok) = true := by kernel_rfl
end Go.Proofs.YtbfegpecmoigbaaGreatDoor
