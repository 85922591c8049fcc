/- A part of the proof: an interpreter of the program, shown right once, and the laws that it computes. -/
import Derived.Test.YtallkpebijgghaaDoorCK2
namespace Go.Proofs.YtallkpebijgghaaDoor
open Go.Eng
theorem chk_1_2_false : isTrue ((run Tryd.prog (memo (rowsQ 1 2)) 10000).f 3 [cfgI, .sym 0, .bool false] s₀ .ok) = true := by kernel_rfl
theorem chk_1_2_true : isTrue ((run Tryd.prog (memo (rowsQ 1 2)) 10000).f 3 [cfgI, .sym 0, .bool true] s₀ .ok) = true := by kernel_rfl
theorem chk_1_3_false : isTrue ((run Tryd.prog (memo (rowsQ 1 3)) 10000).f 3 [cfgI, .sym 0, .bool false] s₀ .ok) = true := by kernel_rfl
theorem chk_1_3_true : isTrue ((run Tryd.prog (memo (rowsQ 1 3)) 10000).f 3 [cfgI, .sym 0, .bool true] s₀ .ok) = true := by kernel_rfl
theorem chk_1_4_false : isTrue ((run Tryd.prog (memo (rowsQ 1 4)) 10000).f 3 [cfgI, .sym 0, .bool false] s₀ .ok) = true := by kernel_rfl
theorem chk_1_4_true : isTrue ((run Tryd.prog (memo (rowsQ 1 4)) 10000).f 3 [cfgI, .sym 0, .bool true] s₀ .ok) = true := by kernel_rfl
theorem chk_1_5_false : isTrue ((run Tryd.prog (memo (rowsQ 1 5)) 10000).f 3 [cfgI, .sym 0, .bool false] s₀ .ok) = true := by kernel_rfl
theorem chk_1_5_true : isTrue ((run Tryd.prog (memo (rowsQ 1 5)) 10000).f 3 [cfgI, .sym 0, .bool true] s₀ .ok) = true := by kernel_rfl
theorem chk_1_6_false : isTrue ((run Tryd.prog (memo (rowsQ 1 6)) 10000).f 3 [cfgI, .sym 0, .bool false] s₀ .ok) = true := by kernel_rfl
theorem chk_1_6_true : isTrue ((run Tryd.prog (memo (rowsQ 1 6)) 10000).f 3 [cfgI, .sym 0, .bool true] s₀ .ok) = true := by kernel_rfl
theorem chk_1_7_false : isTrue ((run Tryd.prog (memo (rowsQ 1 7)) 10000).f 3 [cfgI, .sym 0, .bool false] s₀ .ok) = true := by kernel_rfl
theorem chk_1_7_true : isTrue ((run Tryd.prog (memo (rowsQ 1 7)) 10000).f 3 [cfgI, .sym 0, .bool true] s₀ .ok) = true := by kernel_rfl
theorem chk_2_0_false : isTrue ((run Tryd.prog (memo (rowsQ 2 0)) 10000).f 3 [cfgI, .sym 0, .bool false] s₀ .ok) = true := by kernel_rfl
theorem chk_2_0_true : isTrue ((run Tryd.prog (memo (rowsQ 2 0)) 10000).f 3 [cfgI, .sym 0, .bool true] s₀ .ok) = true := by kernel_rfl
theorem chk_2_1_false : isTrue ((run Tryd.prog (memo (rowsQ 2 1)) 10000).f 3 [cfgI, .sym 0, .bool false] s₀ .ok) = true := by kernel_rfl
theorem chk_2_1_true : isTrue ((run Tryd.prog (memo (rowsQ 2 1)) 10000).f 3 [cfgI, .sym 0, .bool true] s₀ .ok) = true := by kernel_rfl
theorem chk_2_2_false : isTrue ((run Tryd.prog (memo (rowsQ 2 2)) 10000).f 3 [cfgI, .sym 0, .bool false] s₀ .ok) = true := by kernel_rfl
theorem chk_2_2_true : isTrue ((run Tryd.prog (memo (rowsQ 2 2)) 10000).f 3 [cfgI, .sym 0, .bool true] s₀ .ok) = true := by kernel_rfl
theorem chk_2_3_false : isTrue ((run Tryd.prog (memo (rowsQ 2 3)) 10000).f 3 [cfgI, .sym 0, .bool false] s₀ .ok) = true := by kernel_rfl
theorem chk_2_3_true : isTrue ((run Tryd.prog (memo (rowsQ 2 3)) 10000).f 3 [cfgI, .sym 0, .bool true] s₀ .ok) = true := by kernel_rfl
end Go.Proofs.YtallkpebijgghaaDoor
