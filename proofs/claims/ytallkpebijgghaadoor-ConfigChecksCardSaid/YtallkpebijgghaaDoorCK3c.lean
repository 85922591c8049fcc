/- A part of the proof: an interpreter of the program, shown right once, and the laws that it computes. -/
import Derived.Test.YtallkpebijgghaaDoorCK2
namespace Go.Proofs.YtallkpebijgghaaDoor
open Go.Eng
theorem chk_2_4_false : isTrue ((run Tryd.prog (memo (rowsQ 2 4)) 10000).f 3 [cfgI, .sym 0, .bool false] s₀ .ok) = true := by kernel_rfl
theorem chk_2_4_true : isTrue ((run Tryd.prog (memo (rowsQ 2 4)) 10000).f 3 [cfgI, .sym 0, .bool true] s₀ .ok) = true := by kernel_rfl
theorem chk_2_5_false : isTrue ((run Tryd.prog (memo (rowsQ 2 5)) 10000).f 3 [cfgI, .sym 0, .bool false] s₀ .ok) = true := by kernel_rfl
theorem chk_2_5_true : isTrue ((run Tryd.prog (memo (rowsQ 2 5)) 10000).f 3 [cfgI, .sym 0, .bool true] s₀ .ok) = true := by kernel_rfl
theorem chk_2_6_false : isTrue ((run Tryd.prog (memo (rowsQ 2 6)) 10000).f 3 [cfgI, .sym 0, .bool false] s₀ .ok) = true := by kernel_rfl
theorem chk_2_6_true : isTrue ((run Tryd.prog (memo (rowsQ 2 6)) 10000).f 3 [cfgI, .sym 0, .bool true] s₀ .ok) = true := by kernel_rfl
theorem chk_2_7_false : isTrue ((run Tryd.prog (memo (rowsQ 2 7)) 10000).f 3 [cfgI, .sym 0, .bool false] s₀ .ok) = true := by kernel_rfl
theorem chk_2_7_true : isTrue ((run Tryd.prog (memo (rowsQ 2 7)) 10000).f 3 [cfgI, .sym 0, .bool true] s₀ .ok) = true := by kernel_rfl
theorem chk_3_0_false : isTrue ((run Tryd.prog (memo (rowsQ 3 0)) 10000).f 3 [cfgI, .sym 0, .bool false] s₀ .ok) = true := by kernel_rfl
theorem chk_3_0_true : isTrue ((run Tryd.prog (memo (rowsQ 3 0)) 10000).f 3 [cfgI, .sym 0, .bool true] s₀ .ok) = true := by kernel_rfl
theorem chk_3_1_false : isTrue ((run Tryd.prog (memo (rowsQ 3 1)) 10000).f 3 [cfgI, .sym 0, .bool false] s₀ .ok) = true := by kernel_rfl
theorem chk_3_1_true : isTrue ((run Tryd.prog (memo (rowsQ 3 1)) 10000).f 3 [cfgI, .sym 0, .bool true] s₀ .ok) = true := by kernel_rfl
theorem chk_3_2_false : isTrue ((run Tryd.prog (memo (rowsQ 3 2)) 10000).f 3 [cfgI, .sym 0, .bool false] s₀ .ok) = true := by kernel_rfl
theorem chk_3_2_true : isTrue ((run Tryd.prog (memo (rowsQ 3 2)) 10000).f 3 [cfgI, .sym 0, .bool true] s₀ .ok) = true := by kernel_rfl
theorem chk_3_3_false : isTrue ((run Tryd.prog (memo (rowsQ 3 3)) 10000).f 3 [cfgI, .sym 0, .bool false] s₀ .ok) = true := by kernel_rfl
theorem chk_3_3_true : isTrue ((run Tryd.prog (memo (rowsQ 3 3)) 10000).f 3 [cfgI, .sym 0, .bool true] s₀ .ok) = true := by kernel_rfl
theorem chk_3_4_false : isTrue ((run Tryd.prog (memo (rowsQ 3 4)) 10000).f 3 [cfgI, .sym 0, .bool false] s₀ .ok) = true := by kernel_rfl
theorem chk_3_4_true : isTrue ((run Tryd.prog (memo (rowsQ 3 4)) 10000).f 3 [cfgI, .sym 0, .bool true] s₀ .ok) = true := by kernel_rfl
theorem chk_3_5_false : isTrue ((run Tryd.prog (memo (rowsQ 3 5)) 10000).f 3 [cfgI, .sym 0, .bool false] s₀ .ok) = true := by kernel_rfl
theorem chk_3_5_true : isTrue ((run Tryd.prog (memo (rowsQ 3 5)) 10000).f 3 [cfgI, .sym 0, .bool true] s₀ .ok) = true := by kernel_rfl
end Go.Proofs.YtallkpebijgghaaDoor
