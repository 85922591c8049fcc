/- A part of the proof: an interpreter of the program, shown right once, and the laws that it computes. -/
import Derived.Test.YtallkpebijgghaaDoorCK2
namespace Go.Proofs.YtallkpebijgghaaDoor
open Go.Eng
theorem chk_3_6_false : isTrue ((run Tryd.prog (memo (rowsQ 3 6)) 10000).f 3 [cfgI, .sym 0, .bool false] s₀ .ok) = true := by kernel_rfl
theorem chk_3_6_true : isTrue ((run Tryd.prog (memo (rowsQ 3 6)) 10000).f 3 [cfgI, .sym 0, .bool true] s₀ .ok) = true := by kernel_rfl
theorem chk_3_7_false : isTrue ((run Tryd.prog (memo (rowsQ 3 7)) 10000).f 3 [cfgI, .sym 0, .bool false] s₀ .ok) = true := by kernel_rfl
theorem chk_3_7_true : isTrue ((run Tryd.prog (memo (rowsQ 3 7)) 10000).f 3 [cfgI, .sym 0, .bool true] s₀ .ok) = true := by kernel_rfl
theorem chk_4_0_false : isTrue ((run Tryd.prog (memo (rowsQ 4 0)) 10000).f 3 [cfgI, .sym 0, .bool false] s₀ .ok) = true := by kernel_rfl
theorem chk_4_0_true : isTrue ((run Tryd.prog (memo (rowsQ 4 0)) 10000).f 3 [cfgI, .sym 0, .bool true] s₀ .ok) = true := by kernel_rfl
theorem chk_4_1_false : isTrue ((run Tryd.prog (memo (rowsQ 4 1)) 10000).f 3 [cfgI, .sym 0, .bool false] s₀ .ok) = true := by kernel_rfl
theorem chk_4_1_true : isTrue ((run Tryd.prog (memo (rowsQ 4 1)) 10000).f 3 [cfgI, .sym 0, .bool true] s₀ .ok) = true := by kernel_rfl
theorem chk_4_2_false : isTrue ((run Tryd.prog (memo (rowsQ 4 2)) 10000).f 3 [cfgI, .sym 0, .bool false] s₀ .ok) = true := by kernel_rfl
theorem chk_4_2_true : isTrue ((run Tryd.prog (memo (rowsQ 4 2)) 10000).f 3 [cfgI, .sym 0, .bool true] s₀ .ok) = true := by kernel_rfl
theorem chk_4_3_false : isTrue ((run Tryd.prog (memo (rowsQ 4 3)) 10000).f 3 [cfgI, .sym 0, .bool false] s₀ .ok) = true := by kernel_rfl
theorem chk_4_3_true : isTrue ((run Tryd.prog (memo (rowsQ 4 3)) 10000).f 3 [cfgI, .sym 0, .bool true] s₀ .ok) = true := by kernel_rfl
theorem chk_4_4_false : isTrue ((run Tryd.prog (memo (rowsQ 4 4)) 10000).f 3 [cfgI, .sym 0, .bool false] s₀ .ok) = true := by kernel_rfl
theorem chk_4_4_true : isTrue ((run Tryd.prog (memo (rowsQ 4 4)) 10000).f 3 [cfgI, .sym 0, .bool true] s₀ .ok) = true := by kernel_rfl
theorem chk_4_5_false : isTrue ((run Tryd.prog (memo (rowsQ 4 5)) 10000).f 3 [cfgI, .sym 0, .bool false] s₀ .ok) = true := by kernel_rfl
theorem chk_4_5_true : isTrue ((run Tryd.prog (memo (rowsQ 4 5)) 10000).f 3 [cfgI, .sym 0, .bool true] s₀ .ok) = true := by kernel_rfl
theorem chk_4_6_false : isTrue ((run Tryd.prog (memo (rowsQ 4 6)) 10000).f 3 [cfgI, .sym 0, .bool false] s₀ .ok) = true := by kernel_rfl
theorem chk_4_6_true : isTrue ((run Tryd.prog (memo (rowsQ 4 6)) 10000).f 3 [cfgI, .sym 0, .bool true] s₀ .ok) = true := by kernel_rfl
theorem chk_4_7_false : isTrue ((run Tryd.prog (memo (rowsQ 4 7)) 10000).f 3 [cfgI, .sym 0, .bool false] s₀ .ok) = true := by kernel_rfl
theorem chk_4_7_true : isTrue ((run Tryd.prog (memo (rowsQ 4 7)) 10000).f 3 [cfgI, .sym 0, .bool true] s₀ .ok) = true := by kernel_rfl
end Go.Proofs.YtallkpebijgghaaDoor
