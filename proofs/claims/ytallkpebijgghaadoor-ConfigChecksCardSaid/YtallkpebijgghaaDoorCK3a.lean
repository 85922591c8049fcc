/- A part of the proof: an interpreter of the program, shown right once, and the laws that it computes. -/
import Derived.Test.YtallkpebijgghaaDoorCK2
namespace Go.Proofs.YtallkpebijgghaaDoor
open Go.Eng
theorem chk_0_0_false : isTrue ((run Tryd.prog (memo (rowsQ 0 0)) 10000).f 3 [cfgI, .sym 0, .bool false] s₀ .ok) = true := by kernel_rfl
theorem chk_0_0_true : isTrue ((run Tryd.prog (memo (rowsQ 0 0)) 10000).f 3 [cfgI, .sym 0, .bool true] s₀ .ok) = true := by kernel_rfl
theorem chk_0_1_false : isTrue ((run Tryd.prog (memo (rowsQ 0 1)) 10000).f 3 [cfgI, .sym 0, .bool false] s₀ .ok) = true := by kernel_rfl
theorem chk_0_1_true : isTrue ((run Tryd.prog (memo (rowsQ 0 1)) 10000).f 3 [cfgI, .sym 0, .bool true] s₀ .ok) = true := by kernel_rfl
theorem chk_0_2_false : isTrue ((run Tryd.prog (memo (rowsQ 0 2)) 10000).f 3 [cfgI, .sym 0, .bool false] s₀ .ok) = true := by kernel_rfl
theorem chk_0_2_true : isTrue ((run Tryd.prog (memo (rowsQ 0 2)) 10000).f 3 [cfgI, .sym 0, .bool true] s₀ .ok) = true := by kernel_rfl
theorem chk_0_3_false : isTrue ((run Tryd.prog (memo (rowsQ 0 3)) 10000).f 3 [cfgI, .sym 0, .bool false] s₀ .ok) = true := by kernel_rfl
theorem chk_0_3_true : isTrue ((run Tryd.prog (memo (rowsQ 0 3)) 10000).f 3 [cfgI, .sym 0, .bool true] s₀ .ok) = true := by kernel_rfl
theorem chk_0_4_false : isTrue ((run Tryd.prog (memo (rowsQ 0 4)) 10000).f 3 [cfgI, .sym 0, .bool false] s₀ .ok) = true := by kernel_rfl
theorem chk_0_4_true : isTrue ((run Tryd.prog (memo (rowsQ 0 4)) 10000).f 3 [cfgI, .sym 0, .bool true] s₀ .ok) = true := by kernel_rfl
theorem chk_0_5_false : isTrue ((run Tryd.prog (memo (rowsQ 0 5)) 10000).f 3 [cfgI, .sym 0, .bool false] s₀ .ok) = true := by kernel_rfl
theorem chk_0_5_true : isTrue ((run Tryd.prog (memo (rowsQ 0 5)) 10000).f 3 [cfgI, .sym 0, .bool true] s₀ .ok) = true := by kernel_rfl
theorem chk_0_6_false : isTrue ((run Tryd.prog (memo (rowsQ 0 6)) 10000).f 3 [cfgI, .sym 0, .bool false] s₀ .ok) = true := by kernel_rfl
theorem chk_0_6_true : isTrue ((run Tryd.prog (memo (rowsQ 0 6)) 10000).f 3 [cfgI, .sym 0, .bool true] s₀ .ok) = true := by kernel_rfl
theorem chk_0_7_false : isTrue ((run Tryd.prog (memo (rowsQ 0 7)) 10000).f 3 [cfgI, .sym 0, .bool false] s₀ .ok) = true := by kernel_rfl
theorem chk_0_7_true : isTrue ((run Tryd.prog (memo (rowsQ 0 7)) 10000).f 3 [cfgI, .sym 0, .bool true] s₀ .ok) = true := by kernel_rfl
theorem chk_1_0_false : isTrue ((run Tryd.prog (memo (rowsQ 1 0)) 10000).f 3 [cfgI, .sym 0, .bool false] s₀ .ok) = true := by kernel_rfl
theorem chk_1_0_true : isTrue ((run Tryd.prog (memo (rowsQ 1 0)) 10000).f 3 [cfgI, .sym 0, .bool true] s₀ .ok) = true := by kernel_rfl
theorem chk_1_1_false : isTrue ((run Tryd.prog (memo (rowsQ 1 1)) 10000).f 3 [cfgI, .sym 0, .bool false] s₀ .ok) = true := by kernel_rfl
theorem chk_1_1_true : isTrue ((run Tryd.prog (memo (rowsQ 1 1)) 10000).f 3 [cfgI, .sym 0, .bool true] s₀ .ok) = true := by kernel_rfl
theorem known5k : isTrue ((run Tryd.prog noExt 10000).f 5 [] s₀ .ok) = true := by kernel_rfl
end Go.Proofs.YtallkpebijgghaaDoor
