/- A part of the proof: an interpreter of the program, shown right once, and the laws that it computes. -/
import Derived.Test.YtoaeeiocgmiojaaGreatProg
import Derived.WalkKit
import Derived.ProofKit
import Derived.Below
import Derived.WalkMore
import Derived.KernelRfl
namespace Go.Proofs.YtoaeeiocgmiojaaGreat
open Go.RowKit
set_option linter.unusedVariables false
set_option maxRecDepth 100000 in
theorem treeNone (bs : Value) (d : Int) (hd : d < 1 ∨ 50 < d) (a : Option Addr) (n c : Nat) (w : World) : Calls Tryz.prog 13 #[.slice a n c, .int .i64 d] w fun e w' =>
    e = .returned (.tuple #[.slice none 0 0, .agg #[.slice none 0 0], .slice none 0 0]) ∧ Below w.heap.size w w' := by
  have hB : Below w.heap.size w (w.alloc (Obj.cells #[Value.slice none 0 0] 29)) := (Below.refl _ w).alloc (Nat.le_refl _) _
  by_cases hd1 : d < 1
  · go_enter Tryz.func13, Tryz.ntmps13
    go_wp2
    go_step3
    go_wp2
    rw [Exit.noGoto_ret]
    exact bodyPost_ret (by simp [results, Tryz.f13, go_sem]) rfl ⟨rfl, hB⟩
  · have hd2 : 50 < d := by omega
    go_enter Tryz.func13, Tryz.ntmps13
    go_wp2
    go_step3
    go_wp2
    rw [Exit.noGoto_ret]
    exact bodyPost_ret (by simp [results, Tryz.f13, go_sem]) rfl ⟨rfl, hB⟩
end Go.Proofs.YtoaeeiocgmiojaaGreat
