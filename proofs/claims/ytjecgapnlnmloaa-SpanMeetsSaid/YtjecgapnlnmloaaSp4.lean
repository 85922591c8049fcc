/- A part of the proof: an interpreter of the program, shown right once, and the laws that it computes. -/
import Derived.Test.YtjecgapnlnmloaaSp2
import Derived.Test.YtjecgapnlnmloaaSpH
import Derived.WalkKit
namespace Go.Proofs.Ytjecgapnlnmloaa
open Go.RowKit Go.Eng
set_option linter.unusedVariables false
/-- What SpanMeets asks ahead of its tests. -/
def rowsM (f : Nat) (args : List IV) : Option IV :=
  match f, args with
  | 10, [] => some (.bool true)
  | 11, [.agg [.sym 0, .sym 1]] => some (spI 4 5)
  | 11, [.agg [.sym 2, .sym 3]] => some (spI 6 7)
  | _, _ => none
noncomputable def cs3 : List Code := match Try.f3.body with
  | some (.seq a (.seq b (.seq c _))) => [a, b, c]
  | _ => []
noncomputable def d3 : Code := match Try.f3.body with
  | some (.seq _ (.seq _ (.seq _ d))) => d
  | _ => .skip
theorem body3 : Try.f3.body = some (seqs cs3 d3) := by kernel_rfl
noncomputable def kn3 : KE := fun env s => match slotT 53 5 with
  | .mk f _ => match slotT 53 6 with
    | .mk g _ => .ok (.tup [f env, g env]) s
    | .no => .no
  | .no => .no
noncomputable def fa3 : List IV → Env → Option Env := match argsT 53 2 0 with
  | .mk f => f
  | .no => fun _ _ => none
noncomputable def env3 : Env := match fa3 [spI 0 1, spI 2 3] .e with
  | some en => en
  | none => .e
noncomputable def cellsAre (s : St) (b : Nat) (l : List IV) : Bool := match s.rd b 0 2 with
  | some l' => ieqs l' l
  | none => false
noncomputable def okCut : R → Bool
  | .ok v s => ieq v (.tup [.ptr 2 0, .ptr 3 0]) && (cellsAre s 2 [.sym 4, .sym 5] && cellsAre s 3 [.sym 6, .sym 7])
  | .no => false
theorem cut3 : okCut (runCs Try.prog (memo rowsM) (run Try.prog (memo rowsM) 10000) 53 cs3 env3 s₀ kn3) = true := by kernel_rfl
theorem fa3_eq : argsT Try.f3.ntmps (Try.f3.params.size + Try.f3.nfree) 0 = .mk fa3 := by kernel_rfl
theorem env3_eq : fa3 [spI 0 1, spI 2 3] .e = some env3 := by kernel_rfl
end Go.Proofs.Ytjecgapnlnmloaa
