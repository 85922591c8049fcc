/- A part of the proof: an interpreter of the program, shown right once, and the laws that it computes. -/
import Derived.Test.YtoaeeiocgmiojaaGreatGRbase
import Derived.Test.YtoaeeiocgmiojaaGreatGRa
import Derived.Test.YtoaeeiocgmiojaaGreatGRb
import Derived.Test.YtoaeeiocgmiojaaGreatGRc
import Derived.Test.YtoaeeiocgmiojaaGreatGRd
import Derived.Test.YtoaeeiocgmiojaaGreatRows
namespace Go.Proofs.YtoaeeiocgmiojaaGreat
open Go.ChangeShapes Go.WideShapes Go.ChangeAt Go.RowKit Go.Eng
set_option linter.unusedVariables false

theorem graphPrints_walk (a : Int) (w : World) : Calls Tryz.prog 6 #[.int .i64 a] w fun e w' => e = .returned (.bool true) ∧ Below w.heap.size w w' := by
  obtain ⟨k, hk, hc⟩ := within16 a 20 (by decide) (by decide)
  have hX := extG_ok (n := 20) hc
  have go : isTrue ((run Tryz.prog (extG 20 k) 10000).f 6 [.sym 0] s₀ .ok) = true → Calls Tryz.prog 6 #[.int .i64 a] w fun e w' => e = .returned (.bool true) ∧ Below w.heap.size w w' :=
    fun h => law_of_run (args' := [.int .i64 a]) follows hX h (.cons _ _ _ _ (.sym 0) .nil) w
  have hcases : k = 0 ∨ k = 1 ∨ k = 2 ∨ k = 3 ∨ k = 4 ∨ k = 5 ∨ k = 6 ∨ k = 7 ∨ k = 8 ∨ k = 9 ∨ k = 10 ∨ k = 11 ∨ k = 12 ∨ k = 13 ∨ k = 14 ∨ k = 15 ∨ k = 16 ∨ k = 17 ∨ k = 18 ∨ k = 19 := by omega
  rcases hcases with h | h | h | h | h | h | h | h | h | h | h | h | h | h | h | h | h | h | h | h <;> subst h
  · exact go prints0
  · exact go prints1
  · exact go prints2
  · exact go prints3
  · exact go prints4
  · exact go prints5
  · exact go prints6
  · exact go prints7
  · exact go prints8
  · exact go prints9
  · exact go prints10
  · exact go prints11
  · exact go prints12
  · exact go prints13
  · exact go prints14
  · exact go prints15
  · exact go prints16
  · exact go prints17
  · exact go prints18
  · exact go prints19
namespace graphPrints
theorem own : ownKnob Tryz.prog.godebug = none := by kernel_rfl
set_option maxRecDepth 100000 in
theorem lifted (os : Os) (started : os.Started) (H : Type) (enc : TypeId × Value → H) :
    ReturnsInHanded {} Tryz.checked os 6 .any (Rows.graphPrintsSpec.pre6 enc Tryz.prog Tryz.f6 Rows.graphPrintsRow.domain false) (Rows.graphPrintsSpec.post enc Tryz.prog Tryz.f6 false true false false) := by
  refine returnsInHanded_of_change_sized (C := Tryz.checked) own started (by kernel_rfl) Tryz.func6
    (ChangeSpec.witness6 (enc := enc) (C := Tryz.checked) false ⟨#[], #[.int .i64 0], []⟩ 8 (by kernel_rfl) (by kernel_rfl) (by kernel_rfl) (by kernel_rfl)) ?_
  intro W base args ds gs before hval0 hW hcnd hsz0 _
  have hval : ∀ (j : Nat) t v, Tryz.f6.params[j]? = some t → args[j]? = some v → Value.okWide Tryz.prog W .any base t v := hval0
  have hW' := hW
  obtain ⟨p, q, hA0, hV, rfl, hfz, hnd⟩ := hW
  have hA : DataW.TrodAll enc Tryz.prog W 0 (fun _ => true) true Tryz.f6.params.toList args.toList ds p := hA0
  rw [Tryz.params6] at hA hval
  obtain ⟨v0, vs0, d0, ds0, p0, q0, hargs, rfl, rfl, h0, r0⟩ := trodAll_cons hA
  obtain ⟨rfl, rfl, rfl⟩ := trodAll_nil r0
  obtain rfl : args = #[v0] := by cases args; simp_all
  obtain ⟨rfl, rfl⟩ := trodVars_none hV
  obtain ⟨a0, rfl, rfl, rfl, w0⟩ := open_int Tryz.underlying3 (hval 0 3 v0 rfl rfl) h0
  clear hA0 hval0 hsz0
  refine (graphPrints_walk a0 W).mono fun e W' ⟨he, bel⟩ => ?_
  subst he
  exact ⟨_, rfl, _, _, _, [], _, [], hW', trodAll_mk1 (shut_bool Tryz.underlying4 _), (trodAll_cons_mk (shut_int Tryz.underlying3 w0) trodAll_mk0), rfl, bel.frame _, fun h => by cases h⟩
theorem over : Rows.graphPrintsRow.holds Tryz.pinned (OpenSpec.ofChange Rows.graphPrintsSpec) :=
  OpenClaim.holds_of_wide 6 Tryz.f6 rfl rfl rfl rfl rfl rfl rfl ⟨rfl, rfl, rfl, rfl, rfl⟩ rfl rfl rfl rfl rfl (by kernel_rfl) Tryz.func6 (by kernel_rfl)
    (of_decide_eq_true (by kernel_rfl)) (by unfold Func.isWrapper; first | (rw [if_pos (by decide +kernel)]; kernel_rfl) | (rw [if_neg (by decide +kernel)]; exact ⟨rfl, rfl⟩))
    (fun os started H enc _ => lifted os started H enc)
end graphPrints
/-- The law GraphPrints holds. -/
theorem graphPrints_holds : Rows.GraphPrintsSaid := graphPrints.over
#print axioms graphPrints_holds
end Go.Proofs.YtoaeeiocgmiojaaGreat
