/- A part of the proof: an interpreter of the program, shown right once, and the laws that it computes. -/
import Derived.Test.YtjecgapnlnmloaaSB
import Derived.Test.YtjecgapnlnmloaaEng35
import Derived.KernelRfl
namespace Go.Proofs.Ytjecgapnlnmloaa
open Go.RowKit Go.Eng
set_option linter.unusedVariables false
theorem follows : Try.prog.follows .mixedOrders = true := by kernel_rfl
theorem known10 (w : World) : Calls Try.prog 10 #[] w fun e w' => e = .returned (.bool true) ∧ Below w.heap.size w w' :=
  law_of_run (γ := fun _ => .int .i64 0) (X := noExt) (m := 10000) (args := []) (args' := []) follows noExt_ok (by kernel_rfl) .nil w
theorem srow_open (x : Addr) (n : Nat) (W : World) (hz : ∀ i, i < n → ∃ z : SpanLaw.Sp, W.cell? (x.add (i * 2)) = some (.int .i64 z.1) ∧ W.cell? (x.add (i * 2 + 1)) = some (.int .i64 z.2)) : ∃ L : List SpanLaw.Sp, L.length = n ∧ SRow W (some x) L := by
  have hz' : ∀ i, ∃ z : SpanLaw.Sp, i < n → W.cell? (x.add (i * 2)) = some (.int .i64 z.1) ∧ W.cell? (x.add (i * 2 + 1)) = some (.int .i64 z.2) := by
    intro i
    by_cases h : i < n
    · obtain ⟨z, hz⟩ := hz i h
      exact ⟨z, fun _ => hz⟩
    · exact ⟨(0, 0), fun h' => absurd h' h⟩
  refine ⟨(List.range n).map fun i => Classical.choose (hz' i), by simp, fun i hi => ?_⟩
  have hi' : i < n := by simpa using hi
  have e : ((List.range n).map fun i => Classical.choose (hz' i)).getD i (0, 0) = Classical.choose (hz' i) := by
    rw [getD_lt hi]; simp
  rw [e]
  obtain ⟨c1, c2⟩ := Classical.choose_spec (hz' i) hi'
  obtain ⟨z0, c0, _⟩ := hz 0 (by omega)
  obtain ⟨zz, hzz⟩ : ∃ z, z = Classical.choose (hz' i) := ⟨_, rfl⟩
  rw [← hzz] at c1 c2 ⊢
  clear e hzz hi hz' hz
  obtain ⟨b, o, s⟩ := x
  have e2 : ∀ j : Nat, (⟨b, o, none⟩ : Addr).add j = ⟨b, o + j, none⟩ := fun j => by
    by_cases h0 : j = 0
    · subst h0; rfl
    · simp [Addr.add, h0]
  have e1 : (⟨b, o, s⟩ : Addr).add (i * 2 + 1) = ⟨b, o + (i * 2 + 1), none⟩ := by simp [Addr.add]
  have hb : b < W.heap.size := by
    rw [e1] at c2
    unfold World.cell? at c2
    split at c2
    · rename_i hh
      exact (Array.getElem?_eq_some_iff.1 hh).1
    · cases c2
  have hs : s = none := by
    simp only [Nat.zero_mul] at c0
    cases s with
    | none => rfl
    | some s =>
      exfalso
      unfold World.cell? at c0
      split at c0
      · simp [Addr.add] at c0
      · cases c0
  subst hs
  rw [e2] at c1 c2
  exact ⟨b, o, rfl, hb, c1, by rw [Nat.add_assoc]; exact c2⟩
end Go.Proofs.Ytjecgapnlnmloaa
