/- A part of the proof: an interpreter of the program, shown right once, and the laws that it computes. -/
import Derived.Test.YtjecgapnlnmloaaDI
import Derived.Test.YtjecgapnlnmloaaEng35
import Derived.KernelRfl
import Derived.Deep.SlicePairs
namespace Go.Proofs.Ytjecgapnlnmloaa
open Go.RowKit Go.Eng Go.ChangeShapes Go.WideShapes Go.Deep
set_option linter.unusedVariables false
namespace D
theorem follows : Try.prog.follows .mixedOrders = true := by kernel_rfl
theorem known18 (w : World) : Calls Try.prog 18 #[] w fun e w' => e = .returned (.bool true) ∧ Below w.heap.size w w' :=
  law_of_run (γ := fun _ => .int .i64 0) (X := noExt) (m := 10000) (args := []) (args' := []) follows noExt_ok (by kernel_rfl) .nil w
theorem drow_open (x : Addr) (n : Nat) (W : World) (hz : ∀ i, i < n → ∃ z : DiagLaw.Dg, W.cell? (x.add (i * 3)) = some (.int .i64 z.1) ∧ W.cell? (x.add (i * 3 + 1)) = some (.int .i64 z.2.1) ∧ W.cell? (x.add (i * 3 + 2)) = some (.int .i64 z.2.2)) : ∃ L : List DiagLaw.Dg, L.length = n ∧ DRow W (some x) L := by
  have hz' : ∀ i, ∃ z : DiagLaw.Dg, i < n → W.cell? (x.add (i * 3)) = some (.int .i64 z.1) ∧ W.cell? (x.add (i * 3 + 1)) = some (.int .i64 z.2.1) ∧ W.cell? (x.add (i * 3 + 2)) = some (.int .i64 z.2.2) := by
    intro i
    by_cases h : i < n
    · obtain ⟨z, hz⟩ := hz i h
      exact ⟨z, fun _ => hz⟩
    · exact ⟨(0, 0, 0), fun h' => absurd h' h⟩
  refine ⟨(List.range n).map fun i => Classical.choose (hz' i), by simp, fun i hi => ?_⟩
  have hi' : i < n := by simpa using hi
  have e : ((List.range n).map fun i => Classical.choose (hz' i)).getD i (0, 0, 0) = Classical.choose (hz' i) := by
    rw [DiagLaw.getD_lt hi]; simp
  rw [e]
  obtain ⟨c1, c2, c3⟩ := Classical.choose_spec (hz' i) hi'
  obtain ⟨z0, c0, _⟩ := hz 0 (by omega)
  obtain ⟨zz, hzz⟩ : ∃ z, z = Classical.choose (hz' i) := ⟨_, rfl⟩
  rw [← hzz] at c1 c2 c3 ⊢
  clear e hzz hi hz' hz
  obtain ⟨b, o, s⟩ := x
  have e2 : ∀ j : Nat, (⟨b, o, none⟩ : Addr).add j = ⟨b, o + j, none⟩ := fun j => by
    by_cases h0 : j = 0
    · subst h0; rfl
    · simp [Addr.add, h0]
  have e1 : (⟨b, o, s⟩ : Addr).add (i * 3 + 1) = ⟨b, o + (i * 3 + 1), none⟩ := by simp [Addr.add]
  have hb : b < W.heap.size := by
    rw [e1] at c2
    unfold World.cell? at c2
    split at c2
    · rename_i hh
      exact (Array.getElem?_eq_some_iff.1 hh).1
    · cases c2
  have hs : s = none := by
    simp only [Nat.zero_mul] at c0
    cases s with
    | none => rfl
    | some s =>
      exfalso
      unfold World.cell? at c0
      split at c0
      · simp [Addr.add] at c0
      · cases c0
  subst hs
  rw [e2] at c1 c2 c3
  exact ⟨b, o, rfl, hb, c1, by rw [Nat.add_assoc]; exact c2, by rw [Nat.add_assoc]; exact c3⟩
section
variable {H : Type} {enc : TypeId × Value → H} {P : Program} {w : World} {base : Nat} {spare : Nat → Bool} {held : Bool}
/-- A slice of structs of three numbers, opened. -/
theorem open_tri {t e : TypeId} {f0 f1 f2 : Field} {fuel : Nat} {a : Option Addr} {len cap : Nat} {x : DataW H × List MemPlace} (ht : P.underlying t = some (.slice e)) (he : P.underlying e = some (.struct #[f0, f1, f2]))
    (ce : P.cellsOf e = 3) (o0 : f0.offset = 0) (o1 : f1.offset = 1) (o2 : f2.offset = 2) (c0 : P.cellsOf f0.type = 1) (c1 : P.cellsOf f1.type = 1) (c2 : P.cellsOf f2.type = 1)
    (u0 : P.underlying f0.type = some (.int .i64)) (u1 : P.underlying f1.type = some (.int .i64)) (u2 : P.underlying f2.type = some (.int .i64))
    (h : DataW.trod enc P w base spare held fuel t [.slice a len cap] = some x) : ∃ L : List DiagLaw.Dg, L.length = len ∧ DRow w a L := by
  rcases open_slice ht h with ⟨hcs, _⟩ | ⟨a', l', c', m, n, D, Pl, hcs, hb, hl, hm, hmm, rfl, hx⟩
  · simp at hcs
    obtain ⟨rfl, rfl, rfl⟩ := hcs
    exact ⟨[], rfl, fun i hi => absurd hi (Nat.not_lt_zero i)⟩
  · simp at hcs
    obtain ⟨rfl, rfl, rfl⟩ := hcs
    have hlm : len ≤ m := by rw [hmm]; split <;> omega
    refine drow_open a' len w fun i hi => ?_
    obtain ⟨cs', h1, h2⟩ := hx i (by omega)
    rw [ce] at h1
    obtain ⟨_, hlen, hcell⟩ := World.cells?_some h1
    obtain ⟨xs, k, hk, hxy, _, hxl, hf⟩ := DataW.trod_struct he h2
    match xs, hxl, cs', hlen with
    | [y0, y1, y2], _, [v0, v1, v2], _ =>
      have g0 := hf 0 f0 rfl
      have g1 := hf 1 f1 rfl
      have g2 := hf 2 f2 rfl
      simp [o0, o1, o2, c0, c1, c2] at g0 g1 g2
      have e0 := hcell 0 (by omega)
      have e1 := hcell 1 (by omega)
      have e2 := hcell 2 (by omega)
      rw [add_add] at e0 e1 e2
      obtain ⟨p, ep, _, _⟩ := DataW.trod_int u0 g0
      obtain ⟨q, eq, _, _⟩ := DataW.trod_int u1 g1
      obtain ⟨r, er, _, _⟩ := DataW.trod_int u2 g2
      simp at ep eq er
      exact ⟨(p, q, r), by simpa [ep] using e0, by simpa [eq] using e1, by simpa [er] using e2⟩
end
end D
end Go.Proofs.Ytjecgapnlnmloaa
