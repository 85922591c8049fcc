/- A part of the proof: an interpreter of the program, shown right once, and the laws that it computes. -/
import Derived.Test.YtpanfhfcpniodaaGreatDoorEng34
set_option linter.constructorNameAsVariable false
set_option linter.unusedVariables false
namespace Go.Eng
open Go.RowKit
variable {P : Program} {γ : Gam}

theorem Rel.below {ρ : Rho} {s : St} {w w' : World} (h : Rel P γ ρ s w) (hb : Below w.heap.size w w') : Rel P γ ρ s w' :=
  ⟨fun b p h1 h2 => by rw [hb.block p.blk (h.bound b p h1).2]; exact h.live b p h1 h2, fun b p h1 => ⟨(h.bound b p h1).1, Nat.lt_of_lt_of_le (h.bound b p h1).2 hb.size⟩, h.fresh, h.apart⟩
theorem Goes.below {ρ : Rho} {s : St} {w w' : World} (hb : Below w.heap.size w w') : Goes ρ s w ρ s w' :=
  ⟨Le.refl ρ, fun _ _ h => ⟨h, rfl⟩, Nat.le_refl _, fun x hx _ => hb.block x hx, fun b p h hd _ => ⟨b, p, h, hd, rfl⟩, hb.size, hb.os, hb.tape, hb.output⟩

/-- Calls that are known: by the function's number, what is known of its value at arguments. -/
def memo (rows : Nat → List IV → Option IV) : Ext := ⟨fun f args s => match rows f args with
  | some v => some (.ok v s)
  | none => none⟩
theorem memo_ok {rows : Nat → List IV → Option IV} (h : ∀ f args v, rows f args = some v → ∀ (ρ : Rho) args', VRs ρ γ args args' → ∀ w, Calls P f args'.toArray w fun e w' => ∃ v', e = .returned v' ∧ Below w.heap.size w w' ∧ VR ρ γ v v') :
    ExtOk P γ (memo rows) := by
  intro f args s v s' hg ρ w args' hr _ hv
  unfold memo at hg
  simp only at hg
  cases hrow : rows f args with
  | none => rw [hrow] at hg; cases hg
  | some v0 =>
    rw [hrow] at hg
    cases hg
    refine (h f args v hrow ρ args' hv w).mono ?_
    rintro e w' ⟨v', rfl, q1, q2⟩
    exact ⟨v', ρ, rfl, Goes.below q1, hr.below q1, q2⟩
end Go.Eng
