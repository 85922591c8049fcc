/- A part of the proof: an interpreter of the program, shown right once, and the laws that it computes. -/
import Derived.Test.YtfckbfheadoohaaGreatDoorEng32
import Derived.Below
set_option linter.constructorNameAsVariable false
set_option linter.unusedVariables false
namespace Go.Eng
open Go.RowKit
variable {P : Program} {γ : Gam}

/-- Nothing is there. -/
def s₀ : St := { heap := .e, next := 0 }
theorem rel₀ (w : World) : Rel P γ (fun _ => none) s₀ w := ⟨fun b p h => (by cases h), fun b p h => (by cases h), fun b _ => rfl, fun b b' p p' h => (by cases h)⟩

theorem noExt_ok : ExtOk P γ noExt := fun _ _ _ _ _ h => (by cases h)

/-- What the interpreter computes, the program computes. -/
theorem calls_of_run (hm : P.follows .mixedOrders = true) {X : Ext} (hX : ExtOk P γ X) {m f : Nat} {args : List IV} {v : IV} {s1 : St} (h : (run P X m).f f args s₀ .ok = .ok v s1) {args' : List Value} (hv : VRs (fun _ => none) γ args args') (w : World) :
    Calls P f args'.toArray w fun e w' => ∃ v' ρ', e = .returned v' ∧ Below w.heap.size w w' ∧ VR ρ' γ v v' := by
  obtain ⟨v2, s2, h1, h2⟩ := (run_ok (drawn_ok hm) hX m).f f args s₀ .ok v s1 h
  cases h1
  refine (h2 _ w args' (rel₀ w) trivial hv).mono ?_
  rintro e w' ⟨v', ρ', rfl, g1, g2, g3⟩
  exact ⟨v', ρ', rfl, ⟨g1.os, g1.tape, g1.output, g1.size, fun k hk => g1.others k hk fun b p hb => (by cases hb)⟩, g3⟩

def isTrue : R → Bool
  | .ok (.bool true) _ => true
  | _ => false
/-- A law. -/
theorem law_of_run (hm : P.follows .mixedOrders = true) {X : Ext} (hX : ExtOk P γ X) {m f : Nat} {args : List IV} (h : isTrue ((run P X m).f f args s₀ .ok) = true) {args' : List Value} (hv : VRs (fun _ => none) γ args args') (w : World) :
    Calls P f args'.toArray w fun e w' => e = .returned (.bool true) ∧ Below w.heap.size w w' := by
  unfold isTrue at h
  split at h <;> (try (cases h; done))
  rename_i s1 hr
  refine (calls_of_run hm hX hr hv w).mono ?_
  rintro e w' ⟨v', ρ', rfl, g1, g2⟩
  cases g2
  exact ⟨rfl, g1⟩
end Go.Eng

set_option linter.constructorNameAsVariable false
set_option linter.unusedVariables false
namespace Go.Eng
open Go.RowKit
variable {P : Program} {γ : Gam}

theorem Rel.below {ρ : Rho} {s : St} {w w' : World} (h : Rel P γ ρ s w) (hb : Below w.heap.size w w') : Rel P γ ρ s w' :=
  ⟨fun b p h1 h2 => by rw [hb.block p.blk (h.bound b p h1).2]; exact h.live b p h1 h2, fun b p h1 => ⟨(h.bound b p h1).1, Nat.lt_of_lt_of_le (h.bound b p h1).2 hb.size⟩, h.fresh, h.apart⟩
theorem Goes.below {ρ : Rho} {s : St} {w w' : World} (hb : Below w.heap.size w w') : Goes ρ s w ρ s w' :=
  ⟨Le.refl ρ, fun _ _ h => ⟨h, rfl⟩, Nat.le_refl _, fun x hx _ => hb.block x hx, fun b p h hd _ => ⟨b, p, h, hd, rfl⟩, hb.size, hb.os, hb.tape, hb.output⟩

/-- Calls that are known: by the function's number, what is known of its value at arguments. -/
def memo (rows : Nat → List IV → Option IV) : Ext := ⟨fun f args s => match rows f args with
  | some v => some (.ok v s)
  | none => none⟩
theorem memo_ok {rows : Nat → List IV → Option IV} (h : ∀ f args v, rows f args = some v → ∀ (ρ : Rho) args', VRs ρ γ args args' → ∀ w, Calls P f args'.toArray w fun e w' => ∃ v', e = .returned v' ∧ Below w.heap.size w w' ∧ VR ρ γ v v') :
    ExtOk P γ (memo rows) := by
  intro f args s v s' hg ρ w args' hr _ hv
  unfold memo at hg
  simp only at hg
  cases hrow : rows f args with
  | none => rw [hrow] at hg; cases hg
  | some v0 =>
    rw [hrow] at hg
    cases hg
    refine (h f args v hrow ρ args' hv w).mono ?_
    rintro e w' ⟨v', rfl, q1, q2⟩
    exact ⟨v', ρ, rfl, Goes.below q1, hr.below q1, q2⟩
end Go.Eng
