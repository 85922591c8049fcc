/- A part of the proof: an interpreter of the program, shown right once, and the laws that it computes. -/
import Derived.Test.YtjecgapnlnmloaaEng35
set_option linter.unusedVariables false
noncomputable section
namespace Go.Eng
variable {P : Program} {γ : Gam}
/-- A piece of code, run. -/
def runC (P : Program) (X : Ext) (r : Runs) (n : Nat) (c : Code) (env : Env) (s : St) (kn : KE) : R := match codeT P n c with
  | .mk f => f X r env s kn (fun _ _ _ => .no)
/-- Pieces of code, one behind the other, run. -/
def runCs (P : Program) (X : Ext) (r : Runs) (n : Nat) : List Code → Env → St → KE → R
  | [], env, s, kn => kn env s
  | c :: cs, env, s, kn => runC P X r n c env s fun env s => runCs P X r n cs env s kn
def seqs : List Code → Code → Code
  | [], d => d
  | c :: cs, d => .seq c (seqs cs d)
theorem runCs_ok (hD : DrawnOk P γ) {n : Nat} {X : Ext} {r : Runs} (hX : ExtOk P γ X) (hr : RunsOk P γ r) {kn : KE} {v1 : IV} {s1 : St} : ∀ (cs : List Code) (env : Env) (s : St), runCs P X r n cs env s kn = .ok v1 s1 →
    ∃ env' s', kn env' s' = .ok v1 s1 ∧ ∀ ρ w a, Rel P γ ρ s w → ER γ n ρ env a → ∀ (d : Code) (Q : Exit → Go.Act → World → Prop),
      (∀ ρ' w' a', Goes ρ s w ρ' s' w' → Rel P γ ρ' s' w' → ER γ n ρ' env' a' → d.wp P Q a' w') → (seqs cs d).wp P Q a w
  | [], env, s, h => ⟨env, s, h, fun ρ w a hrel hE d Q hQ => hQ ρ w a (Goes.refl ρ s w) hrel hE⟩
  | c :: cs, env, s, h => by
    unfold runCs runC at h
    cases hc : codeT P n c with
    | mk F =>
      rw [hc] at h
      obtain ⟨e, env1, s2, q1, q2⟩ := code_ok hD hX hr c hc env s _ _ v1 s1 h
      cases e with
      | normal =>
        obtain ⟨env', s', m1, m2⟩ := runCs_ok hD hX hr cs env1 s2 q1
        refine ⟨env', s', m1, fun ρ w a hrel hE d Q hQ => ?_⟩
        refine wp_seq (q2 ρ w a hrel trivial hE _ ?_)
        intro ρ1 w1 a1 g1 g2 g3
        exact m2 ρ1 w1 a1 g2 g3 d Q fun ρ' w' a' k1 k2 k3 => hQ ρ' w' a' (g1.trans k1) k2 k3
      | exit i => cases q1
      | goto i => cases q1
      | ret => cases q1
/-- The beginning of a function's body by the interpreter, the rest by hand: what is known at the cut. -/
theorem calls_cut (hm : P.follows .mixedOrders = true) {X : Ext} (hX : ExtOk P γ X) {m f : Nat} {fn : Func} (hf : P.funcs[f]? = some fn) (cs : List Code) (d : Code) (hb : fn.body = some (seqs cs d))
    {fa : List IV → Env → Option Env} (ha : argsT fn.ntmps (fn.params.size + fn.nfree) 0 = .mk fa) {args : List IV} {env : Env} (he : fa args .e = some env) {kn : KE} {v1 : IV} {s1 : St} (h : runCs P X (run P X m) fn.ntmps cs env s₀ kn = .ok v1 s1)
    {args' : List Value} (hv : VRs (fun _ => none) γ args args') {w : World} {R : Ending → World → Prop}
    (hd : ∀ env' s', kn env' s' = .ok v1 s1 → ∀ ρ' w' a', Goes (fun _ => none) s₀ w ρ' s' w' → Rel P γ ρ' s' w' → ER γ fn.ntmps ρ' env' a' → d.wp P (bodyPost P fn R) a' w') : Calls P f args'.toArray w R := by
  obtain ⟨env', s', m1, m2⟩ := runCs_ok (drawn_ok hm) hX (run_ok (drawn_ok hm) hX m) cs env s₀ h
  refine calls_of_wp hf hb ?_
  exact m2 _ w _ (rel₀ w) (enter_ER ha he hv) d _ fun ρ' w' a' k1 k2 k3 => hd env' s' m1 ρ' w' a' k1 k2 k3
end Go.Eng
end
