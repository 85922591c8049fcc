/- A part of the proof: an interpreter of the program, shown right once, and the laws that it computes. -/
import Derived.Test.YtpanfhfcpniodaaGreatDoorEng24
set_option linter.constructorNameAsVariable false
set_option linter.unusedVariables false
set_option linter.unusedSimpArgs false
namespace Go.Eng
variable {P : Program} {γ : Gam}

/-- The rounds of a loop, from the head of one on. -/
def LoopWp (P : Program) (c : Code) (Q : Exit → Go.Act → World → Prop) (a : Go.Act) (w : World) : Prop :=
  ∀ (b : Frame) (k : List Item) (cs : List Frame), ∃ e a' w', Q e a' w' ∧ Arrives P (lone (b.at a (.code c :: .inLoop c :: k)) cs w) b k cs e a' w'

theorem loop_of {c : Code} {Q : Exit → Go.Act → World → Prop} {a : Go.Act} {w : World} (h : LoopWp P c Q a w) : (Code.loop c).wp P Q a w := fun b k cs =>
  let ⟨e, a', w', hq, harr⟩ := h b k cs; ⟨e, a', w', hq, .of_steps (.one step_loop) harr⟩

theorem loop_round {c : Code} {Q : Exit → Go.Act → World → Prop} {a : Go.Act} {w : World} (h : c.wp P (Exit.then (LoopWp P c Q) Q) a w) : LoopWp P c Q a w := by
  intro b k cs
  obtain ⟨e, a₁, w₁, hq, harr⟩ := h b (.inLoop c :: k) cs
  cases e with
  | normal =>
    obtain ⟨e₂, a₂, w₂, hq₂, harr₂⟩ := hq b k cs
    exact ⟨e₂, a₂, w₂, hq₂, .of_steps (Steps.trans harr (.one step_inLoop)) harr₂⟩
  | exit id => exact ⟨_, a₁, w₁, hq, .pass (x := .inLoop c) rfl (fun _ _ => .inl (by simp)) harr⟩
  | goto l => exact ⟨_, a₁, w₁, hq, .pass (x := .inLoop c) rfl (fun _ _ => .inl (by simp)) harr⟩
  | ret => exact ⟨_, a₁, w₁, hq, .pass (x := .inLoop c) rfl (fun _ _ => .inl (by simp)) harr⟩
  | panic ch => exact ⟨_, a₁, w₁, hq, .pass (x := .inLoop c) rfl (fun _ _ => .inl (by simp)) harr⟩
  | outgrown => exact ⟨_, a₁, w₁, hq, .pass (x := .inLoop c) rfl (fun _ _ => .inl (by simp)) harr⟩

/-- What is left of a scope. -/
def ScopeWp (P : Program) (body c : Code) (Q : Exit → Go.Act → World → Prop) (a : Go.Act) (w : World) : Prop :=
  ∀ (b : Frame) (k : List Item) (cs : List Frame), ∃ e a' w', Q e a' w' ∧ Arrives P (lone (b.at a (.code c :: .inScope body :: k)) cs w) b k cs e a' w'

theorem scope_of {c : Code} {Q : Exit → Go.Act → World → Prop} {a : Go.Act} {w : World} (h : ScopeWp P c c Q a w) : (Code.scope c).wp P Q a w := fun b k cs =>
  let ⟨e, a', w', hq, harr⟩ := h b k cs; ⟨e, a', w', hq, .of_steps (.one step_scope) harr⟩

def inScopeQ (P : Program) (body : Code) (Q : Exit → Go.Act → World → Prop) : Exit → Go.Act → World → Prop
  | .goto l, a, w => match findLabel body l with
    | some rest => ScopeWp P body rest Q a w
    | none => Q (.goto l) a w
  | e, a, w => Q e a w

theorem scope_round {body c : Code} {Q : Exit → Go.Act → World → Prop} {a : Go.Act} {w : World} (h : c.wp P (inScopeQ P body Q) a w) : ScopeWp P body c Q a w := by
  intro b k cs
  obtain ⟨e, a₁, w₁, hq, harr⟩ := h b (.inScope body :: k) cs
  cases e with
  | normal => exact ⟨.normal, a₁, w₁, hq, Steps.trans harr (.one step_inScope)⟩
  | exit id => exact ⟨.exit id, a₁, w₁, hq, fun k' hk => harr k' (by simp [exitTo, hk])⟩
  | goto l =>
    cases hl : findLabel body l with
    | none =>
      simp only [inScopeQ, hl] at hq
      exact ⟨.goto l, a₁, w₁, hq, fun k' hk => harr k' (by simp [gotoIn, hl, hk])⟩
    | some rest =>
      simp only [inScopeQ, hl] at hq
      obtain ⟨e₂, a₂, w₂, hq₂, harr₂⟩ := hq b k cs
      exact ⟨e₂, a₂, w₂, hq₂, .of_steps (harr _ (by simp [gotoIn, hl])) harr₂⟩
  | ret => exact ⟨_, a₁, w₁, hq, harr⟩
  | panic ch => exact ⟨_, a₁, w₁, hq, harr⟩
  | outgrown => exact ⟨_, a₁, w₁, hq, harr⟩

def exOf : Ex → Exit
  | .normal => .normal
  | .exit i => .exit i
  | .goto l => .goto l
  | .ret => .ret
def goOn (kn : KE) (kx : KX) : Ex → Env → St → R
  | .normal => kn
  | e => kx e

/-- A piece of code, from here to there. -/
def Ends (P : Program) (γ : Gam) (n : Nat) (s : St) (env : Env) (kn : KE) (kx : KX) (v1 : IV) (s1 : St) (W : (Exit → Go.Act → World → Prop) → Go.Act → World → Prop) : Prop :=
  ∃ e env' s', goOn kn kx e env' s' = .ok v1 s1 ∧ ∀ ρ w a, Rel P γ ρ s w → Glob P ρ → ER γ n ρ env a → ∀ Q : Exit → Go.Act → World → Prop,
    (∀ ρ' w' a', Goes ρ s w ρ' s' w' → Rel P γ ρ' s' w' → ER γ n ρ' env' a' → Q (exOf e) a' w') → W Q a w

structure RunsOk (P : Program) (γ : Gam) (r : Runs) : Prop where
  l : ∀ n b env s kn kx v1 s1, r.l n b env s kn kx = .ok v1 s1 → Ends P γ n s env kn kx v1 s1 (LoopWp P b)
  s : ∀ n b c env s kn kx v1 s1, r.s n b c env s kn kx = .ok v1 s1 → Ends P γ n s env kn kx v1 s1 (ScopeWp P b c)
  f : RecOk P γ r.f

/-- Regions that draw their order. -/
def DrawnOk (P : Program) (γ : Gam) : Prop := ∀ n (ops : Array Oper) f, drawnT P n ops.toList = .mk f → ∀ X rec, ExtOk P γ X → RecOk P γ rec → ∀ env s k v1 s1, f X rec env s k = .ok v1 s1 →
  ∃ env' s', k env' s' = .ok v1 s1 ∧ Moves P γ n s env s' env' (fun Q a w => ∀ id, (Code.region id ops true).wp P Q a w)

theorem VR.bool_inv {ρ : Rho} {t : Bool} {v' : Value} (h : VR ρ γ (.bool t) v') : v' = .bool t := by cases h; rfl

theorem code_ok (hD : DrawnOk P γ) {n : Nat} {X : Ext} {r : Runs} (hX : ExtOk P γ X) (hr : RunsOk P γ r) : ∀ (c : Code) {F}, codeT P n c = .mk F → ∀ env s kn kx v1 s1, F X r env s kn kx = .ok v1 s1 →
    Ends P γ n s env kn kx v1 s1 (fun Q a w => c.wp P Q a w) := by
  intro c
  induction c with
  | skip =>
    intro F hF env s kn kx v1 s1 h
    cases hF
    exact ⟨.normal, env, s, h, fun ρ w a hrel hg hE Q hQ => wp_skip (hQ ρ w a (Goes.refl ρ s w) hrel hE)⟩
  | label l =>
    intro F hF env s kn kx v1 s1 h
    cases hF
    exact ⟨.normal, env, s, h, fun ρ w a hrel hg hE Q hQ => wp_label (hQ ρ w a (Goes.refl ρ s w) hrel hE)⟩
  | exit id =>
    intro F hF env s kn kx v1 s1 h
    cases hF
    exact ⟨.exit id, env, s, h, fun ρ w a hrel hg hE Q hQ => wp_exit (hQ ρ w a (Goes.refl ρ s w) hrel hE)⟩
  | goto l =>
    intro F hF env s kn kx v1 s1 h
    cases hF
    exact ⟨.goto l, env, s, h, fun ρ w a hrel hg hE Q hQ => wp_goto (hQ ρ w a (Goes.refl ρ s w) hrel hE)⟩
  | ret =>
    intro F hF env s kn kx v1 s1 h
    cases hF
    exact ⟨.ret, env, s, h, fun ρ w a hrel hg hE Q hQ => wp_ret (hQ ρ w a (Goes.refl ρ s w) hrel hE)⟩
  | region id ops draw =>
    intro F hF env s kn kx v1 s1 h
    change ofStep (regionT P n ops.toList draw) = CB.mk F at hF
    cases draw with
    | false =>
      change ofStep (opsT P n ops.toList ops.toList) = CB.mk F at hF
      cases hs : opsT P n ops.toList ops.toList with
      | mk f =>
        rw [hs] at hF; cases hF
        obtain ⟨env', s', q1, q2⟩ := opsT_ok hX hr.f ops.toList 0 (fun i => by simp) hs h
        refine ⟨.normal, env', s', q1, fun ρ w a hrel hg hE Q hQ => wp_region ?_⟩
        have := q2 ρ w a hrel hg hE Q hQ
        rw [Array.length_toList] at this
        rwa [List.range_eq_range']
    | true =>
      change ofStep (drawnT P n ops.toList) = CB.mk F at hF
      cases hs : drawnT P n ops.toList with
      | mk f =>
        rw [hs] at hF; cases hF
        obtain ⟨env', s', q1, q2⟩ := hD n ops f hs X r.f hX hr.f env s kn v1 s1 h
        exact ⟨.normal, env', s', q1, fun ρ w a hrel hg hE Q hQ => q2 ρ w a hrel hg hE Q hQ id⟩
  | seq x y ihx ihy =>
    intro F hF env s kn kx v1 s1 h
    unfold codeT at hF
    cases h1 : codeT P n x with
    | mk f =>
      rw [h1] at hF
      simp only at hF
      cases h2 : codeT P n y with
      | mk g =>
        rw [h2] at hF; cases hF
        obtain ⟨e, env', s', q1, q2⟩ := ihx h1 env s _ kx v1 s1 h
        cases e with
        | normal =>
          obtain ⟨e2, env2, s2, q3, q4⟩ := ihy h2 env' s' kn kx v1 s1 q1
          refine ⟨e2, env2, s2, q3, fun ρ w a hrel hg hE Q hQ => wp_seq (q2 ρ w a hrel hg hE _ ?_)⟩
          intro ρ' w' a' g1 g2 g3
          exact q4 ρ' w' a' g2 (hg.mono g1.le) g3 Q (fun ρ'' w'' a'' m1 m2 m3 => hQ ρ'' w'' a'' (g1.trans m1) m2 m3)
        | exit i => exact ⟨.exit i, env', s', q1, fun ρ w a hrel hg hE Q hQ => wp_seq (q2 ρ w a hrel hg hE _ hQ)⟩
        | goto i => exact ⟨.goto i, env', s', q1, fun ρ w a hrel hg hE Q hQ => wp_seq (q2 ρ w a hrel hg hE _ hQ)⟩
        | ret => exact ⟨.ret, env', s', q1, fun ρ w a hrel hg hE Q hQ => wp_seq (q2 ρ w a hrel hg hE _ hQ)⟩
  | cond c x y ihx ihy =>
    intro F hF env s kn kx v1 s1 h
    unfold codeT at hF
    cases h0 : evT P n c with
    | no => rw [h0] at hF; cases hF; cases h
    | mk fc =>
      rw [h0] at hF
      simp only at hF
      cases h1 : codeT P n x with
      | mk f =>
        rw [h1] at hF
        simp only at hF
        cases h2 : codeT P n y with
        | mk g =>
          rw [h2] at hF; cases hF
          change IV.onBool .no (fun t => Bool.rec (motive := fun _ => R) (g X r env s kn kx) (f X r env s kn kx) t) (fc env) = .ok v1 s1 at h
          generalize hv : fc env = v at h
          cases v <;> (try (cases h; done))
          rename_i t
          change Bool.rec (motive := fun _ => R) (g X r env s kn kx) (f X r env s kn kx) t = .ok v1 s1 at h
          have hc : ∀ {ρ : Rho} {a : Go.Act}, Glob P ρ → ER γ n ρ env a → a.eval c = .bool t := fun {ρ a} hg hE => by
            have := hE.op hg c fc h0
            rw [hv] at this
            exact this.bool_inv
          cases t with
          | true =>
            obtain ⟨e, env', s', q1, q2⟩ := ihx h1 env s kn kx v1 s1 h
            exact ⟨e, env', s', q1, fun ρ w a hrel hg hE Q hQ => wp_cond_true (hc hg hE) (q2 ρ w a hrel hg hE Q hQ)⟩
          | false =>
            obtain ⟨e, env', s', q1, q2⟩ := ihy h2 env s kn kx v1 s1 h
            exact ⟨e, env', s', q1, fun ρ w a hrel hg hE Q hQ => wp_cond_false (hc hg hE) (q2 ρ w a hrel hg hE Q hQ)⟩
  | block id b ih =>
    intro F hF env s kn kx v1 s1 h
    unfold codeT at hF
    cases h1 : codeT P n b with
    | mk f =>
      rw [h1] at hF; cases hF
      obtain ⟨e, env', s', q1, q2⟩ := ih h1 env s kn (leaves id kn kx) v1 s1 h
      cases e with
      | normal => exact ⟨.normal, env', s', q1, fun ρ w a hrel hg hE Q hQ => wp_block (q2 ρ w a hrel hg hE _ hQ)⟩
      | exit i =>
        change (match Nat.beq i id with | true => kn env' s' | false => kx (.exit i) env' s') = _ at q1
        cases hb : Nat.beq i id with
        | true =>
          rw [hb] at q1
          have e := Nat.eq_of_beq_eq_true hb
          refine ⟨.normal, env', s', q1, fun ρ w a hrel hg hE Q hQ => wp_block (q2 ρ w a hrel hg hE _ ?_)⟩
          intro ρ' w' a' g1 g2 g3
          show (if i = id then Q .normal a' w' else Q (.exit i) a' w')
          rw [if_pos e]
          exact hQ ρ' w' a' g1 g2 g3
        | false =>
          rw [hb] at q1
          have e : i ≠ id := fun e => by subst e; rw [Nat.beq_refl] at hb; cases hb
          refine ⟨.exit i, env', s', q1, fun ρ w a hrel hg hE Q hQ => wp_block (q2 ρ w a hrel hg hE _ ?_)⟩
          intro ρ' w' a' g1 g2 g3
          show (if i = id then Q .normal a' w' else Q (.exit i) a' w')
          rw [if_neg e]
          exact hQ ρ' w' a' g1 g2 g3
      | goto i => exact ⟨.goto i, env', s', q1, fun ρ w a hrel hg hE Q hQ => wp_block (q2 ρ w a hrel hg hE _ hQ)⟩
      | ret => exact ⟨.ret, env', s', q1, fun ρ w a hrel hg hE Q hQ => wp_block (q2 ρ w a hrel hg hE _ hQ)⟩
  | loop b ih =>
    intro F hF env s kn kx v1 s1 h
    cases hF
    obtain ⟨e, env', s', q1, q2⟩ := hr.l n b env s kn kx v1 s1 h
    exact ⟨e, env', s', q1, fun ρ w a hrel hg hE Q hQ => loop_of (q2 ρ w a hrel hg hE Q hQ)⟩
  | scope b ih =>
    intro F hF env s kn kx v1 s1 h
    cases hF
    obtain ⟨e, env', s', q1, q2⟩ := hr.s n b b env s kn kx v1 s1 h
    exact ⟨e, env', s', q1, fun ρ w a hrel hg hE Q hQ => scope_of (q2 ρ w a hrel hg hE Q hQ)⟩
  | _ =>
    intro F hF env s kn kx v1 s1 h
    cases hF; cases h

theorem runL_ok (hD : DrawnOk P γ) {X : Ext} {r : Runs} (hX : ExtOk P γ X) (hr : RunsOk P γ r) : ∀ n b env s kn kx v1 s1, runL P X r n b env s kn kx = .ok v1 s1 → Ends P γ n s env kn kx v1 s1 (LoopWp P b) := by
  intro n b env s kn kx v1 s1 h
  unfold runL at h
  split at h
  rename_i f hf
  obtain ⟨e, env', s', q1, q2⟩ := code_ok hD hX hr b hf env s _ kx v1 s1 h
  cases e with
  | normal =>
    obtain ⟨e2, env2, s2, q3, q4⟩ := hr.l n b env' s' kn kx v1 s1 q1
    refine ⟨e2, env2, s2, q3, fun ρ w a hrel hg hE Q hQ => loop_round (q2 ρ w a hrel hg hE _ ?_)⟩
    intro ρ' w' a' g1 g2 g3
    exact q4 ρ' w' a' g2 (hg.mono g1.le) g3 Q (fun ρ'' w'' a'' m1 m2 m3 => hQ ρ'' w'' a'' (g1.trans m1) m2 m3)
  | exit i => exact ⟨.exit i, env', s', q1, fun ρ w a hrel hg hE Q hQ => loop_round (q2 ρ w a hrel hg hE _ hQ)⟩
  | goto i => exact ⟨.goto i, env', s', q1, fun ρ w a hrel hg hE Q hQ => loop_round (q2 ρ w a hrel hg hE _ hQ)⟩
  | ret => exact ⟨.ret, env', s', q1, fun ρ w a hrel hg hE Q hQ => loop_round (q2 ρ w a hrel hg hE _ hQ)⟩

theorem runS_ok (hD : DrawnOk P γ) {X : Ext} {r : Runs} (hX : ExtOk P γ X) (hr : RunsOk P γ r) : ∀ n b c env s kn kx v1 s1, runS P X r n b c env s kn kx = .ok v1 s1 → Ends P γ n s env kn kx v1 s1 (ScopeWp P b c) := by
  intro n b c env s kn kx v1 s1 h
  unfold runS at h
  split at h
  rename_i f hf
  obtain ⟨e, env', s', q1, q2⟩ := code_ok hD hX hr c hf env s kn _ v1 s1 h
  cases e with
  | normal => exact ⟨.normal, env', s', q1, fun ρ w a hrel hg hE Q hQ => scope_round (q2 ρ w a hrel hg hE _ hQ)⟩
  | exit i => exact ⟨.exit i, env', s', q1, fun ρ w a hrel hg hE Q hQ => scope_round (q2 ρ w a hrel hg hE _ hQ)⟩
  | ret => exact ⟨.ret, env', s', q1, fun ρ w a hrel hg hE Q hQ => scope_round (q2 ρ w a hrel hg hE _ hQ)⟩
  | goto i =>
    change (match findLabel b i with | some rest => r.s n b rest env' s' kn kx | none => kx (.goto i) env' s') = _ at q1
    cases hl : findLabel b i with
    | none =>
      rw [hl] at q1
      refine ⟨.goto i, env', s', q1, fun ρ w a hrel hg hE Q hQ => scope_round (q2 ρ w a hrel hg hE _ ?_)⟩
      intro ρ' w' a' g1 g2 g3
      show (match findLabel b i with | some rest => ScopeWp P b rest Q a' w' | none => Q (.goto i) a' w')
      rw [hl]
      exact hQ ρ' w' a' g1 g2 g3
    | some rest =>
      rw [hl] at q1
      obtain ⟨e2, env2, s2, q3, q4⟩ := hr.s n b rest env' s' kn kx v1 s1 q1
      refine ⟨e2, env2, s2, q3, fun ρ w a hrel hg hE Q hQ => scope_round (q2 ρ w a hrel hg hE _ ?_)⟩
      intro ρ' w' a' g1 g2 g3
      show (match findLabel b i with | some rest => ScopeWp P b rest Q a' w' | none => Q (.goto i) a' w')
      rw [hl]
      exact q4 ρ' w' a' g2 (hg.mono g1.le) g3 Q (fun ρ'' w'' a'' m1 m2 m3 => hQ ρ'' w'' a'' (g1.trans m1) m2 m3)
end Go.Eng
