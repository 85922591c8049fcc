/- A part of the proof: an interpreter of the program, shown right once, and the laws that it computes. -/
import Derived.Test.YtphdmkiedglfmaaGreatEng23
set_option linter.constructorNameAsVariable false
set_option linter.unusedVariables false
set_option linter.unusedSimpArgs false
namespace Go.Eng
variable {P : Program} {γ : Gam} {Df : List Deferred}

/-- The temporaries, here and there. -/
structure ER (γ : Gam) (Df : List Deferred) (n : Nat) (ρ : Rho) (env : Env) (a : Go.Act) : Prop where
  size : a.tmps.size = n
  defers : a.defers = Df
  slots : ∀ t f g, slotT n t = .mk f g → VR ρ γ (f env) (a.tmps.getD t undef)

theorem ER.mono {n : Nat} {ρ ρ' : Rho} {env : Env} {a : Go.Act} (h : ER γ Df n ρ env a) (hl : Le ρ ρ') : ER γ Df n ρ' env a := ⟨h.size, h.defers, fun t f g hs => (h.slots t f g hs).mono hl⟩

theorem ev_const {n : Nat} {ρ : Rho} {env : Env} {a : Go.Act} {v : Value} : OpR P γ n ρ env a (.const v) := by
  intro f hf
  change (match ofValue v with | some x => Ev.mk fun _ => x | none => Ev.no) = Ev.mk f at hf
  split at hf <;> (try (cases hf; done))
  rename_i x hx
  cases hf
  exact VR.ofValue hx
theorem ev_global {n : Nat} {ρ : Rho} {env : Env} {a : Go.Act} {g : Nat} (hg : Glob P ρ) : OpR P γ n ρ env a (.global g) := by
  intro f hf
  cases hf
theorem ev_func {n : Nat} {ρ : Rho} {env : Env} {a : Go.Act} {g : Nat} : OpR P γ n ρ env a (.func g) := by
  intro f hf
  cases hf
  exact .fn _ _ _ _ _ rfl .nil .nil
theorem ev_tmp {n : Nat} {ρ : Rho} {env : Env} {a : Go.Act} {t : Nat} (h : ∀ f g, slotT n t = .mk f g → VR ρ γ (f env) (a.tmps.getD t undef)) : OpR P γ n ρ env a (.tmp t) := by
  intro f hf
  change evSlot (slotT n t) = Ev.mk f at hf
  cases hs : slotT n t with
  | no => rw [hs] at hf; cases hf
  | mk f' g' => rw [hs] at hf; cases hf; exact h _ _ hs

theorem ER.op {n : Nat} {ρ : Rho} {env : Env} {a : Go.Act} (h : ER γ Df n ρ env a) (hg : Glob P ρ) (x : Operand) : OpR P γ n ρ env a x := by
  cases x with
  | tmp t => exact ev_tmp (h.slots t)
  | const v => exact ev_const
  | global g => exact ev_global hg
  | func f => exact ev_func
theorem ER.ops {n : Nat} {ρ : Rho} {env : Env} {a : Go.Act} (h : ER γ Df n ρ env a) (hg : Glob P ρ) (l : List Operand) : OpsR P γ n ρ env a l := fun x _ => h.op hg x

theorem getD_put {a : Go.Act} {d t : Nat} {v : Value} (hd : d < a.tmps.size) : (a.put (some d) v).tmps.getD t undef = if t = d then v else a.tmps.getD t undef := by
  simp only [Act.put, Array.getD_eq_getD_getElem?, Array.getElem?_setIfInBounds]
  by_cases h : d = t
  · subst h; simp [hd]
  · simp [h, Ne.symm h]

theorem outT_inv {n : Nat} {dst : Option Nat} {g : IV → Env → Env} (h : outT n dst = .mk g) : (dst = none ∧ g = fun _ env => env) ∨ ∃ d f, dst = some d ∧ slotT n d = .mk f g := by
  unfold outT at h
  cases dst with
  | none => cases h; exact .inl ⟨rfl, rfl⟩
  | some d =>
    simp only at h
    cases hs : slotT n d with
    | no => rw [hs] at h; cases h
    | mk f g' => rw [hs] at h; cases h; exact .inr ⟨d, f, rfl, hs⟩

theorem ER.put {n : Nat} {ρ ρ' : Rho} {env : Env} {a : Go.Act} {dst : Option Nat} {g : IV → Env → Env} {v : IV} {v' : Value} (h : ER γ Df n ρ env a) (hl : Le ρ ρ') (hd : outT n dst = .mk g) (hv : VR ρ' γ v v') : ER γ Df n ρ' (g v env) (a.put dst v') := by
  rcases outT_inv hd with ⟨rfl, rfl⟩ | ⟨d, f, rfl, hs⟩
  · exact h.mono hl
  · have hdn := slot_lt hs
    refine ⟨by simp [Act.put, h.size], h.defers, fun t f' g' hs' => ?_⟩
    rw [slot_put hs hs', getD_put (by rw [h.size]; exact hdn)]
    by_cases e : t = d
    · simp only [e, if_true]; exact hv
    · simp only [e, if_false]; exact (h.slots t f' g' hs').mono hl

/- guards -/
def boolOf : Value → Option Bool
  | .bool c => some c
  | _ => none
theorem guardR_inv {b : Bool} {v : IV} {skip run : R} {v1 : IV} {s1 : St} (h : guardR b v skip run = .ok v1 s1) : (∀ k, v ≠ .sym k) ∧ Bool.rec (motive := fun _ => R) skip run (wantedV b v) = .ok v1 s1 := by
  cases v <;> first
    | exact ⟨fun k e => (by cases e), h⟩
    | (cases h)
theorem onBool_rel {ρ : Rho} {v : IV} {v' : Value} (h : VR ρ γ v v') (hn : ∀ k, v ≠ .sym k) (b : Bool) : wantedV b v = (boolOf v' == some b) := by
  unfold wantedV
  cases h <;> first
    | (rename_i k hk hki hks hkl hkr; exact absurd rfl (hn k))
    | (rename_i c; cases c <;> cases b <;> rfl)
    | (cases b <;> rfl)

theorem nth_getElem? {α : Type} (l : List α) (k : Nat) : nth l k = l[k]? := nth_eq l k

theorem guard_sim {n : Nat} {ρ : Rho} {env : Env} {a : Go.Act} {ops : Array Oper} {o : Oper} (hsz : a.tmps.size = n) (hslot : ∀ j b t f g, o.guard = some (j, b) → (∃ oj, ops[j]? = some oj ∧ oj.dst = some t) → slotT n t = .mk f g → VR ρ γ (f env) (a.tmps.getD t undef)) :
    match guardT n ops.toList o.guard with
    | .free => Region.wanted o (yielded ops a.tmps) = true
    | .never => Region.wanted o (yielded ops a.tmps) = false
    | .mk c b => (∀ k, c env ≠ .sym k) → Region.wanted o (yielded ops a.tmps) = wantedV b (c env)
    | .no => True := by
  unfold guardT
  cases hg : o.guard with
  | none => simp only; unfold Region.wanted; rw [hg]
  | some jb =>
    obtain ⟨j, b⟩ := jb
    simp only
    have hgo : guardOf ops.toList j = (ops[j]?).bind (·.dst) := by
      unfold guardOf
      rw [nth_getElem?, Array.getElem?_toList]
      cases ops[j]? <;> rfl
    rw [hgo]
    cases hb : (ops[j]?).bind (·.dst) with
    | none =>
      simp only
      unfold Region.wanted yielded
      simp only [hg, hb, Option.bind_none]
      rfl
    | some t =>
      simp only
      unfold gdSlot
      cases hs : slotT n t with
      | no => trivial
      | mk f g =>
        simp only
        have ht := slot_lt hs
        have hoj : ∃ oj, ops[j]? = some oj ∧ oj.dst = some t := by
          cases ho : ops[j]? with
          | none => rw [ho] at hb; cases hb
          | some oj => rw [ho] at hb; exact ⟨oj, rfl, hb⟩
        have hv := hslot j b t f g hg hoj hs
        intro hns
        rw [onBool_rel hv hns b]
        unfold Region.wanted yielded
        simp only [hg, hb, Option.bind_some]
        have e : a.tmps[t]? = some (a.tmps.getD t undef) := by
          rw [Array.getD_eq_getD_getElem?, Array.getElem?_eq_getElem (by omega)]; rfl
        rw [e]
        generalize a.tmps.getD t undef = q
        cases q <;> rfl

/-- From here to there. -/
def Moves (P : Program) (γ : Gam) (n : Nat) (s : St) (env : Env) (s' : St) (env' : Env) (W : (Exit → Go.Act → World → Prop) → Go.Act → World → Prop) : Prop :=
  ∀ {Df : List Deferred} ρ w a, Rel P γ ρ s w → Glob P ρ → ER γ Df n ρ env a → ∀ Q : Exit → Go.Act → World → Prop, (∀ ρ' w' a', Goes ρ s w ρ' s' w' → Rel P γ ρ' s' w' → ER γ Df n ρ' env' a' → Q .normal a' w') → W Q a w

/-- One operation with its guard. -/
theorem opT_ok {n : Nat} {ops : Array Oper} {o : Oper} {i : Nat} (ho : ops[i]? = some o) {f} (hf : opT P n ops.toList o = .mk f) {X : Ext} {rec : Rec} (hX : ExtOk P γ X) (hrec : RecOk P γ rec) {env : Env} {s : St} {k : KE} {v1 : IV} {s1 : St}
    (h : f X rec env s k = .ok v1 s1) : ∃ env' s', k env' s' = .ok v1 s1 ∧
      ∀ {Df : List Deferred} ρ w a, Rel P γ ρ s w → Glob P ρ → ER γ Df n ρ env a → ∀ (K : Go.Act → World → Prop) (Q : Exit → Go.Act → World → Prop), (∀ ρ' w' a', Goes ρ s w ρ' s' w' → Rel P γ ρ' s' w' → ER γ Df n ρ' env' a' → K a' w') → wpOp P ops Q i K a w := by
  unfold opT at hf
  cases hx : execT P n o.op with
  | mk fa =>
    rw [hx] at hf
    simp only at hf
    cases hout : outT n o.dst with
    | no => rw [hout] at hf; cases hf; cases h
    | mk g =>
      rw [hout] at hf
      simp only at hf
      have hact := exec_ok (P := P) (γ := γ) (n := n) o.op fa hx X rec hX hrec
      have hgd : ∀ {Df : List Deferred} {ρ : Rho} {a : Go.Act}, ER γ Df n ρ env a → _ := fun {Df ρ a} hE => guard_sim (γ := γ) (ρ := ρ) (env := env) (o := o) (ops := ops) hE.size (fun j b t f g _ _ hs => hE.slots t f g hs)
      -- it is run
      have run : ∀ k', fa X rec env s k' = .ok v1 s1 → (∀ v s, k' v s = k (g v env) s) → (∀ {Df : List Deferred} {ρ : Rho} {a : Go.Act}, ER γ Df n ρ env a → Region.wanted o (yielded ops a.tmps) = true) → ∃ env' s', k env' s' = .ok v1 s1 ∧
          ∀ {Df : List Deferred} ρ w a, Rel P γ ρ s w → Glob P ρ → ER γ Df n ρ env a → ∀ (K : Go.Act → World → Prop) (Q : Exit → Go.Act → World → Prop), (∀ ρ' w' a', Goes ρ s w ρ' s' w' → Rel P γ ρ' s' w' → ER γ Df n ρ' env' a' → K a' w') → wpOp P ops Q i K a w := by
        intro k' hk' hkk hw
        obtain ⟨v, s', h1, h2⟩ := hact env s k' v1 s1 hk'
        rw [hkk] at h1
        refine ⟨g v env, s', h1, fun ρ w a hr hg hE K Q hK => ?_⟩
        unfold wpOp
        simp only [ho, hw hE, if_true]
        refine .inl ((h2 ρ w a o rfl hr hg (hE.ops hg _)).wp ?_)
        intro ρ' w' v' q1 q2 q3
        exact hK ρ' w' _ q1 q2 (hE.put q1.le hout q3)
      -- it is passed over
      have skip : k (g undefI env) s = .ok v1 s1 → (∀ {Df : List Deferred} {ρ : Rho} {a : Go.Act}, ER γ Df n ρ env a → Region.wanted o (yielded ops a.tmps) = false) → ∃ env' s', k env' s' = .ok v1 s1 ∧
          ∀ {Df : List Deferred} ρ w a, Rel P γ ρ s w → Glob P ρ → ER γ Df n ρ env a → ∀ (K : Go.Act → World → Prop) (Q : Exit → Go.Act → World → Prop), (∀ ρ' w' a', Goes ρ s w ρ' s' w' → Rel P γ ρ' s' w' → ER γ Df n ρ' env' a' → K a' w') → wpOp P ops Q i K a w := by
        intro hk hw
        refine ⟨_, s, hk, fun ρ w a hr hg hE K Q hK => ?_⟩
        unfold wpOp
        simp only [ho, hw hE, Bool.false_eq_true, if_false]
        exact hK ρ w _ (Goes.refl ρ s w) hr (hE.put (Le.refl ρ) hout (.tup [] #[] .nil))
      cases hgt : guardT n ops.toList o.guard with
      | free =>
        rw [hgt] at hf; cases hf
        exact run _ h (fun _ _ => rfl) (fun hE => by have := hgd hE; rw [hgt] at this; exact this)
      | never =>
        rw [hgt] at hf; cases hf
        exact skip h (fun hE => by have := hgd hE; rw [hgt] at this; exact this)
      | mk c b =>
        rw [hgt] at hf; cases hf
        obtain ⟨hns, h⟩ := guardR_inv h
        cases hw : wantedV b (c env) with
        | false =>
          rw [hw] at h
          exact skip h (fun hE => by have := hgd hE; rw [hgt] at this; rw [this hns, hw])
        | true =>
          rw [hw] at h
          exact run _ h (fun _ _ => rfl) (fun hE => by have := hgd hE; rw [hgt] at this; rw [this hns, hw])
      | no => rw [hgt] at hf; cases hf; cases h

theorem opsT_ok {n : Nat} {ops : Array Oper} {X : Ext} {rec : Rec} (hX : ExtOk P γ X) (hrec : RecOk P γ rec) : ∀ (l : List Oper) (j : Nat), (∀ i, l[i]? = ops[j + i]?) → ∀ {f}, opsT P n ops.toList l = .mk f → ∀ {env : Env} {s : St} {k : KE} {v1 : IV} {s1 : St},
    f X rec env s k = .ok v1 s1 → ∃ env' s', k env' s' = .ok v1 s1 ∧ Moves P γ n s env s' env' (fun Q a w => wpOps P ops Q (List.range' j l.length) a w)
  | [], j, _, f, hf, env, s, k, v1, s1, h => by
    cases hf
    exact ⟨env, s, h, fun ρ w a hr hg hE Q hQ => hQ ρ w a (Goes.refl ρ s w) hr hE⟩
  | o :: l, j, hl, f, hf, env, s, k, v1, s1, h => by
    unfold opsT at hf
    cases h1 : opT P n ops.toList o with
    | mk fo =>
      rw [h1] at hf
      simp only at hf
      cases h2 : opsT P n ops.toList l with
      | mk fs =>
        rw [h2] at hf
        cases hf
        have ho : ops[j]? = some o := by simpa using (hl 0).symm
        obtain ⟨env', s', q1, q2⟩ := opT_ok ho h1 hX hrec h
        obtain ⟨env'', s'', q3, q4⟩ := opsT_ok hX hrec l (j + 1) (fun i => by have := hl (i + 1); simpa [Nat.add_assoc, Nat.add_comm 1 i] using this) h2 q1
        refine ⟨env'', s'', q3, fun ρ w a hr hg hE Q hQ => ?_⟩
        show wpOps P ops Q (List.range' j (l.length + 1)) a w
        rw [List.range'_succ, wpOps_cons]
        refine q2 ρ w a hr hg hE _ Q ?_
        intro ρ' w' a' g1 g2 g3
        exact q4 ρ' w' a' g2 (hg.mono g1.le) g3 Q (fun ρ'' w'' a'' m1 m2 m3 => hQ ρ'' w'' a'' (g1.trans m1) m2 m3)
end Go.Eng

set_option linter.constructorNameAsVariable false
set_option linter.unusedVariables false
set_option linter.unusedSimpArgs false
namespace Go.Eng
variable {P : Program} {γ : Gam} {Df : List Deferred}

/-- The rounds of a loop, from the head of one on. -/
def LoopWp (P : Program) (c : Code) (Q : Exit → Go.Act → World → Prop) (a : Go.Act) (w : World) : Prop :=
  ∀ (b : Frame) (k : List Item) (cs : List Frame), ∃ e a' w', Q e a' w' ∧ Arrives P (lone (b.at a (.code c :: .inLoop c :: k)) cs w) b k cs e a' w'

theorem loop_of {c : Code} {Q : Exit → Go.Act → World → Prop} {a : Go.Act} {w : World} (h : LoopWp P c Q a w) : (Code.loop c).wp P Q a w := fun b k cs =>
  let ⟨e, a', w', hq, harr⟩ := h b k cs; ⟨e, a', w', hq, .of_steps (.one step_loop) harr⟩

theorem loop_round {c : Code} {Q : Exit → Go.Act → World → Prop} {a : Go.Act} {w : World} (h : c.wp P (Exit.then (LoopWp P c Q) Q) a w) : LoopWp P c Q a w := by
  intro b k cs
  obtain ⟨e, a₁, w₁, hq, harr⟩ := h b (.inLoop c :: k) cs
  cases e with
  | normal =>
    obtain ⟨e₂, a₂, w₂, hq₂, harr₂⟩ := hq b k cs
    exact ⟨e₂, a₂, w₂, hq₂, .of_steps (Steps.trans harr (.one step_inLoop)) harr₂⟩
  | exit id => exact ⟨_, a₁, w₁, hq, .pass (x := .inLoop c) rfl (fun _ _ => .inl (by simp)) harr⟩
  | goto l => exact ⟨_, a₁, w₁, hq, .pass (x := .inLoop c) rfl (fun _ _ => .inl (by simp)) harr⟩
  | ret => exact ⟨_, a₁, w₁, hq, .pass (x := .inLoop c) rfl (fun _ _ => .inl (by simp)) harr⟩
  | panic ch => exact ⟨_, a₁, w₁, hq, .pass (x := .inLoop c) rfl (fun _ _ => .inl (by simp)) harr⟩
  | outgrown => exact ⟨_, a₁, w₁, hq, .pass (x := .inLoop c) rfl (fun _ _ => .inl (by simp)) harr⟩

/-- What is left of a scope. -/
def ScopeWp (P : Program) (body c : Code) (Q : Exit → Go.Act → World → Prop) (a : Go.Act) (w : World) : Prop :=
  ∀ (b : Frame) (k : List Item) (cs : List Frame), ∃ e a' w', Q e a' w' ∧ Arrives P (lone (b.at a (.code c :: .inScope body :: k)) cs w) b k cs e a' w'

theorem scope_of {c : Code} {Q : Exit → Go.Act → World → Prop} {a : Go.Act} {w : World} (h : ScopeWp P c c Q a w) : (Code.scope c).wp P Q a w := fun b k cs =>
  let ⟨e, a', w', hq, harr⟩ := h b k cs; ⟨e, a', w', hq, .of_steps (.one step_scope) harr⟩

def inScopeQ (P : Program) (body : Code) (Q : Exit → Go.Act → World → Prop) : Exit → Go.Act → World → Prop
  | .goto l, a, w => match findLabel body l with
    | some rest => ScopeWp P body rest Q a w
    | none => Q (.goto l) a w
  | e, a, w => Q e a w

theorem scope_round {body c : Code} {Q : Exit → Go.Act → World → Prop} {a : Go.Act} {w : World} (h : c.wp P (inScopeQ P body Q) a w) : ScopeWp P body c Q a w := by
  intro b k cs
  obtain ⟨e, a₁, w₁, hq, harr⟩ := h b (.inScope body :: k) cs
  cases e with
  | normal => exact ⟨.normal, a₁, w₁, hq, Steps.trans harr (.one step_inScope)⟩
  | exit id => exact ⟨.exit id, a₁, w₁, hq, fun k' hk => harr k' (by simp [exitTo, hk])⟩
  | goto l =>
    cases hl : findLabel body l with
    | none =>
      simp only [inScopeQ, hl] at hq
      exact ⟨.goto l, a₁, w₁, hq, fun k' hk => harr k' (by simp [gotoIn, hl, hk])⟩
    | some rest =>
      simp only [inScopeQ, hl] at hq
      obtain ⟨e₂, a₂, w₂, hq₂, harr₂⟩ := hq b k cs
      exact ⟨e₂, a₂, w₂, hq₂, .of_steps (harr _ (by simp [gotoIn, hl])) harr₂⟩
  | ret => exact ⟨_, a₁, w₁, hq, harr⟩
  | panic ch => exact ⟨_, a₁, w₁, hq, harr⟩
  | outgrown => exact ⟨_, a₁, w₁, hq, harr⟩

def exOf : Ex → Exit
  | .normal => .normal
  | .exit i => .exit i
  | .goto l => .goto l
  | .ret => .ret
def goOn (kn : KE) (kx : KX) : Ex → Env → St → R
  | .normal => kn
  | e => kx e

/-- A piece of code, from here to there. -/
def Ends (P : Program) (γ : Gam) (n : Nat) (s : St) (env : Env) (kn : KE) (kx : KX) (v1 : IV) (s1 : St) (W : (Exit → Go.Act → World → Prop) → Go.Act → World → Prop) : Prop :=
  ∃ e env' s', goOn kn kx e env' s' = .ok v1 s1 ∧ ∀ {Df : List Deferred} ρ w a, Rel P γ ρ s w → Glob P ρ → ER γ Df n ρ env a → ∀ Q : Exit → Go.Act → World → Prop,
    (∀ ρ' w' a', Goes ρ s w ρ' s' w' → Rel P γ ρ' s' w' → ER γ Df n ρ' env' a' → Q (exOf e) a' w') → W Q a w

structure RunsOk (P : Program) (γ : Gam) (r : Runs) : Prop where
  l : ∀ n b env s kn kx v1 s1, r.l n b env s kn kx = .ok v1 s1 → Ends P γ n s env kn kx v1 s1 (LoopWp P b)
  s : ∀ n b c env s kn kx v1 s1, r.s n b c env s kn kx = .ok v1 s1 → Ends P γ n s env kn kx v1 s1 (ScopeWp P b c)
  f : RecOk P γ r.f

/-- Regions that draw their order. -/
def DrawnOk (P : Program) (γ : Gam) : Prop := ∀ n (ops : Array Oper) f, drawnT P n ops.toList = .mk f → ∀ X rec, ExtOk P γ X → RecOk P γ rec → ∀ env s k v1 s1, f X rec env s k = .ok v1 s1 →
  ∃ env' s', k env' s' = .ok v1 s1 ∧ Moves P γ n s env s' env' (fun Q a w => ∀ id, (Code.region id ops true).wp P Q a w)

theorem VR.bool_inv {ρ : Rho} {t : Bool} {v' : Value} (h : VR ρ γ (.bool t) v') : v' = .bool t := by cases h; rfl

theorem code_ok (hD : DrawnOk P γ) {n : Nat} {X : Ext} {r : Runs} (hX : ExtOk P γ X) (hr : RunsOk P γ r) : ∀ (c : Code) {F}, codeT P n c = .mk F → ∀ env s kn kx v1 s1, F X r env s kn kx = .ok v1 s1 →
    Ends P γ n s env kn kx v1 s1 (fun Q a w => c.wp P Q a w) := by
  intro c
  induction c with
  | skip =>
    intro F hF env s kn kx v1 s1 h
    cases hF
    exact ⟨.normal, env, s, h, fun ρ w a hrel hg hE Q hQ => wp_skip (hQ ρ w a (Goes.refl ρ s w) hrel hE)⟩
  | label l =>
    intro F hF env s kn kx v1 s1 h
    cases hF
    exact ⟨.normal, env, s, h, fun ρ w a hrel hg hE Q hQ => wp_label (hQ ρ w a (Goes.refl ρ s w) hrel hE)⟩
  | exit id =>
    intro F hF env s kn kx v1 s1 h
    cases hF
    exact ⟨.exit id, env, s, h, fun ρ w a hrel hg hE Q hQ => wp_exit (hQ ρ w a (Goes.refl ρ s w) hrel hE)⟩
  | goto l =>
    intro F hF env s kn kx v1 s1 h
    cases hF
    exact ⟨.goto l, env, s, h, fun ρ w a hrel hg hE Q hQ => wp_goto (hQ ρ w a (Goes.refl ρ s w) hrel hE)⟩
  | ret =>
    intro F hF env s kn kx v1 s1 h
    cases hF
    exact ⟨.ret, env, s, h, fun ρ w a hrel hg hE Q hQ => wp_ret (hQ ρ w a (Goes.refl ρ s w) hrel hE)⟩
  | region id ops draw =>
    intro F hF env s kn kx v1 s1 h
    change ofStep (regionT P n ops.toList draw) = CB.mk F at hF
    cases draw with
    | false =>
      change ofStep (opsT P n ops.toList ops.toList) = CB.mk F at hF
      cases hs : opsT P n ops.toList ops.toList with
      | mk f =>
        rw [hs] at hF; cases hF
        obtain ⟨env', s', q1, q2⟩ := opsT_ok hX hr.f ops.toList 0 (fun i => by simp) hs h
        refine ⟨.normal, env', s', q1, fun ρ w a hrel hg hE Q hQ => wp_region ?_⟩
        have := q2 ρ w a hrel hg hE Q hQ
        rw [Array.length_toList] at this
        rwa [List.range_eq_range']
    | true =>
      change ofStep (drawnT P n ops.toList) = CB.mk F at hF
      cases hs : drawnT P n ops.toList with
      | mk f =>
        rw [hs] at hF; cases hF
        obtain ⟨env', s', q1, q2⟩ := hD n ops f hs X r.f hX hr.f env s kn v1 s1 h
        exact ⟨.normal, env', s', q1, fun ρ w a hrel hg hE Q hQ => q2 ρ w a hrel hg hE Q hQ id⟩
  | seq x y ihx ihy =>
    intro F hF env s kn kx v1 s1 h
    unfold codeT at hF
    cases h1 : codeT P n x with
    | mk f =>
      rw [h1] at hF
      simp only at hF
      cases h2 : codeT P n y with
      | mk g =>
        rw [h2] at hF; cases hF
        obtain ⟨e, env', s', q1, q2⟩ := ihx h1 env s _ kx v1 s1 h
        cases e with
        | normal =>
          obtain ⟨e2, env2, s2, q3, q4⟩ := ihy h2 env' s' kn kx v1 s1 q1
          refine ⟨e2, env2, s2, q3, fun ρ w a hrel hg hE Q hQ => wp_seq (q2 ρ w a hrel hg hE _ ?_)⟩
          intro ρ' w' a' g1 g2 g3
          exact q4 ρ' w' a' g2 (hg.mono g1.le) g3 Q (fun ρ'' w'' a'' m1 m2 m3 => hQ ρ'' w'' a'' (g1.trans m1) m2 m3)
        | exit i => exact ⟨.exit i, env', s', q1, fun ρ w a hrel hg hE Q hQ => wp_seq (q2 ρ w a hrel hg hE _ hQ)⟩
        | goto i => exact ⟨.goto i, env', s', q1, fun ρ w a hrel hg hE Q hQ => wp_seq (q2 ρ w a hrel hg hE _ hQ)⟩
        | ret => exact ⟨.ret, env', s', q1, fun ρ w a hrel hg hE Q hQ => wp_seq (q2 ρ w a hrel hg hE _ hQ)⟩
  | cond c x y ihx ihy =>
    intro F hF env s kn kx v1 s1 h
    unfold codeT at hF
    cases h0 : evT P n c with
    | no => rw [h0] at hF; cases hF; cases h
    | mk fc =>
      rw [h0] at hF
      simp only at hF
      cases h1 : codeT P n x with
      | mk f =>
        rw [h1] at hF
        simp only at hF
        cases h2 : codeT P n y with
        | mk g =>
          rw [h2] at hF; cases hF
          change IV.onBool .no (fun t => Bool.rec (motive := fun _ => R) (g X r env s kn kx) (f X r env s kn kx) t) (fc env) = .ok v1 s1 at h
          generalize hv : fc env = v at h
          cases v <;> (try (cases h; done))
          rename_i t
          change Bool.rec (motive := fun _ => R) (g X r env s kn kx) (f X r env s kn kx) t = .ok v1 s1 at h
          have hc : ∀ {Df : List Deferred} {ρ : Rho} {a : Go.Act}, Glob P ρ → ER γ Df n ρ env a → a.eval c = .bool t := fun {Df ρ a} hg hE => by
            have := hE.op hg c fc h0
            rw [hv] at this
            exact this.bool_inv
          cases t with
          | true =>
            obtain ⟨e, env', s', q1, q2⟩ := ihx h1 env s kn kx v1 s1 h
            exact ⟨e, env', s', q1, fun ρ w a hrel hg hE Q hQ => wp_cond_true (hc hg hE) (q2 ρ w a hrel hg hE Q hQ)⟩
          | false =>
            obtain ⟨e, env', s', q1, q2⟩ := ihy h2 env s kn kx v1 s1 h
            exact ⟨e, env', s', q1, fun ρ w a hrel hg hE Q hQ => wp_cond_false (hc hg hE) (q2 ρ w a hrel hg hE Q hQ)⟩
  | block id b ih =>
    intro F hF env s kn kx v1 s1 h
    unfold codeT at hF
    cases h1 : codeT P n b with
    | mk f =>
      rw [h1] at hF; cases hF
      obtain ⟨e, env', s', q1, q2⟩ := ih h1 env s kn (leaves id kn kx) v1 s1 h
      cases e with
      | normal => exact ⟨.normal, env', s', q1, fun ρ w a hrel hg hE Q hQ => wp_block (q2 ρ w a hrel hg hE _ hQ)⟩
      | exit i =>
        change (match Nat.beq i id with | true => kn env' s' | false => kx (.exit i) env' s') = _ at q1
        cases hb : Nat.beq i id with
        | true =>
          rw [hb] at q1
          have e := Nat.eq_of_beq_eq_true hb
          refine ⟨.normal, env', s', q1, fun ρ w a hrel hg hE Q hQ => wp_block (q2 ρ w a hrel hg hE _ ?_)⟩
          intro ρ' w' a' g1 g2 g3
          show (if i = id then Q .normal a' w' else Q (.exit i) a' w')
          rw [if_pos e]
          exact hQ ρ' w' a' g1 g2 g3
        | false =>
          rw [hb] at q1
          have e : i ≠ id := fun e => by subst e; rw [Nat.beq_refl] at hb; cases hb
          refine ⟨.exit i, env', s', q1, fun ρ w a hrel hg hE Q hQ => wp_block (q2 ρ w a hrel hg hE _ ?_)⟩
          intro ρ' w' a' g1 g2 g3
          show (if i = id then Q .normal a' w' else Q (.exit i) a' w')
          rw [if_neg e]
          exact hQ ρ' w' a' g1 g2 g3
      | goto i => exact ⟨.goto i, env', s', q1, fun ρ w a hrel hg hE Q hQ => wp_block (q2 ρ w a hrel hg hE _ hQ)⟩
      | ret => exact ⟨.ret, env', s', q1, fun ρ w a hrel hg hE Q hQ => wp_block (q2 ρ w a hrel hg hE _ hQ)⟩
  | loop b ih =>
    intro F hF env s kn kx v1 s1 h
    cases hF
    obtain ⟨e, env', s', q1, q2⟩ := hr.l n b env s kn kx v1 s1 h
    exact ⟨e, env', s', q1, fun ρ w a hrel hg hE Q hQ => loop_of (q2 ρ w a hrel hg hE Q hQ)⟩
  | scope b ih =>
    intro F hF env s kn kx v1 s1 h
    cases hF
    obtain ⟨e, env', s', q1, q2⟩ := hr.s n b b env s kn kx v1 s1 h
    exact ⟨e, env', s', q1, fun ρ w a hrel hg hE Q hQ => scope_of (q2 ρ w a hrel hg hE Q hQ)⟩
  | _ =>
    intro F hF env s kn kx v1 s1 h
    cases hF; cases h

theorem runL_ok (hD : DrawnOk P γ) {X : Ext} {r : Runs} (hX : ExtOk P γ X) (hr : RunsOk P γ r) : ∀ n b env s kn kx v1 s1, runL P X r n b env s kn kx = .ok v1 s1 → Ends P γ n s env kn kx v1 s1 (LoopWp P b) := by
  intro n b env s kn kx v1 s1 h
  unfold runL at h
  split at h
  rename_i f hf
  obtain ⟨e, env', s', q1, q2⟩ := code_ok hD hX hr b hf env s _ kx v1 s1 h
  cases e with
  | normal =>
    obtain ⟨e2, env2, s2, q3, q4⟩ := hr.l n b env' s' kn kx v1 s1 q1
    refine ⟨e2, env2, s2, q3, fun ρ w a hrel hg hE Q hQ => loop_round (q2 ρ w a hrel hg hE _ ?_)⟩
    intro ρ' w' a' g1 g2 g3
    exact q4 ρ' w' a' g2 (hg.mono g1.le) g3 Q (fun ρ'' w'' a'' m1 m2 m3 => hQ ρ'' w'' a'' (g1.trans m1) m2 m3)
  | exit i => exact ⟨.exit i, env', s', q1, fun ρ w a hrel hg hE Q hQ => loop_round (q2 ρ w a hrel hg hE _ hQ)⟩
  | goto i => exact ⟨.goto i, env', s', q1, fun ρ w a hrel hg hE Q hQ => loop_round (q2 ρ w a hrel hg hE _ hQ)⟩
  | ret => exact ⟨.ret, env', s', q1, fun ρ w a hrel hg hE Q hQ => loop_round (q2 ρ w a hrel hg hE _ hQ)⟩

theorem runS_ok (hD : DrawnOk P γ) {X : Ext} {r : Runs} (hX : ExtOk P γ X) (hr : RunsOk P γ r) : ∀ n b c env s kn kx v1 s1, runS P X r n b c env s kn kx = .ok v1 s1 → Ends P γ n s env kn kx v1 s1 (ScopeWp P b c) := by
  intro n b c env s kn kx v1 s1 h
  unfold runS at h
  split at h
  rename_i f hf
  obtain ⟨e, env', s', q1, q2⟩ := code_ok hD hX hr c hf env s kn _ v1 s1 h
  cases e with
  | normal => exact ⟨.normal, env', s', q1, fun ρ w a hrel hg hE Q hQ => scope_round (q2 ρ w a hrel hg hE _ hQ)⟩
  | exit i => exact ⟨.exit i, env', s', q1, fun ρ w a hrel hg hE Q hQ => scope_round (q2 ρ w a hrel hg hE _ hQ)⟩
  | ret => exact ⟨.ret, env', s', q1, fun ρ w a hrel hg hE Q hQ => scope_round (q2 ρ w a hrel hg hE _ hQ)⟩
  | goto i =>
    change (match findLabel b i with | some rest => r.s n b rest env' s' kn kx | none => kx (.goto i) env' s') = _ at q1
    cases hl : findLabel b i with
    | none =>
      rw [hl] at q1
      refine ⟨.goto i, env', s', q1, fun ρ w a hrel hg hE Q hQ => scope_round (q2 ρ w a hrel hg hE _ ?_)⟩
      intro ρ' w' a' g1 g2 g3
      show (match findLabel b i with | some rest => ScopeWp P b rest Q a' w' | none => Q (.goto i) a' w')
      rw [hl]
      exact hQ ρ' w' a' g1 g2 g3
    | some rest =>
      rw [hl] at q1
      obtain ⟨e2, env2, s2, q3, q4⟩ := hr.s n b rest env' s' kn kx v1 s1 q1
      refine ⟨e2, env2, s2, q3, fun ρ w a hrel hg hE Q hQ => scope_round (q2 ρ w a hrel hg hE _ ?_)⟩
      intro ρ' w' a' g1 g2 g3
      show (match findLabel b i with | some rest => ScopeWp P b rest Q a' w' | none => Q (.goto i) a' w')
      rw [hl]
      exact q4 ρ' w' a' g2 (hg.mono g1.le) g3 Q (fun ρ'' w'' a'' m1 m2 m3 => hQ ρ'' w'' a'' (g1.trans m1) m2 m3)
end Go.Eng

set_option linter.constructorNameAsVariable false
set_option linter.unusedVariables false
set_option linter.unusedSimpArgs false
namespace Go.Eng
variable {P : Program} {γ : Gam} {Df : List Deferred}

theorem argsT_ok {n : Nat} : ∀ (m i : Nat) {f}, argsT n m i = .mk f → (m = 0 ∨ i + m ≤ n) ∧ ∀ (l : List IV) (env env' : Env), f l env = some env' → l.length = m ∧
    ∀ t ft gt, slotT n t = .mk ft gt → ft env' = if i ≤ t ∧ t < i + m then l.getD (t - i) undefI else ft env
  | 0, i, f, h => by
    cases h
    refine ⟨.inl rfl, fun l env env' hl => ?_⟩
    cases l with
    | nil => cases hl; exact ⟨rfl, fun t ft gt _ => by rw [if_neg (by omega)]⟩
    | cons v l => cases hl
  | m + 1, i, f, h => by
    unfold argsT at h
    cases hs : slotT n i with
    | no => rw [hs] at h; cases h
    | mk fi gi =>
      rw [hs] at h
      simp only at h
      cases ha : argsT n m (i + 1) with
      | no => rw [ha] at h; cases h
      | mk f' =>
        rw [ha] at h; cases h
        have hin := slot_lt hs
        obtain ⟨h1, h2⟩ := argsT_ok m (i + 1) ha
        refine ⟨.inr (by rcases h1 with h1 | h1 <;> omega), fun l env env' hl => ?_⟩
        cases l with
        | nil => cases hl
        | cons v l =>
          change f' l (gi v env) = some env' at hl
          obtain ⟨q1, q2⟩ := h2 l _ _ hl
          refine ⟨by simp [q1], fun t ft gt ht => ?_⟩
          rw [q2 t ft gt ht, slot_put hs ht]
          by_cases e : t = i
          · subst e
            rw [if_neg (by omega), if_pos rfl, if_pos (by omega), Nat.sub_self]; rfl
          · by_cases e2 : i + 1 ≤ t ∧ t < i + 1 + m
            · rw [if_pos e2, if_pos (by omega)]
              obtain ⟨d, hd⟩ : ∃ d, t - i = d + 1 := ⟨t - i - 1, by omega⟩
              rw [hd, show t - (i + 1) = d by omega]; rfl
            · rw [if_neg e2, if_neg e, if_neg (by omega)]

theorem VRs.getD {ρ : Rho} : ∀ {l : List IV} {l' : List Value}, VRs ρ γ l l' → ∀ k, VR ρ γ (l.getD k undefI) (l'.getD k undef)
  | _, _, .nil, k => .tup [] #[] .nil
  | _, _, .cons _ _ _ _ h _, 0 => h
  | _, _, .cons _ _ _ _ _ hs, k + 1 => VRs.getD hs k

theorem enter_ER {n m : Nat} {ρ : Rho} {f} (hf : argsT n m 0 = .mk f) {l : List IV} {l' : List Value} {env : Env} (he : f l .e = some env) (hl : VRs ρ γ l l') :
    ER γ [] n ρ env { tmps := l'.toArray ++ Array.replicate (n - l'.toArray.size) undef, defers := [] } := by
  obtain ⟨h1, h2⟩ := argsT_ok m 0 hf
  obtain ⟨h3, h4⟩ := h2 l _ _ he
  have hlen := hl.length
  refine ⟨by simp; omega, rfl, fun t ft gt ht => ?_⟩
  have htn := slot_lt ht
  rw [h4 t ft gt ht, slot_e ht]
  by_cases e : t < m
  · rw [if_pos (by omega)]
    have : (l'.toArray ++ Array.replicate (n - l'.toArray.size) undef).getD t undef = l'.getD (t - 0) undef := by
      rw [Array.getD_eq_getD_getElem?, Array.getElem?_append_left (by simp; omega), List.getD_eq_getElem?_getD]
      simp
    rw [this]
    exact hl.getD _
  · rw [if_neg (by omega)]
    have : (l'.toArray ++ Array.replicate (n - l'.toArray.size) undef).getD t undef = undef := by
      rw [Array.getD_eq_getD_getElem?, Array.getElem?_append_right (by simp; omega), Array.getElem?_replicate]
      split <;> rfl
    rw [this]
    exact .tup [] #[] .nil

theorem loadV_sim {ρ : Rho} {s : St} {w : World} {t b o : Nat} {p : Pl} {v : IV} (h : Rel P γ ρ s w) (hb : ρ b = some p) (hr : loadV P t b o s = some v) :
    ∃ v', (loadVar t ⟨p.blk, p.shift + o, none⟩).run P w = .ok v' w ∧ VR ρ γ v v' := by
  unfold loadV at hr
  split at hr <;> (try (cases hr; done))
  · rename_i ht
    split at hr <;> (try (cases hr; done))
    rename_i n hn
    cases hg : s.rd b o n with
    | none => rw [hg] at hr; cases hr
    | some l =>
      rw [hg] at hr
      cases hr
      obtain ⟨arr, e, fr, h1, h2, h3⟩ := h.rd hb hg
      refine ⟨_, ?_, .agg l _ h3⟩
      unfold loadVar
      simp only [Sem.run_bind, Sem.run_pure, Result.andThen_ok, run_isAgg ht, if_true, run_sizeOf hn, run_loadCells h1 h2]
  · rename_i ht
    cases hg : s.get b with
    | cells c len e fz str =>
      rw [hg] at hr
      change Bool.rec (motive := fun _ => Option IV) none (some (PT.get undefI c o)) (Nat.ble (o + 1) len) = some v at hr
      cases hbl : Nat.ble (o + 1) len with
      | false => rw [hbl] at hr; cases hr
      | true =>
        rw [hbl] at hr
        cases hr
        have hlen := Nat.le_of_ble_eq_true hbl
        obtain ⟨arr, fr, h1, h2⟩ := h.row hb hg
        cases h2 with
        | cells _ _ _ _ _ _ _ hl' ha hc hf hs htg hz =>
          obtain ⟨v', hv1, hv2⟩ := hc o (by omega)
          refine ⟨v', ?_, hv2⟩
          unfold loadVar
          simp only [Sem.run_bind, Sem.run_pure, Result.andThen_ok, run_isAgg ht, Bool.false_eq_true, if_false, run_load, cell_eq h1, hv1]
    | map es cl => rw [hg] at hr; cases hr
    | siter r p => rw [hg] at hr; cases hr
    | dead => rw [hg] at hr; cases hr

def resM (tmps : Array Value) : ResultVar → Sem Value
  | .tmp t => pure (tmps.getD t undef)
  | .cell a t => do loadVar t (← asAddr (tmps.getD a undef))

theorem resT_ok {n : Nat} {ρ : Rho} {s : St} {w : World} {env : Env} {a : Go.Act} (h : Rel P γ ρ s w) (hE : ER γ Df n ρ env a) : ∀ (l : List ResultVar) {g}, resT P n l = .mk g → ∀ {vs}, g env s = some vs →
    ∃ vs' : List Value, (l.mapM (resM a.tmps)).run P w = .ok vs' w ∧ VRs ρ γ vs vs'
  | [], g, hg, vs, hv => by
    cases hg; cases hv
    exact ⟨[], rfl, .nil⟩
  | x :: l, g, hg, vs, hv => by
    unfold resT at hg
    cases hs : slotT n (resSlot x) with
    | no => rw [hs] at hg; cases hg
    | mk f gs =>
      rw [hs] at hg
      simp only at hg
      cases hl : resT P n l with
      | no => rw [hl] at hg; cases hg
      | mk g' =>
        rw [hl] at hg; cases hg
        change consR (resOne P s (f env) x) (g' env s) = some vs at hv
        unfold consR at hv
        split at hv <;> (try (cases hv; done))
        rename_i v hv1
        split at hv <;> (try (cases hv; done))
        rename_i rest hv2
        cases hv
        obtain ⟨rest', q1, q2⟩ := resT_ok h hE l hl hv2
        have hslot := hE.slots _ f gs hs
        have hx : ∃ v', (resM a.tmps x).run P w = .ok v' w ∧ VR ρ γ v v' := by
          cases x with
          | tmp t => cases hv1; exact ⟨_, rfl, hslot⟩
          | cell c t =>
            change VR ρ γ (f env) (a.tmps.getD c undef) at hslot
            unfold resOne at hv1
            simp only at hv1
            generalize f env = fe at hv1 hslot
            generalize hcv : a.tmps.getD c undef = cv at hslot
            cases hslot <;> (try (cases hv1; done))
            rename_i b o p hb
            obtain ⟨v', m1, m2⟩ := loadV_sim h hb hv1
            refine ⟨v', ?_, m2⟩
            unfold resM
            simp only [hcv, asAddr, Sem.run_bind, Sem.run_pure, Result.andThen_ok, m1]
        obtain ⟨v', q3, q4⟩ := hx
        refine ⟨v' :: rest', ?_, .cons _ _ _ _ q4 q2⟩
        simp only [List.mapM_cons, Sem.run_bind, q3, q1, Result.andThen_ok, Sem.run_pure]

theorem results_ok {n : Nat} {ρ : Rho} {s : St} {w : World} {env : Env} {a : Go.Act} {fn : Func} (h : Rel P γ ρ s w) (hE : ER γ Df n ρ env a) {g} (hg : resT P n fn.results.toList = .mk g) {vs} (hv : g env s = some vs) :
    ∃ v', (results fn a.tmps).run P w = .ok v' w ∧ VR ρ γ (oneOr vs) v' := by
  obtain ⟨vs', q1, q2⟩ := resT_ok h hE fn.results.toList hg hv
  have e : results fn a.tmps = (do let vs ← fn.results.mapM (resM a.tmps); pure (if h : vs.size = 1 then vs[0] else .tuple vs)) := by
    unfold results
    congr 2
  have hm : (fn.results.mapM (resM a.tmps)).run P w = .ok vs'.toArray w := by
    rw [Array.mapM_eq_mapM_toList, Sem.run_map, q1]; rfl
  refine ⟨if h : vs'.toArray.size = 1 then vs'.toArray[0] else .tuple vs'.toArray, ?_, ?_⟩
  · rw [e]; simp only [Sem.run_bind, hm, Result.andThen_ok, Sem.run_pure]
  · have hlen := q2.length
    match vs, vs', q2 with
    | [], [], q2 => exact .tup [] #[] .nil
    | [v], [v'], .cons _ _ _ _ hv _ => exact hv
    | v :: v2 :: l, v' :: v2' :: l', q2 => exact .tup _ _ q2

theorem runF_ok (hD : DrawnOk P γ) {X : Ext} {r : Runs} (hX : ExtOk P γ X) (hr : RunsOk P γ r) : RecOk P γ (runF P X r) := by
  intro f args s k v1 s1 h
  unfold runF at h
  split at h
  rename_i g hg
  unfold fnT at hg
  cases hf : funI P f with
  | none => rw [hf] at hg; cases hg; cases h
  | some fn =>
    rw [hf] at hg
    simp only at hg
    cases hb : fn.body with
    | none => rw [hb] at hg; cases hg; cases h
    | some c =>
      rw [hb] at hg
      simp only at hg
      unfold fnAt at hg
      cases hc : codeT P fn.ntmps c with
      | mk F =>
        rw [hc] at hg
        simp only at hg
        cases ha : argsT fn.ntmps (fn.params.size + fn.nfree) 0 with
        | no => rw [ha] at hg; cases hg; cases h
        | mk fa =>
          rw [ha] at hg
          simp only at hg
          cases hres : resT P fn.ntmps fn.results.toList with
          | no => rw [hres] at hg; cases hg; cases h
          | mk res =>
            rw [hres] at hg; cases hg
            dsimp only at h
            cases henv : fa args .e with
            | none => rw [henv] at h; cases h
            | some env =>
              rw [henv] at h
              change F X r env s (fun env s => resR k s (res env s)) (atEnd fun env s => resR k s (res env s)) = .ok v1 s1 at h
              obtain ⟨e, env', s', q1, q2⟩ := code_ok hD hX hr c hc env s _ _ v1 s1 h
              have hend : ∃ vs, res env' s' = some vs ∧ k (oneOr vs) s' = .ok v1 s1 ∧ (e = .normal ∨ e = .ret) := by
                have key : resR k s' (res env' s') = .ok v1 s1 → ∃ vs, res env' s' = some vs ∧ k (oneOr vs) s' = .ok v1 s1 := by
                  intro hk
                  unfold resR at hk
                  split at hk <;> (try (cases hk; done))
                  rename_i vs hvs
                  exact ⟨vs, hvs, hk⟩
                cases e with
                | normal => obtain ⟨vs, m1, m2⟩ := key q1; exact ⟨vs, m1, m2, .inl rfl⟩
                | ret => obtain ⟨vs, m1, m2⟩ := key q1; exact ⟨vs, m1, m2, .inr rfl⟩
                | exit i => cases q1
                | goto i => cases q1
              obtain ⟨vs, m1, m2, m3⟩ := hend
              refine ⟨oneOr vs, s', m2, fun ρ w args' hrel hgl hv => ?_⟩
              refine calls_of_wp (funI_eq hf) hb ?_
              refine q2 ρ w _ hrel hgl (enter_ER ha henv hv) _ ?_
              intro ρ' w' a' g1 g2 g3
              obtain ⟨v', p1, p2⟩ := results_ok g2 g3 hres m1
              rcases m3 with rfl | rfl
              · exact ⟨g3.defers, v', p1, v', ρ', rfl, g1, g2, p2⟩
              · exact ⟨g3.defers, v', p1, v', ρ', rfl, g1, g2, p2⟩

/-- The whole of it. -/
theorem run_ok (hD : DrawnOk P γ) {X : Ext} (hX : ExtOk P γ X) : ∀ m, RunsOk P γ (run P X m)
  | 0 => { l := fun _ _ _ _ _ _ _ _ h => (nomatch (show R.no = R.ok _ _ from h)), s := fun _ _ _ _ _ _ _ _ _ h => (nomatch (show R.no = R.ok _ _ from h)), f := fun _ _ _ _ _ _ h => (nomatch (show R.no = R.ok _ _ from h)) }
  | m + 1 => ⟨runL_ok hD hX (run_ok hD hX m), runS_ok hD hX (run_ok hD hX m), runF_ok hD hX (run_ok hD hX m)⟩
end Go.Eng
