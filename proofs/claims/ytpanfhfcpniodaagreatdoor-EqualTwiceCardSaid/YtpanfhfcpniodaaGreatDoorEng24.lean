/- A part of the proof: an interpreter of the program, shown right once, and the laws that it computes. -/
import Derived.Test.YtpanfhfcpniodaaGreatDoorEng23
set_option linter.constructorNameAsVariable false
set_option linter.unusedVariables false
set_option linter.unusedSimpArgs false
namespace Go.Eng
variable {P : Program} {γ : Gam}

/-- The temporaries, here and there. -/
structure ER (γ : Gam) (n : Nat) (ρ : Rho) (env : Env) (a : Go.Act) : Prop where
  size : a.tmps.size = n
  defers : a.defers = []
  slots : ∀ t f g, slotT n t = .mk f g → VR ρ γ (f env) (a.tmps.getD t undef)

theorem ER.mono {n : Nat} {ρ ρ' : Rho} {env : Env} {a : Go.Act} (h : ER γ n ρ env a) (hl : Le ρ ρ') : ER γ n ρ' env a := ⟨h.size, h.defers, fun t f g hs => (h.slots t f g hs).mono hl⟩

theorem ev_const {n : Nat} {ρ : Rho} {env : Env} {a : Go.Act} {v : Value} : OpR P γ n ρ env a (.const v) := by
  intro f hf
  change (match ofValue v with | some x => Ev.mk fun _ => x | none => Ev.no) = Ev.mk f at hf
  split at hf <;> (try (cases hf; done))
  rename_i x hx
  cases hf
  exact VR.ofValue hx
theorem ev_global {n : Nat} {ρ : Rho} {env : Env} {a : Go.Act} {g : Nat} (hg : Glob P ρ) : OpR P γ n ρ env a (.global g) := by
  intro f hf
  cases hf
theorem ev_func {n : Nat} {ρ : Rho} {env : Env} {a : Go.Act} {g : Nat} : OpR P γ n ρ env a (.func g) := by
  intro f hf
  cases hf
  exact .fn _ _ _ _ _ rfl .nil .nil
theorem ev_tmp {n : Nat} {ρ : Rho} {env : Env} {a : Go.Act} {t : Nat} (h : ∀ f g, slotT n t = .mk f g → VR ρ γ (f env) (a.tmps.getD t undef)) : OpR P γ n ρ env a (.tmp t) := by
  intro f hf
  change evSlot (slotT n t) = Ev.mk f at hf
  cases hs : slotT n t with
  | no => rw [hs] at hf; cases hf
  | mk f' g' => rw [hs] at hf; cases hf; exact h _ _ hs

theorem ER.op {n : Nat} {ρ : Rho} {env : Env} {a : Go.Act} (h : ER γ n ρ env a) (hg : Glob P ρ) (x : Operand) : OpR P γ n ρ env a x := by
  cases x with
  | tmp t => exact ev_tmp (h.slots t)
  | const v => exact ev_const
  | global g => exact ev_global hg
  | func f => exact ev_func
theorem ER.ops {n : Nat} {ρ : Rho} {env : Env} {a : Go.Act} (h : ER γ n ρ env a) (hg : Glob P ρ) (l : List Operand) : OpsR P γ n ρ env a l := fun x _ => h.op hg x

theorem getD_put {a : Go.Act} {d t : Nat} {v : Value} (hd : d < a.tmps.size) : (a.put (some d) v).tmps.getD t undef = if t = d then v else a.tmps.getD t undef := by
  simp only [Act.put, Array.getD_eq_getD_getElem?, Array.getElem?_setIfInBounds]
  by_cases h : d = t
  · subst h; simp [hd]
  · simp [h, Ne.symm h]

theorem outT_inv {n : Nat} {dst : Option Nat} {g : IV → Env → Env} (h : outT n dst = .mk g) : (dst = none ∧ g = fun _ env => env) ∨ ∃ d f, dst = some d ∧ slotT n d = .mk f g := by
  unfold outT at h
  cases dst with
  | none => cases h; exact .inl ⟨rfl, rfl⟩
  | some d =>
    simp only at h
    cases hs : slotT n d with
    | no => rw [hs] at h; cases h
    | mk f g' => rw [hs] at h; cases h; exact .inr ⟨d, f, rfl, hs⟩

theorem ER.put {n : Nat} {ρ ρ' : Rho} {env : Env} {a : Go.Act} {dst : Option Nat} {g : IV → Env → Env} {v : IV} {v' : Value} (h : ER γ n ρ env a) (hl : Le ρ ρ') (hd : outT n dst = .mk g) (hv : VR ρ' γ v v') : ER γ n ρ' (g v env) (a.put dst v') := by
  rcases outT_inv hd with ⟨rfl, rfl⟩ | ⟨d, f, rfl, hs⟩
  · exact h.mono hl
  · have hdn := slot_lt hs
    refine ⟨by simp [Act.put, h.size], h.defers, fun t f' g' hs' => ?_⟩
    rw [slot_put hs hs', getD_put (by rw [h.size]; exact hdn)]
    by_cases e : t = d
    · simp only [e, if_true]; exact hv
    · simp only [e, if_false]; exact (h.slots t f' g' hs').mono hl

/- guards -/
def boolOf : Value → Option Bool
  | .bool c => some c
  | _ => none
theorem guardR_inv {b : Bool} {v : IV} {skip run : R} {v1 : IV} {s1 : St} (h : guardR b v skip run = .ok v1 s1) : (∀ k, v ≠ .sym k) ∧ Bool.rec (motive := fun _ => R) skip run (wantedV b v) = .ok v1 s1 := by
  cases v <;> first
    | exact ⟨fun k e => (by cases e), h⟩
    | (cases h)
theorem onBool_rel {ρ : Rho} {v : IV} {v' : Value} (h : VR ρ γ v v') (hn : ∀ k, v ≠ .sym k) (b : Bool) : wantedV b v = (boolOf v' == some b) := by
  unfold wantedV
  cases h <;> first
    | (rename_i k hk hki hks hkl; exact absurd rfl (hn k))
    | (rename_i c; cases c <;> cases b <;> rfl)
    | (cases b <;> rfl)

theorem nth_getElem? {α : Type} (l : List α) (k : Nat) : nth l k = l[k]? := nth_eq l k

theorem guard_sim {n : Nat} {ρ : Rho} {env : Env} {a : Go.Act} {ops : Array Oper} {o : Oper} (hsz : a.tmps.size = n) (hslot : ∀ j b t f g, o.guard = some (j, b) → (∃ oj, ops[j]? = some oj ∧ oj.dst = some t) → slotT n t = .mk f g → VR ρ γ (f env) (a.tmps.getD t undef)) :
    match guardT n ops.toList o.guard with
    | .free => Region.wanted o (yielded ops a.tmps) = true
    | .never => Region.wanted o (yielded ops a.tmps) = false
    | .mk c b => (∀ k, c env ≠ .sym k) → Region.wanted o (yielded ops a.tmps) = wantedV b (c env)
    | .no => True := by
  unfold guardT
  cases hg : o.guard with
  | none => simp only; unfold Region.wanted; rw [hg]
  | some jb =>
    obtain ⟨j, b⟩ := jb
    simp only
    have hgo : guardOf ops.toList j = (ops[j]?).bind (·.dst) := by
      unfold guardOf
      rw [nth_getElem?, Array.getElem?_toList]
      cases ops[j]? <;> rfl
    rw [hgo]
    cases hb : (ops[j]?).bind (·.dst) with
    | none =>
      simp only
      unfold Region.wanted yielded
      simp only [hg, hb, Option.bind_none]
      rfl
    | some t =>
      simp only
      unfold gdSlot
      cases hs : slotT n t with
      | no => trivial
      | mk f g =>
        simp only
        have ht := slot_lt hs
        have hoj : ∃ oj, ops[j]? = some oj ∧ oj.dst = some t := by
          cases ho : ops[j]? with
          | none => rw [ho] at hb; cases hb
          | some oj => rw [ho] at hb; exact ⟨oj, rfl, hb⟩
        have hv := hslot j b t f g hg hoj hs
        intro hns
        rw [onBool_rel hv hns b]
        unfold Region.wanted yielded
        simp only [hg, hb, Option.bind_some]
        have e : a.tmps[t]? = some (a.tmps.getD t undef) := by
          rw [Array.getD_eq_getD_getElem?, Array.getElem?_eq_getElem (by omega)]; rfl
        rw [e]
        generalize a.tmps.getD t undef = q
        cases q <;> rfl

/-- From here to there. -/
def Moves (P : Program) (γ : Gam) (n : Nat) (s : St) (env : Env) (s' : St) (env' : Env) (W : (Exit → Go.Act → World → Prop) → Go.Act → World → Prop) : Prop :=
  ∀ ρ w a, Rel P γ ρ s w → Glob P ρ → ER γ n ρ env a → ∀ Q : Exit → Go.Act → World → Prop, (∀ ρ' w' a', Goes ρ s w ρ' s' w' → Rel P γ ρ' s' w' → ER γ n ρ' env' a' → Q .normal a' w') → W Q a w

/-- One operation with its guard. -/
theorem opT_ok {n : Nat} {ops : Array Oper} {o : Oper} {i : Nat} (ho : ops[i]? = some o) {f} (hf : opT P n ops.toList o = .mk f) {X : Ext} {rec : Rec} (hX : ExtOk P γ X) (hrec : RecOk P γ rec) {env : Env} {s : St} {k : KE} {v1 : IV} {s1 : St}
    (h : f X rec env s k = .ok v1 s1) : ∃ env' s', k env' s' = .ok v1 s1 ∧
      ∀ ρ w a, Rel P γ ρ s w → Glob P ρ → ER γ n ρ env a → ∀ (K : Go.Act → World → Prop) (Q : Exit → Go.Act → World → Prop), (∀ ρ' w' a', Goes ρ s w ρ' s' w' → Rel P γ ρ' s' w' → ER γ n ρ' env' a' → K a' w') → wpOp P ops Q i K a w := by
  unfold opT at hf
  cases hx : execT P n o.op with
  | mk fa =>
    rw [hx] at hf
    simp only at hf
    cases hout : outT n o.dst with
    | no => rw [hout] at hf; cases hf; cases h
    | mk g =>
      rw [hout] at hf
      simp only at hf
      have hact := exec_ok (P := P) (γ := γ) (n := n) o.op fa hx X rec hX hrec
      have hgd : ∀ {ρ : Rho} {a : Go.Act}, ER γ n ρ env a → _ := fun {ρ a} hE => guard_sim (γ := γ) (ρ := ρ) (env := env) (o := o) (ops := ops) hE.size (fun j b t f g _ _ hs => hE.slots t f g hs)
      -- it is run
      have run : ∀ k', fa X rec env s k' = .ok v1 s1 → (∀ v s, k' v s = k (g v env) s) → (∀ {ρ : Rho} {a : Go.Act}, ER γ n ρ env a → Region.wanted o (yielded ops a.tmps) = true) → ∃ env' s', k env' s' = .ok v1 s1 ∧
          ∀ ρ w a, Rel P γ ρ s w → Glob P ρ → ER γ n ρ env a → ∀ (K : Go.Act → World → Prop) (Q : Exit → Go.Act → World → Prop), (∀ ρ' w' a', Goes ρ s w ρ' s' w' → Rel P γ ρ' s' w' → ER γ n ρ' env' a' → K a' w') → wpOp P ops Q i K a w := by
        intro k' hk' hkk hw
        obtain ⟨v, s', h1, h2⟩ := hact env s k' v1 s1 hk'
        rw [hkk] at h1
        refine ⟨g v env, s', h1, fun ρ w a hr hg hE K Q hK => ?_⟩
        unfold wpOp
        simp only [ho, hw hE, if_true]
        refine .inl ((h2 ρ w a o rfl hr hg (hE.ops hg _)).wp ?_)
        intro ρ' w' v' q1 q2 q3
        exact hK ρ' w' _ q1 q2 (hE.put q1.le hout q3)
      -- it is passed over
      have skip : k (g undefI env) s = .ok v1 s1 → (∀ {ρ : Rho} {a : Go.Act}, ER γ n ρ env a → Region.wanted o (yielded ops a.tmps) = false) → ∃ env' s', k env' s' = .ok v1 s1 ∧
          ∀ ρ w a, Rel P γ ρ s w → Glob P ρ → ER γ n ρ env a → ∀ (K : Go.Act → World → Prop) (Q : Exit → Go.Act → World → Prop), (∀ ρ' w' a', Goes ρ s w ρ' s' w' → Rel P γ ρ' s' w' → ER γ n ρ' env' a' → K a' w') → wpOp P ops Q i K a w := by
        intro hk hw
        refine ⟨_, s, hk, fun ρ w a hr hg hE K Q hK => ?_⟩
        unfold wpOp
        simp only [ho, hw hE, Bool.false_eq_true, if_false]
        exact hK ρ w _ (Goes.refl ρ s w) hr (hE.put (Le.refl ρ) hout (.tup [] #[] .nil))
      cases hgt : guardT n ops.toList o.guard with
      | free =>
        rw [hgt] at hf; cases hf
        exact run _ h (fun _ _ => rfl) (fun hE => by have := hgd hE; rw [hgt] at this; exact this)
      | never =>
        rw [hgt] at hf; cases hf
        exact skip h (fun hE => by have := hgd hE; rw [hgt] at this; exact this)
      | mk c b =>
        rw [hgt] at hf; cases hf
        obtain ⟨hns, h⟩ := guardR_inv h
        cases hw : wantedV b (c env) with
        | false =>
          rw [hw] at h
          exact skip h (fun hE => by have := hgd hE; rw [hgt] at this; rw [this hns, hw])
        | true =>
          rw [hw] at h
          exact run _ h (fun _ _ => rfl) (fun hE => by have := hgd hE; rw [hgt] at this; rw [this hns, hw])
      | no => rw [hgt] at hf; cases hf; cases h

theorem opsT_ok {n : Nat} {ops : Array Oper} {X : Ext} {rec : Rec} (hX : ExtOk P γ X) (hrec : RecOk P γ rec) : ∀ (l : List Oper) (j : Nat), (∀ i, l[i]? = ops[j + i]?) → ∀ {f}, opsT P n ops.toList l = .mk f → ∀ {env : Env} {s : St} {k : KE} {v1 : IV} {s1 : St},
    f X rec env s k = .ok v1 s1 → ∃ env' s', k env' s' = .ok v1 s1 ∧ Moves P γ n s env s' env' (fun Q a w => wpOps P ops Q (List.range' j l.length) a w)
  | [], j, _, f, hf, env, s, k, v1, s1, h => by
    cases hf
    exact ⟨env, s, h, fun ρ w a hr hg hE Q hQ => hQ ρ w a (Goes.refl ρ s w) hr hE⟩
  | o :: l, j, hl, f, hf, env, s, k, v1, s1, h => by
    unfold opsT at hf
    cases h1 : opT P n ops.toList o with
    | mk fo =>
      rw [h1] at hf
      simp only at hf
      cases h2 : opsT P n ops.toList l with
      | mk fs =>
        rw [h2] at hf
        cases hf
        have ho : ops[j]? = some o := by simpa using (hl 0).symm
        obtain ⟨env', s', q1, q2⟩ := opT_ok ho h1 hX hrec h
        obtain ⟨env'', s'', q3, q4⟩ := opsT_ok hX hrec l (j + 1) (fun i => by have := hl (i + 1); simpa [Nat.add_assoc, Nat.add_comm 1 i] using this) h2 q1
        refine ⟨env'', s'', q3, fun ρ w a hr hg hE Q hQ => ?_⟩
        show wpOps P ops Q (List.range' j (l.length + 1)) a w
        rw [List.range'_succ, wpOps_cons]
        refine q2 ρ w a hr hg hE _ Q ?_
        intro ρ' w' a' g1 g2 g3
        exact q4 ρ' w' a' g2 (hg.mono g1.le) g3 Q (fun ρ'' w'' a'' m1 m2 m3 => hQ ρ'' w'' a'' (g1.trans m1) m2 m3)
end Go.Eng
