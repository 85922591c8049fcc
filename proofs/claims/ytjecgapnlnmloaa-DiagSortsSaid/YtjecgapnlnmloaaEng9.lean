/- A part of the proof: an interpreter of the program, shown right once, and the laws that it computes. -/
import Derived.Test.YtjecgapnlnmloaaEng8
set_option linter.constructorNameAsVariable false
set_option linter.unusedVariables false
set_option linter.unusedSimpArgs false
namespace Go.Eng
variable {P : Program} {γ : Gam}

theorem eqGuard_sim {ρ : Rho} {op : BinOp} {t : Nat} {x y : Operand} {a b : IV} {a' b' : Value} {w : World} (ha : VR ρ γ a a') (hb : VR ρ γ b b') (h : eqSafe P op t x y a b = true) :
    (eqGuard op t x y a' b').run P w = .ok () w := by
  unfold eqGuard
  have other : ∀ (c : Bool), c = true → ((if c = true then pure () else (pure () : Sem Unit)).run P w = .ok () w) := fun c hc => by simp
  cases op <;> first
    | rfl
    | (cases ha <;> cases hb <;> first
        | rfl
        | (simp [eqSafe] at h; done)
        | (simp only [eqSafe] at h
           cases x <;> cases y <;> first
             | rfl
             | (simp at h; done))
        | (simp only [eqSafe] at h
           have h' : P.eqGuardType P.depth t = false := by simpa using h
           simp [h']))

theorem eqDo_sim {ρ : Rho} {s : St} {w : World} (hr : Rel P γ ρ s w) {op : BinOp} {t : Nat} {x y v : IV} {x' y' : Value} (hx : VR ρ γ x x') (hy : VR ρ γ y y') (hi : ∀ k n, x ≠ .int k n) (hs : ∀ l, x ≠ .str l) (hq : ∀ k, x ≠ .sym k)
    (h : eqDo P op t x y = some v) : ∃ v', (Go.binOp op t x' y').run P w = .ok v' w ∧ VR ρ γ v v' := by
  unfold eqDo at h
  cases op <;> simp only at h <;> (try (cases h; done))
  case eql =>
    cases hq' : eqv P 10000 t x y with
    | none => simp [hq'] at h
    | some b =>
      simp only [hq'] at h; cases h
      have := eqv_sim hr 10000 hx hy hq'
      refine ⟨.bool b, ?_, .bool b⟩
      have e : Go.binOp .eql t x' y' = (do pure (.bool (← Op.equal t x' y'))) := by
        cases hx <;> cases hy <;> first
          | rfl
          | exact absurd rfl (hi _ _)
          | exact absurd rfl (hs _)
          | exact absurd rfl (hq _)
      rw [e]
      simp only [Sem.run_bind, Op.equal, Op.maxDepth, this, Result.andThen_ok, Sem.run_pure]
  case neq =>
    cases hq' : eqv P 10000 t x y with
    | none => simp [hq'] at h
    | some b =>
      simp only [hq'] at h; cases h
      have := eqv_sim hr 10000 hx hy hq'
      refine ⟨.bool (!b), ?_, .bool _⟩
      have e : Go.binOp .neq t x' y' = (do pure (.bool (!(← Op.equal t x' y')))) := by
        cases hx <;> cases hy <;> first
          | rfl
          | exact absurd rfl (hi _ _)
          | exact absurd rfl (hs _)
          | exact absurd rfl (hq _)
      rw [e]
      simp only [Sem.run_bind, Op.equal, Op.maxDepth, this, Result.andThen_ok, Sem.run_pure]

theorem shift_kind (op : BinOp) (hop : isShift op = true) (t : Nat) (k k' : IntKind) (a b : Int) : Go.binOp op t (.int k a) (.int k' b) = Go.binOp op t (.int k a) (.int k b) := by
  cases op <;> simp [isShift] at hop <;> rfl

theorem binop_sim {ρ : Rho} {s : St} {w : World} (hr : Rel P γ ρ s w) {op : BinOp} {t : Nat} {x y v : IV} {x' y' : Value} (hx : VR ρ γ x x') (hy : VR ρ γ y y') (h : binop P op t x y = some v) :
    ∃ v', (Go.binOp op t x' y').run P w = .ok v' w ∧ VR ρ γ v v' := by
  have hx0 := hx
  cases hx with
  | int k a =>
    cases hy with
    | int k' b =>
      simp only [binop, intPair] at h
      cases hsft : isShift op with
      | true =>
        simp only [hsft] at h
        rw [shift_kind op hsft]
        exact intDo_sim h
      | false =>
        simp only [hsft] at h
        cases hk : kindEq k k' with
        | false => simp [hk] at h
        | true =>
          simp only [hk] at h
          have := (kindEq_iff _ _).1 hk
          subst this
          exact intDo_sim h
    | sym j hj hji hjs =>
      simp only [binop] at h
      unfold symAdd at h
      split at h <;> (try (cases h; done))
      split at h <;> (try (cases h; done))
      split at h <;> (try (cases h; done))
      rename_i hc
      simp only [Bool.and_eq_true, eqI_eq, beq_iff_eq, Nat.blt_eq] at hc
      obtain ⟨rfl, h3, h4⟩ := hc
      have h3' := Nat.le_of_ble_eq_true h3
      cases h
      obtain ⟨n, q1, q2, q3, q4⟩ := hjs h3' h4
      refine ⟨γ (j + 100), ?_, .sym (j + 100) (by rw [q2]; rfl) (fun _ => ⟨_, q2⟩) (fun _ h => by omega)⟩
      rw [q1, q2]
      obtain ⟨v', e1, e2⟩ := intDo_sim (P := P) (γ := γ) (op := .add) (k := .i64) (a := 1) (b := n) (t := t) (w := w) (ρ := ρ) rfl
      have hw : IntKind.i64.wrap (1 + n) = n + 1 := by
        unfold IntKind.wrap
        simp [IntKind.signed, IntKind.bits]
        omega
      rw [wrapI_eq, addI_eq, hw] at e2
      cases e2
      exact e1
    | _ => simp [binop] at h
  | str s1 l1 h1 =>
    cases hy with
    | str s2 l2 h2 =>
      simp only [binop] at h
      obtain ⟨v', hv1, hv2⟩ := strOp_sim (P := P) (γ := γ) (w := w) (ρ := ρ) h1 h2 h
      refine ⟨v', ?_, hv2⟩
      have : Go.binOp op t (.string s1) (.string s2) = Op.stringOp op s1 s2 := by cases op <;> rfl
      rw [this]; exact hv1
    | _ => simp [binop] at h
  | sym k => simp [binop] at h
  | _ =>
    simp only [binop] at h
    exact eqDo_sim hr hx0 hy (by intro _ _ h; cases h) (by intro _ h; cases h) (by intro _ h; cases h) h

theorem unop_sim {ρ : Rho} {op : UnOp} {x v : IV} {x' : Value} {w : World} (hx : VR ρ γ x x') (h : unop op x = some v) : ∃ v', (Op.unary op x').run P w = .ok v' w ∧ VR ρ γ v v' := by
  cases op <;> simp only [unop] at h <;> (try (cases h; done))
  case neg =>
    cases hx <;> simp at h
    rename_i k n
    obtain ⟨v', h1, h2⟩ := intDo_sim (P := P) (γ := γ) (w := w) (ρ := ρ) (t := 0) h
    refine ⟨v', ?_, h2⟩
    simpa [Go.binOp, Op.unary] using h1
  case xor =>
    cases hx <;> simp at h
    rename_i k n
    obtain ⟨v', h1, h2⟩ := intDo_sim (P := P) (γ := γ) (w := w) (ρ := ρ) (t := 0) h
    refine ⟨v', ?_, h2⟩
    simpa [Go.binOp, Op.unary] using h1
  case not =>
    cases hx <;> simp at h
    subst h
    exact ⟨_, rfl, .bool _⟩
end Go.Eng
