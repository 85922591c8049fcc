/- A part of the proof: an interpreter of the program, shown right once, and the laws that it computes. -/
import Derived.Test.YtpanfhfcpniodaaGreatDoorEng29
set_option linter.constructorNameAsVariable false
set_option linter.unusedVariables false
set_option linter.unusedSimpArgs false
namespace Go.Eng
variable {P : Program} {γ : Gam}

/-- Whether an operation is wanted, as the ideal sees it. -/
def WantG (γ : Gam) (n : Nat) (ops : Array Oper) (o : Oper) (env : Env) (r : Bool) : Prop := ∀ (ρ : Rho) (a : Go.Act), a.tmps.size = n →
  (∀ j b t f g, o.guard = some (j, b) → (∃ oj, ops[j]? = some oj ∧ oj.dst = some t) → slotT n t = .mk f g → VR ρ γ (f env) (a.tmps.getD t undef)) → Region.wanted o (yielded ops a.tmps) = r

inductive Trace (P : Program) (γ : Gam) (n : Nat) (ops : Array Oper) : List Plan → List Pend → Env → St → Env → St → Prop where
  | nil (pend env s) : Trace P γ n ops [] pend env s env s
  | skip (p ps pend env s g env' s') (hw : WantG γ n ops p.o env false) (hg : outT n p.o.dst = .mk g) (ht : Trace P γ n ops ps pend (g undefI env) s env' s') : Trace P γ n ops (p :: ps) pend env s env' s'
  | pure (p ps pend env s g env' s' fa v) (hc : p.cls = .pure) (hw : WantG γ n ops p.o env true) (hg : outT n p.o.dst = .mk g) (hx : execT P n p.o.op = .mk fa) (hf : PureA fa) (hv : fa noExt noRec env s .ok = .ok v s)
      (ht : Trace P γ n ops ps pend (g v env) s env' s') : Trace P γ n ops (p :: ps) pend env s env' s'
  | read (p ps pend env s g env' s' fa v) (hc : p.cls = .read) (hw : WantG γ n ops p.o env true) (hg : outT n p.o.dst = .mk g) (hx : execT P n p.o.op = .mk fa) (hf : ReadA fa) (hv : fa noExt noRec env s .ok = .ok v s)
      (ht : Trace P γ n ops ps (⟨p.i, fa, v, env⟩ :: pend) (g v env) s env' s') : Trace P γ n ops (p :: ps) pend env s env' s'
  | made (p ps pend env s g env' s' v x) (hc : p.cls = .made) (hw : WantG γ n ops p.o env true) (hg : outT n p.o.dst = .mk g) (hx : x ≠ .dead)
      (hv : ∀ (ρ : Rho) (w : World) (a : Go.Act), ρ s.next = none → OpsR P γ n ρ env a p.o.op.operands.toList →
        ∃ v' ob q j, (execOp a.eval p.o).run P w = .ok (.value v') (pushed (dr j w) ob) ∧ q.blk = w.heap.size ∧ OR P (ρ.with s.next q) γ q x ob ∧ VR (ρ.with s.next q) γ v v')
      (ht : Trace P γ n ops ps pend (g v env) (s.new x) env' s') : Trace P γ n ops (p :: ps) pend env s env' s'
  | hard (p ps pend env s g env' s' v s1) (hc : p.cls = .hard) (hw : WantG γ n ops p.o env true) (hg : outT n p.o.dst = .mk g)
      (hv : ∀ (ρ : Rho) (w : World) (a : Go.Act), Rel P γ ρ s w → Glob P ρ → OpsR P γ n ρ env a p.o.op.operands.toList → Gives P γ ρ s w (execOp a.eval p.o) v s1)
      (hs : stillOk s1 p.bef pend = true) (ht : Trace P γ n ops ps (dropB p.bef pend) (g v env) s1 env' s') : Trace P γ n ops (p :: ps) pend env s env' s'

theorem want_of {n : Nat} {ops : Array Oper} {o : Oper} {env : Env} : match guardT n ops.toList o.guard with
    | .free => WantG γ n ops o env true
    | .never => WantG γ n ops o env false
    | .mk c b => (∀ k, c env ≠ .sym k) → WantG γ n ops o env (wantedV b (c env))
    | .no => True := by
  have h := fun (ρ : Rho) (a : Go.Act) hsz hsl => guard_sim (γ := γ) (n := n) (ρ := ρ) (env := env) (a := a) (ops := ops) (o := o) hsz hsl
  cases hg : guardT n ops.toList o.guard with
  | free => intro ρ a h1 h2; have := h ρ a h1 h2; rw [hg] at this; exact this
  | never => intro ρ a h1 h2; have := h ρ a h1 h2; rw [hg] at this; exact this
  | mk c b => intro hns ρ a h1 h2; have := h ρ a h1 h2; rw [hg] at this; exact this hns
  | no => trivial

theorem trace_of {n : Nat} {ops : Array Oper} {X : Ext} {rec : Rec} (hX : ExtOk P γ X) (hrec : RecOk P γ rec) : ∀ (l : List Plan), (∀ p ∈ l, p.cls = clsOf P p.o.op) → ∀ {F}, plansT P n ops.toList l = .mk F →
    ∀ {pend env s k v1 s1}, F X rec pend env s k = .ok v1 s1 → ∃ pend' env' s', k pend' env' s' = .ok v1 s1 ∧ Trace P γ n ops l pend env s env' s'
  | [], _, F, hF, pend, env, s, k, v1, s1, h => by cases hF; exact ⟨pend, env, s, h, .nil _ _ _⟩
  | p :: ps, hcl, F, hF, pend, env, s, k, v1, s1, h => by
    unfold plansT at hF
    cases h1 : planT P n ops.toList p with
    | mk f =>
      rw [h1] at hF
      simp only at hF
      cases h2 : plansT P n ops.toList ps with
      | mk G =>
        rw [h2] at hF; cases hF
        have ih := fun {pend env s k v1 s1} => trace_of (n := n) (ops := ops) hX hrec ps (fun q hq => hcl q (.tail _ hq)) h2 (pend := pend) (env := env) (s := s) (k := k) (v1 := v1) (s1 := s1)
        have hcls := hcl p (.head _)
        unfold planT at h1
        cases hx : execT P n p.o.op with
        | mk fa =>
          rw [hx] at h1
          simp only at h1
          cases hg : outT n p.o.dst with
          | no => rw [hg] at h1; cases h1; cases h
          | mk g =>
            rw [hg] at h1
            simp only at h1
            have hwant := want_of (γ := γ) (n := n) (ops := ops) (o := p.o) (env := env)
            -- it is run
            have run : WantG γ n ops p.o env true → ∀ {f'}, planAct p fa g = .mk f' → f' X rec pend env s (fun pend env s => G X rec pend env s k) = .ok v1 s1 →
                ∃ pend' env' s', k pend' env' s' = .ok v1 s1 ∧ Trace P γ n ops (p :: ps) pend env s env' s' := by
              intro hw f' hf' hr
              unfold planAct at hf'
              cases hc : p.cls with
              | hard =>
                rw [hc] at hf'; cases hf'
                dsimp only at hr
                obtain ⟨v, s', q1, q2⟩ := exec_ok (P := P) (γ := γ) (n := n) p.o.op fa hx X rec hX hrec env s _ v1 s1 hr
                split at q1 <;> (try (cases q1; done))
                rename_i hst
                obtain ⟨pend', env', s'', q3, q4⟩ := ih q1
                exact ⟨pend', env', s'', q3, .hard p ps pend env s g env' s'' v s' hc hw hg (fun ρ w a hr hgl ho => q2 ρ w a p.o rfl hr hgl ho) hst q4⟩
              | read =>
                rw [hc] at hf'; cases hf'
                have hra := cls_read (P := P) (n := n) p.o.op (hcls ▸ hc) fa hx
                obtain ⟨v, q1, q2⟩ := hra.1 X rec env s _ v1 s1 hr
                obtain ⟨pend', env', s'', q3, q4⟩ := ih q1
                exact ⟨pend', env', s'', q3, .read p ps pend env s g env' s'' fa v hc hw hg hx hra q2 q4⟩
              | pure =>
                rw [hc] at hf'; cases hf'
                have hra := cls_pure (P := P) (n := n) p.o.op (hcls ▸ hc) fa hx
                obtain ⟨v, q1, q2⟩ := hra.1 X rec env s _ v1 s1 hr
                obtain ⟨pend', env', s'', q3, q4⟩ := ih q1
                exact ⟨pend', env', s'', q3, .pure p ps pend env s g env' s'' fa v hc hw hg hx hra q2 q4⟩
              | made =>
                rw [hc] at hf'; cases hf'
                obtain ⟨v, x, q0, q1, q2⟩ := cls_made (P := P) (γ := γ) (n := n) p.o.op (hcls ▸ hc) fa hx X rec env s _ v1 s1 hr
                obtain ⟨pend', env', s'', q3, q4⟩ := ih q1
                exact ⟨pend', env', s'', q3, .made p ps pend env s g env' s'' v x hc hw hg q0 (fun ρ w a hn ho => q2 ρ w a p.o rfl hn ho) q4⟩
            have skip : WantG γ n ops p.o env false → G X rec pend (g undefI env) s k = .ok v1 s1 → ∃ pend' env' s', k pend' env' s' = .ok v1 s1 ∧ Trace P γ n ops (p :: ps) pend env s env' s' := by
              intro hw hr
              obtain ⟨pend', env', s'', q3, q4⟩ := ih hr
              exact ⟨pend', env', s'', q3, .skip p ps pend env s g env' s'' hw hg q4⟩
            unfold planGuard at h1
            cases hgd : guardT n ops.toList p.o.guard with
            | free =>
              rw [hgd] at h1 hwant
              exact run hwant h1 h
            | never =>
              rw [hgd] at h1 hwant; cases h1
              exact skip hwant h
            | no => rw [hgd] at h1; cases h1; cases h
            | mk c b =>
              rw [hgd] at h1 hwant
              simp only at h1 hwant
              cases hpa : planAct p fa g with
              | mk f' =>
                rw [hpa] at h1; cases h1
                obtain ⟨hns, h⟩ := guardR_inv h
                have hwant := hwant hns
                cases hb : wantedV b (c env) with
                | true => rw [hb] at h hwant; exact run hwant hpa h
                | false => rw [hb] at h hwant; exact skip hwant h
end Go.Eng
