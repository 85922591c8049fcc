/- A part of the proof: an interpreter of the program, shown right once, and the laws that it computes. -/
import Derived.Test.YtphdmkiedglfmaaGreatEng21
set_option linter.constructorNameAsVariable false
set_option linter.unusedVariables false
set_option linter.unusedSimpArgs false
namespace Go.Eng
variable {P : Program} {γ : Gam}

theorem binV_inv {op : BinOp} {t : Nat} {x y : Operand} {a b v : IV} {s s' : St} (h : binV P op t x y a b s = .ok v s') : eqSafe P op t x y a b = true ∧ binop P op t a b = some v ∧ s' = s := by
  unfold binV at h
  cases he : eqSafe P op t x y a b with
  | false => rw [he] at h; cases h
  | true =>
    rw [he] at h
    obtain ⟨h1, h2⟩ := val_ok h
    exact ⟨rfl, h1, h2⟩

theorem binInt_inv {op : BinOp} {f : IntKind → Int → Int → Option IV} {t : Nat} {x y : Operand} {a b v : IV} {s s' : St} (hf : intOp op = .mk f) (h : binInt P op f t x y a b s = .ok v s') :
    eqSafe P op t x y a b = true ∧ binop P op t a b = some v ∧ s' = s := by
  unfold binInt at h
  cases a <;> (try exact binV_inv h)
  rename_i k m
  cases b <;> (try exact binV_inv h)
  rename_i k' m'
  change Bool.rec (motive := fun _ => R) (binV P op t x y (.int k m) (.int k' m') s) (R.val s (f k m m')) (kindEq k k') = .ok v s' at h
  cases hk : kindEq k k' with
  | false => rw [hk] at h; exact binV_inv h
  | true =>
    rw [hk] at h
    obtain ⟨h1, h2⟩ := val_ok h
    refine ⟨by cases op <;> rfl, ?_, h2⟩
    have hd : intDo op k m m' = some v := by unfold intDo; rw [hf]; exact h1
    simp only [binop, intPair, hk]
    cases isShift op <;> exact hd

section ops
variable {n : Nat}

theorem bin_ok (op : BinOp) (t : Nat) (x y : Operand) (yt : Nat) : ActOk P γ n (.binOp op t x y yt) (xBin P n op t x y) := by
  unfold xBin
  split <;> try exact actOk_no
  rename_i f hf
  split <;> try exact actOk_no
  rename_i g hg
  split
  rename_i h hop
  refine actOk_val (F := fun env s => binInt P op h t x y (f env) (g env) s) (fun ev => do eqGuard op t x y (ev x) (ev y); binOp op t (ev x) (ev y)) (fun a o ho => by simp only [execOp, ho]) ?_
  intro env s v s' hF ρ w a hr hops
  obtain ⟨h1, h2, rfl⟩ := binInt_inv hop hF
  have hx := hops x (.head _) f hf
  have hy := hops y (.tail _ (.head _)) g hg
  obtain ⟨v', q1, q2⟩ := binop_sim hr hx hy h2
  refine Yields.same hr ?_ q2
  simp only [Sem.run_bind, eqGuard_sim hx hy h1, Result.andThen_ok, q1]

theorem evn_rel {ρ : Rho} {env : Env} {a : Go.Act} {x : Option Operand} {r : Option Nat} (hops : OpsR P γ n ρ env a x.toList) (h : evnGet (evnT P n x) env = some r) : NR ρ γ r (x.map a.eval) := by
  cases x with
  | none => cases h; trivial
  | some x =>
    unfold evnT at h
    cases he : evT P n x with
    | no => simp only [he] at h; cases h
    | mk f =>
      simp only [he, evnGet] at h
      cases hn : (f env).nat with
      | none => simp only [hn] at h; cases h
      | some m =>
        simp only [hn] at h
        cases h
        exact nat_inv (hops x (.head _) f he) hn

theorem slice_ok (t : Nat) (x : Operand) (lo hi mx : Option Operand) : ActOk P γ n (.slice t x lo hi mx) (xSlice P n t x lo hi mx) := by
  unfold xSlice
  split <;> try exact actOk_no
  rename_i f hf
  split <;> try exact actOk_no
  rename_i u hu
  split <;> try exact actOk_no
  rename_i hmo
  refine actOk_val (F := fun env s => sliceV P u (f env) (evnGet (evnT P n lo) env) (evnGet (evnT P n hi) env) (evnGet (evnT P n mx) env) s) (fun ev => Instr.sliceAt t (ev x) (lo.map ev) (hi.map ev) (mx.map ev))
    (fun a o ho => by simp only [execOp, ho]) ?_
  intro env s v s' hF ρ w a hr hops
  have hx := hops x (by simp [Op.operands]) f hf
  unfold sliceV at hF
  split at hF <;> (try (cases hF; done))
  rename_i lo' hlo
  split at hF <;> (try (cases hF; done))
  rename_i hi' hhi
  split at hF <;> (try (cases hF; done))
  rename_i mx' hmx
  split at hF <;> (try (cases hF; done))
  rename_i hok
  obtain ⟨h1, rfl⟩ := val_ok hF
  have hl := evn_rel (fun y hy => hops y (by simp [Op.operands] at hy ⊢; exact .inr (.inl hy))) hlo
  have hh := evn_rel (fun y hy => hops y (by simp [Op.operands] at hy ⊢; exact .inr (.inr (.inl hy)))) hhi
  have hm := evn_rel (fun y hy => hops y (by simp [Op.operands] at hy ⊢; exact .inr (.inr (.inr hy)))) hmx
  refine sliceAtT_sim hr hu hx hl hh hm ?_ ?_ h1
  · cases mx with
    | none => cases mx' with
      | none => exact .inl rfl
      | some _ => exact hm.elim
    | some _ => cases hi with
      | none => cases hmo
      | some _ => cases hi' with
        | none => exact hh.elim
        | some _ => exact .inr (fun h => by cases h)
  · intro b o m c p e hxe hue hb
    rw [hxe, hue] at hok
    unfold slOk at hok
    simp only at hok
    unfold rowIs at hok
    split at hok <;> (try (cases hok; done))
    rename_i c1 len e1 fz tag hg
    obtain ⟨arr, fr, q1, q2⟩ := hr.row hb hg
    have := Nat.eq_of_beq_eq_true hok
    subst this
    cases q2 with
    | cells _ _ _ _ _ _ _ hl' ha hcs hf hst htg hz => exact hz

theorem next_ok (x : Operand) (str : Bool) : ActOk P γ n (.next x str) (xNext P n x str) := by
  unfold xNext
  split <;> try exact actOk_no
  rename_i f hf
  cases str
  · exact actOk_no
  · refine actOk_bind (F := fun env s => nextV (f env) s) ?_
    intro env s v s' hF ρ w a o ho hr hg hops
    have he : execOp a.eval o = (do pure (.value (← Instr.next (a.eval x) true o.type))) := by simp only [execOp, ho]
    rw [he]
    exact Gives.of_yields (next_sim hr (hops x (.head _) f hf) hF)

/- built-in functions -/
theorem run_builtin {b : Builtin} {c : Call} {a : Go.Act} {o : Oper} (ho : o.op = .call c) (hb : c.callee = .builtin b) :
    ∃ cs, execOp a.eval o = (do let d ← (pure { target := .builtin b c.argTypes o.type cs, args := c.args.map a.eval } : Sem Deferred); invoke d.target d.args) :=
  ⟨_, by simp only [execOp, ho, resolve, hb]; rfl⟩

theorem builtin_gives {b : Builtin} {c : Call} {a : Go.Act} {o : Oper} {ρ : Rho} {s s' : St} {w : World} {v : IV} {m : Sem Value} (ho : o.op = .call c) (hb : c.callee = .builtin b)
    (hm : ∀ cs, builtin b c.argTypes o.type cs (c.args.map a.eval) = (do pure (.value (← m)))) (h : Yields P γ ρ s w m v s') : Gives P γ ρ s w (execOp a.eval o) v s' := by
  obtain ⟨cs, he⟩ := run_builtin (a := a) ho hb
  rw [he]
  have := Gives.of_yields h
  have e : ∀ w, ((do let d ← (pure { target := .builtin b c.argTypes o.type cs, args := c.args.map a.eval } : Sem Deferred); invoke d.target d.args) : Sem Next).run P w =
      (do pure (.value (← m)) : Sem Next).run P w := by
    intro w
    simp only [Sem.run_bind, Sem.run_pure, Result.andThen_ok]
    show (builtin b c.argTypes o.type _ (c.args.map a.eval)).run P w = _
    rw [hm]
    simp only [Sem.run_bind, Sem.run_pure]
  unfold Gives at this ⊢
  rw [e]
  exact this

theorem b1_ok (c : Call) (b : Builtin) (x : Operand) (hb : c.callee = .builtin b) (hc : c.args.toList = [x]) {f : Env → IV} (hf : evT P n x = .mk f) : ActOk P γ n (.call c) (b1T P b c.argTypes f) := by
  have hargs : c.args = #[x] := by apply Array.ext'; simpa using hc
  have hmem : x ∈ (Op.call c).operands.toList := by simp [Op.operands, Call.operands, hb, hargs]
  unfold b1T
  split <;> try exact actOk_no
  · split <;> try exact actOk_no
    · rename_i ht
      refine actOk_bind (F := fun env s => lenStr (f env) s) ?_
      intro env s v s' hF ρ w a o ho hr hg hops
      exact builtin_gives ho hb (fun cs => by rw [hargs, List.map_toArray]; rfl) (lenStr_sim hr ht (hops x hmem f hf) hF)
    · rename_i kt e ht
      refine actOk_bind (F := fun env s => lenMapV (f env) s) ?_
      intro env s v s' hF ρ w a o ho hr hg hops
      exact builtin_gives ho hb (fun cs => by rw [hargs, List.map_toArray]; rfl) (lenMap_sim hr (hops x hmem f hf) ht hF)
    · rename_i e ht
      refine actOk_bind (F := fun env s => lenSl (f env) s) ?_
      intro env s v s' hF ρ w a o ho hr hg hops
      exact builtin_gives ho hb (fun cs => by rw [hargs, List.map_toArray]; rfl) (lenSl_sim hr ⟨e, ht⟩ (hops x hmem f hf) hF)
  · split <;> try exact actOk_no
    rename_i e ht
    refine actOk_bind (F := fun env s => capOf (f env) s) ?_
    intro env s v s' hF ρ w a o ho hr hg hops
    exact builtin_gives ho hb (fun cs => by rw [hargs, List.map_toArray]; rfl) (cap_sim hr ⟨e, ht⟩ (hops x hmem f hf) hF)
  · split <;> try exact actOk_no
    rename_i e ht
    split <;> try exact actOk_no
    rename_i z hz
    refine actOk_bind (F := fun env s => doClear z.cells s (f env)) ?_
    intro env s v s' hF ρ w a o ho hr hg hops
    exact builtin_gives ho hb (fun cs => by rw [hargs, List.map_toArray]; rfl) (clear_sim hr ht hz (hops x hmem f hf) hF)
  · refine actOk_bind (F := fun env s => doData (f env) s) ?_
    intro env s v s' hF ρ w a o ho hr hg hops
    exact builtin_gives ho hb (fun cs => by rw [hargs, List.map_toArray]; rfl) (data_sim hr (hops x hmem f hf) hF)

theorem b2_ok (c : Call) (b : Builtin) (x y : Operand) (hb : c.callee = .builtin b) (hc : c.args.toList = [x, y]) {f g : Env → IV} (hf : evT P n x = .mk f) (hg : evT P n y = .mk g) : ActOk P γ n (.call c) (b2T P b c.argTypes f g) := by
  have hargs : c.args = #[x, y] := by apply Array.ext'; simpa using hc
  have hmx : x ∈ (Op.call c).operands.toList := by simp [Op.operands, Call.operands, hb, hargs]
  have hmy : y ∈ (Op.call c).operands.toList := by simp [Op.operands, Call.operands, hb, hargs]
  unfold b2T
  split <;> try exact actOk_no
  · split <;> try exact actOk_no
    rename_i e sz he
    split
    · rename_i hz
      simp only [Bool.and_eq_true] at hz
      refine actOk_bind (F := fun env s => Eng.append P e sz s (f env) (g env)) ?_
      intro env s v s' hF ρ w a o ho hr hgl hops
      exact builtin_gives ho hb (fun cs => by rw [hargs, List.map_toArray]; rfl) (append_sim hr he hz.1 hz.2 (hops x hmx f hf) (hops y hmy g hg) hF)
    · split <;> try exact actOk_no
      rename_i hz
      simp only [Bool.and_eq_true] at hz
      refine actOk_bind (F := fun env s => Eng.appendZ P e sz s (f env) (g env)) ?_
      intro env s v s' hF ρ w a o ho hr hgl hops
      exact builtin_gives ho hb (fun cs => by rw [hargs, List.map_toArray]; rfl) (appendZ_sim hr he hz.1 hz.2 (hops x hmx f hf) (hops y hmy g hg) hF)
  · split <;> try exact actOk_no
    rename_i e sz he
    refine actOk_bind (F := fun env s => doCopy sz s (f env) (g env)) ?_
    intro env s v s' hF ρ w a o ho hr hgl hops
    exact builtin_gives ho hb (fun cs => by rw [hargs, List.map_toArray]; rfl) (copy_sim hr he (hops x hmx f hf) (hops y hmy g hg) hF)
  · refine actOk_bind (F := fun env s => doMinMax false minI (f env) (g env) s) ?_
    intro env s v s' hF ρ w a o ho hr hgl hops
    exact builtin_gives ho hb (fun cs => by rw [hargs, List.map_toArray]; rfl) (min_sim hr (hops x hmx f hf) (hops y hmy g hg) hF)
  · refine actOk_bind (F := fun env s => doMinMax true maxI (f env) (g env) s) ?_
    intro env s v s' hF ρ w a o ho hr hgl hops
    exact builtin_gives ho hb (fun cs => by rw [hargs, List.map_toArray]; rfl) (max_sim hr (hops x hmx f hf) (hops y hmy g hg) hF)
  · split <;> try exact actOk_no
    rename_i e he
    refine actOk_bind (F := fun env s => doString e (f env) (g env) s) ?_
    intro env s v s' hF ρ w a o ho hr hgl hops
    exact builtin_gives ho hb (fun cs => by rw [hargs, List.map_toArray]; rfl) (string_sim hr he (hops x hmx f hf) (hops y hmy g hg) hF)

theorem builtin_ok (c : Call) (b : Builtin) (hb : c.callee = .builtin b) : ActOk P γ n (.call c) (xBuiltin P n b c.argTypes c.args.toList) := by
  unfold xBuiltin
  split <;> try exact actOk_no
  · rename_i x hc
    split <;> try exact actOk_no
    rename_i f hf
    exact b1_ok c b x hb hc hf
  · rename_i x y hc
    split <;> try exact actOk_no
    rename_i f hf
    split <;> try exact actOk_no
    rename_i g hg
    exact b2_ok c b x y hb hc hf hg
end ops
end Go.Eng
