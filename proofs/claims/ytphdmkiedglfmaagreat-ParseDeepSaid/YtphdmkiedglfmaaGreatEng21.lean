/- A part of the proof: an interpreter of the program, shown right once, and the laws that it computes. -/
import Derived.Test.YtphdmkiedglfmaaGreatEngM
set_option linter.constructorNameAsVariable false
set_option linter.unusedVariables false
set_option linter.unusedSimpArgs false
namespace Go.Eng
variable {P : Program} {γ : Gam}

/-- The program's variables stand where they stand. -/
def Glob (_P : Program) (_ρ : Rho) : Prop := True
theorem Glob.mono {ρ ρ' : Rho} (h : Glob P ρ) (hl : Le ρ ρ') : Glob P ρ' := trivial

/-- An operand, here and there. -/
def OpR (P : Program) (γ : Gam) (n : Nat) (ρ : Rho) (env : Env) (a : Go.Act) (x : Operand) : Prop := ∀ f, evT P n x = .mk f → VR ρ γ (f env) (a.eval x)
def OpsR (P : Program) (γ : Gam) (n : Nat) (ρ : Rho) (env : Env) (a : Go.Act) (l : List Operand) : Prop := ∀ x ∈ l, OpR P γ n ρ env a x

theorem OpsR.evs {n : Nat} {ρ : Rho} {env : Env} {a : Go.Act} : ∀ {l : List Operand} {f : Env → List IV}, OpsR P γ n ρ env a l → evsT P n l = .mk f → VRs ρ γ (f env) (l.map a.eval)
  | [], f, _, h => by cases h; exact .nil
  | x :: l, f, hr, h => by
    unfold evsT at h
    cases h1 : evT P n x with
    | no => rw [h1] at h; cases h
    | mk g =>
      rw [h1] at h
      simp only at h
      cases h2 : evsT P n l with
      | no => rw [h2] at h; cases h
      | mk gs =>
        rw [h2] at h
        simp only at h
        cases h
        exact .cons _ _ _ _ (hr x (.head _) g h1) (OpsR.evs (fun y hy => hr y (.tail _ hy)) h2)

theorem OpsR.evp {n : Nat} {ρ : Rho} {env : Env} {a : Go.Act} : ∀ {l : List (Nat × Operand)} {f : Env → List (Nat × IV)}, OpsR P γ n ρ env a (l.map (·.2)) → evpT P n l = .mk f → PR ρ γ (f env) (l.map fun (i, x) => (i, a.eval x))
  | [], f, _, h => by cases h; exact ⟨rfl, .nil⟩
  | (i, x) :: l, f, hr, h => by
    unfold evpT at h
    cases h1 : evT P n x with
    | no => rw [h1] at h; cases h
    | mk g =>
      rw [h1] at h
      simp only at h
      cases h2 : evpT P n l with
      | no => rw [h2] at h; cases h
      | mk gs =>
        rw [h2] at h
        simp only at h
        cases h
        obtain ⟨q1, q2⟩ := OpsR.evp (fun y hy => hr y (.tail _ hy)) h2
        exact ⟨by simp only [List.map_cons, q1], .cons _ _ _ _ (hr x (.head _) g h1) q2⟩

/-- What a call hands back. -/
def Ret (P : Program) (γ : Gam) (ρ : Rho) (s : St) (w : World) (v : IV) (s' : St) : Ending → World → Prop :=
  fun e w' => ∃ v' ρ', e = .returned v' ∧ Goes ρ s w ρ' s' w' ∧ Rel P γ ρ' s' w' ∧ VR ρ' γ v v'
/-- What an operation does. -/
def Gives (P : Program) (γ : Gam) (ρ : Rho) (s : St) (w : World) (m : Sem Next) (v : IV) (s' : St) : Prop :=
  (∃ v' w' ρ', m.run P w = .ok (.value v') w' ∧ Goes ρ s w ρ' s' w' ∧ Rel P γ ρ' s' w' ∧ VR ρ' γ v v') ∨
  (v = undefI ∧ ∃ w' ρ', m.run P w = .ok .skip w' ∧ Goes ρ s w ρ' s' w' ∧ Rel P γ ρ' s' w') ∨
  (∃ f args w', m.run P w = .ok (.enter f args) w' ∧ Calls P f args w' (Ret P γ ρ s w v s'))

theorem Gives.of_yields {ρ : Rho} {s s' : St} {w : World} {m : Sem Value} {v : IV} (h : Yields P γ ρ s w m v s') : Gives P γ ρ s w (do pure (.value (← m))) v s' := by
  obtain ⟨v', w', ρ', h1, h2⟩ := h
  exact .inl ⟨v', w', ρ', by simp only [Sem.run_bind, h1, Result.andThen_ok, Sem.run_pure], h2⟩

theorem Gives.wp {ρ : Rho} {s s' : St} {w : World} {o : Oper} {a : Go.Act} {v : IV} {K : Go.Act → World → Prop} {Q : Exit → Go.Act → World → Prop} (h : Gives P γ ρ s w (execOp a.eval o) v s')
    (hK : ∀ ρ' w' v', Goes ρ s w ρ' s' w' → Rel P γ ρ' s' w' → VR ρ' γ v v' → K (a.put o.dst v') w') : o.wp P a w K Q := by
  unfold Oper.wp
  rcases h with ⟨v', w', ρ', h1, h2, h3, h4⟩ | ⟨rfl, w', ρ', h1, h2, h3⟩ | ⟨f, args, w', h1, h2⟩
  · rw [h1]; exact hK _ _ _ h2 h3 h4
  · rw [h1]; exact hK _ _ _ h2 h3 (.tup [] #[] .nil)
  · rw [h1]
    refine Calls.mono h2 ?_
    rintro e w'' ⟨v', ρ', rfl, q1, q2, q3⟩
    exact hK _ _ _ q1 q2 q3

/-- Calls that are known. -/
def RecOk (P : Program) (γ : Gam) (rec : Rec) : Prop := ∀ f args s k v1 s1, rec f args s k = .ok v1 s1 → ∃ v s', k v s' = .ok v1 s1 ∧
  ∀ ρ w args', Rel P γ ρ s w → Glob P ρ → VRs ρ γ args args' → Calls P f args'.toArray w (Ret P γ ρ s w v s')
def ExtOk (P : Program) (γ : Gam) (X : Ext) : Prop := ∀ f args s v s', X.get f args s = some (.ok v s') →
  ∀ ρ w args', Rel P γ ρ s w → Glob P ρ → VRs ρ γ args args' → Calls P f args'.toArray w (Ret P γ ρ s w v s')

def ActOk (P : Program) (γ : Gam) (n : Nat) (op : Op) (A : Eng.Act) : Prop := ∀ fa, A = .mk fa → ∀ X rec, ExtOk P γ X → RecOk P γ rec → ∀ env s k v1 s1, fa X rec env s k = .ok v1 s1 →
  ∃ v s', k v s' = .ok v1 s1 ∧ ∀ (ρ : Rho) (w : World) (a : Go.Act) (o : Oper), o.op = op → Rel P γ ρ s w → Glob P ρ → OpsR P γ n ρ env a op.operands.toList → Gives P γ ρ s w (execOp a.eval o) v s'

theorem actOk_no {n : Nat} {op : Op} : ActOk P γ n op noAct := by
  intro fa hf X rec _ _ env s k v1 s1 h
  cases hf; cases h

theorem bind_ok {r : R} {k : KV} {v1 : IV} {s1 : St} (h : r.bind k = .ok v1 s1) : ∃ v s', r = .ok v s' ∧ k v s' = .ok v1 s1 := by
  cases r with
  | no => cases h
  | ok v s' => exact ⟨v, s', rfl, h⟩

theorem actOk_bind {n : Nat} {op : Op} (F : Env → St → R)
    (h : ∀ env s v s', F env s = .ok v s' → ∀ (ρ : Rho) (w : World) (a : Go.Act) (o : Oper), o.op = op → Rel P γ ρ s w → Glob P ρ → OpsR P γ n ρ env a op.operands.toList → Gives P γ ρ s w (execOp a.eval o) v s') :
    ActOk P γ n op (.mk fun _ _ env s q => (F env s).bind q) := by
  intro fa hf X rec _ _ env s k v1 s1 hr
  cases hf
  obtain ⟨v, s', h1, h2⟩ := bind_ok hr
  exact ⟨v, s', h2, h env s v s' h1⟩
/-- The same for what yields a value. -/
theorem actOk_val {n : Nat} {op : Op} (F : Env → St → R) (m : (Operand → Value) → Sem Value) (hm : ∀ (a : Go.Act) (o : Oper), o.op = op → execOp a.eval o = (do pure (.value (← m a.eval))))
    (h : ∀ env s v s', F env s = .ok v s' → ∀ (ρ : Rho) (w : World) (a : Go.Act), Rel P γ ρ s w → OpsR P γ n ρ env a op.operands.toList → Yields P γ ρ s w (m a.eval) v s') :
    ActOk P γ n op (.mk fun _ _ env s q => (F env s).bind q) := by
  refine actOk_bind F fun env s v s' hF ρ w a o ho hr hg hops => ?_
  rw [hm a o ho]
  exact Gives.of_yields (h env s v s' hF ρ w a hr hops)

theorem val_ok {s s' : St} {o : Option IV} {v : IV} (h : R.val s o = .ok v s') : o = some v ∧ s' = s := by
  cases o with
  | none => cases h
  | some x => cases h; exact ⟨rfl, rfl⟩

section ops
variable {n : Nat}

theorem move_ok (x : Operand) (op : Op) (hop : op = .move x ∨ op = .assign x) : ActOk P γ n op (xMove P n x) := by
  unfold xMove
  split
  · rename_i f hf
    refine actOk_bind (F := fun env s => .ok (f env) s) ?_
    intro env s v s' hF ρ w a o ho hr hg hops
    cases hF
    refine .inl ⟨a.eval x, w, ρ, ?_, Goes.refl ρ s w, hr, hops x (by rcases hop with rfl | rfl <;> exact .head _) f hf⟩
    rcases hop with rfl | rfl <;> simp only [execOp, ho, Sem.run_pure]
  · exact actOk_no

theorem pick_ok (c x y : Operand) : ActOk P γ n (.pick c x y) (xPick P n c x y) := by
  unfold xPick
  split <;> try exact actOk_no
  rename_i f1 h1
  split <;> try exact actOk_no
  rename_i f2 h2
  split <;> try exact actOk_no
  rename_i f3 h3
  refine actOk_bind (F := fun env s => pickB (f1 env) (f2 env) (f3 env) s) ?_
  intro env s v s' hF ρ w a o ho hr hg hops
  have hc := hops c (.head _) f1 h1
  have hx := hops x (.tail _ (.head _)) f2 h2
  have hy := hops y (.tail _ (.tail _ (.head _))) f3 h3
  have he : execOp a.eval o = (do pure (.value (if ← asBool (a.eval c) then a.eval x else a.eval y))) := by simp only [execOp, ho]
  rw [he]
  generalize f1 env = cv at hF hc
  generalize a.eval c = cv' at hc
  cases hc <;> (try (cases hF; done))
  rename_i t
  cases t
  · cases hF
    exact .inl ⟨_, w, ρ, rfl, Goes.refl ρ s w, hr, hy⟩
  · cases hF
    exact .inl ⟨_, w, ρ, rfl, Goes.refl ρ s w, hr, hx⟩

theorem alloc_ok (e : Nat) : ActOk P γ n (.alloc e) (xAlloc P e) := by
  unfold xAlloc
  split <;> try exact actOk_no
  rename_i z hz
  refine actOk_val (F := fun env s => .ok (.ptr s.next 0) (s.new (rowOf z.cells e 0))) (fun _ => Instr.alloc e true (.tuple #[])) (fun a o ho => by simp only [execOp, ho]) ?_
  intro env s v s' hF ρ w a hr hops
  cases hF
  exact alloc_sim hr hz

theorem box_ok (e : Nat) (x : Operand) : ActOk P γ n (.box e x) (xBox P n e x) := by
  unfold xBox
  split <;> try exact actOk_no
  rename_i f hf
  split <;> try exact actOk_no
  rename_i z hz
  refine actOk_val (F := fun env s => .ok (.ptr s.next 0) (s.new (rowOf (f env).cells e 0))) (fun ev => Instr.box e (ev x)) (fun a o ho => by simp only [execOp, ho]) ?_
  intro env s v s' hF ρ w a hr hops
  cases hF
  exact box_sim hr (hops x (.head _) f hf) hz

theorem build_ok (t : Nat) (ps : Array (Nat × Operand)) : ActOk P γ n (.build t ps) (xBuild P n t ps.toList) := by
  unfold xBuild
  split <;> try exact actOk_no
  rename_i f hf
  split <;> try exact actOk_no
  rename_i z hz
  split <;> try exact actOk_no
  rename_i u hu
  split <;> try exact actOk_no
  rename_i hb
  refine actOk_val (F := fun env s => valAgg s (buildIn P u z.cells (f env))) (fun ev => Instr.build t (ps.map fun (i, x) => (i, ev x))) (fun a o ho => by simp only [execOp, ho]) ?_
  intro env s v s' hF ρ w a hr hops
  have hp := OpsR.evp (l := ps.toList) (fun x hx => hops x (by simpa [Op.operands] using hx)) hf
  cases hc : buildIn P u z.cells (f env) with
  | none => rw [hc] at hF; cases hF
  | some c =>
    rw [hc] at hF
    cases hF
    refine build_sim hr hz hu ?_ (by simpa using hp) hc
    intro fs hfs
    subst hfs
    exact hb

theorem buildSlice_ok (t len : Nat) (ps : Array (Nat × Operand)) : ActOk P γ n (.buildSlice t len ps) (xBuildSlice P n t len ps.toList) := by
  unfold xBuildSlice
  split <;> try exact actOk_no
  rename_i f hf
  split <;> try exact actOk_no
  rename_i e he
  split <;> try exact actOk_no
  rename_i z hz
  split <;> try exact actOk_no
  rename_i k hk
  split <;> try exact actOk_no
  rename_i hb
  simp only [Bool.and_eq_true] at hb
  refine actOk_val (F := fun env s => newSl e len s (Eng.fill (fun i => some (i * k, k)) (rep len z.cells) (f env))) (fun ev => Instr.buildSlice t len (ps.map fun (i, x) => (i, ev x))) (fun a o ho => by simp only [execOp, ho]) ?_
  intro env s v s' hF ρ w a hr hops
  have hp := OpsR.evp (l := ps.toList) (fun x hx => hops x (by simpa [Op.operands] using hx)) hf
  cases hc : Eng.fill (fun i => some (i * k, k)) (rep len z.cells) (f env) with
  | none => simp only [hc] at hF; cases hF
  | some c =>
    simp only [hc] at hF
    cases hF
    exact buildSlice_sim hr he hz hk (Nat.le_of_ble_eq_true hb.1) (Nat.eq_of_beq_eq_true hb.2) (by simpa using hp) hc

theorem load_ok (t : Nat) (x : Operand) : ActOk P γ n (.load t x) (xLoad P n t x) := by
  unfold xLoad
  split <;> try exact actOk_no
  rename_i f hf
  split <;> try exact actOk_no
  · rename_i ht
    split <;> try exact actOk_no
    rename_i k hk
    refine actOk_val (F := fun env s => loadA k (f env) s) (fun ev => Instr.loadAt t (ev x)) (fun a o ho => by simp only [execOp, ho]) ?_
    intro env s v s' hF ρ w a hr hops
    exact loadA_sim hr (hops x (.head _) f hf) ht hk hF
  · rename_i ht
    refine actOk_val (F := fun env s => load1 (f env) s) (fun ev => Instr.loadAt t (ev x)) (fun a o ho => by simp only [execOp, ho]) ?_
    intro env s v s' hF ρ w a hr hops
    exact load1_sim hr (hops x (.head _) f hf) ht hF

theorem store_ok (t : Nat) (x y : Operand) : ActOk P γ n (.store t x y) (xStore P n t x y) := by
  unfold xStore
  split <;> try exact actOk_no
  rename_i f hf
  split <;> try exact actOk_no
  rename_i g hg
  split <;> try exact actOk_no
  rename_i k hk
  refine actOk_bind (F := fun env s => storeV k (f env) (g env) s) ?_
  intro env s v s' hF ρ w a o ho hr hgl hops
  obtain ⟨rfl, w', h1, h2, h3⟩ := store_sim hr (hops x (.head _) f hf) (hops y (.tail _ (.head _)) g hg) hk hF
  refine .inr (.inl ⟨rfl, w', ρ, ?_, h2, h3⟩)
  simp only [execOp, ho, Sem.run_bind, h1, Result.andThen_ok, Sem.run_pure]

theorem nil_ok (x : Operand) : ActOk P γ n (.nilCheck x) (xNil P n x) := by
  unfold xNil
  split <;> try exact actOk_no
  rename_i f hf
  refine actOk_bind (F := fun env s => nilV (f env) s) ?_
  intro env s v s' hF ρ w a o ho hr hgl hops
  have hx := hops x (.head _) f hf
  generalize hcv : f env = cv at hF hx
  generalize hev : a.eval x = cv' at hx
  have hx0 := hx
  have fin : (execOp a.eval o).run P w = .ok (.value cv') w → v = cv → s' = s → Gives P γ ρ s w (execOp a.eval o) v s' := by
    rintro h1 rfl rfl
    exact .inl ⟨_, w, ρ, h1, Goes.refl ρ _ w, hr, hx0⟩
  cases hx <;> (try (cases hF; done))
  · cases hF
    exact fin (by unfold execOp; simp only [ho, hev]; rfl) rfl rfl
  · rename_i fn as cs as' cs' hy h1 h2
    cases fn <;> (try (cases hF; done))
    cases hF
    exact fin (by unfold execOp; simp only [ho, hev]; rfl) rfl rfl
  · cases hF
    exact fin (by unfold execOp; simp only [ho, hev]; rfl) rfl rfl

theorem un_ok (op : UnOp) (t : Nat) (x : Operand) : ActOk P γ n (.unOp op t x) (xUn P n op x) := by
  unfold xUn
  split <;> try exact actOk_no
  rename_i f hf
  refine actOk_val (F := fun env s => R.val s (unop op (f env))) (fun ev => Op.unary op (ev x)) (fun a o ho => by simp only [execOp, ho]) ?_
  intro env s v s' hF ρ w a hr hops
  obtain ⟨h1, rfl⟩ := val_ok hF
  obtain ⟨v', q1, q2⟩ := unop_sim (w := w) (hops x (.head _) f hf) h1
  exact Yields.same hr q1 q2

theorem conv_ok (src dst : Nat) (x : Operand) : ActOk P γ n (.convert src dst x) (xConv P n src dst x) := by
  unfold xConv
  split <;> try exact actOk_no
  rename_i f hf
  split <;> try exact actOk_no
  rename_i us hus
  split <;> try exact actOk_no
  rename_i ud hud
  refine actOk_val (F := fun env s => convAt P src dst us ud (f env) s) (fun ev => convert src dst (ev x)) (fun a o ho => by simp only [execOp, ho]) ?_
  intro env s v s' hF ρ w a hr hops
  exact conv_sim hr hus hud (hops x (.head _) f hf) hF

theorem iface_ok (t : Nat) (x : Operand) : ActOk P γ n (.makeInterface t x) (xIface P n t x) := by
  unfold xIface
  split <;> try exact actOk_no
  rename_i f hf
  split <;> try exact actOk_no
  rename_i u hu
  split <;> try exact actOk_no
  rename_i hn
  refine actOk_val (F := fun env s => .ok (.iface t (f env)) s) (fun ev => Instr.makeInterface t (ev x)) (fun a o ho => by simp only [execOp, ho]) ?_
  intro env s v s' hF ρ w a hr hops
  cases hF
  exact iface_sim hr hu hn (hops x (.head _) f hf)

theorem func_ok (f : Fn) (as bs : Array Operand) : ActOk P γ n (.makeFunc f as bs) (xFunc P n f as.toList bs.toList) := by
  unfold xFunc
  split <;> try exact actOk_no
  rename_i g hg
  split <;> try exact actOk_no
  rename_i g2 hg2
  split <;> try exact actOk_no
  rename_i hn
  refine actOk_val (F := fun env s => .ok (.fn f (g env) (g2 env)) s) (fun ev => Instr.makeFunc f (as.map ev) (bs.map ev)) (fun a o ho => by simp only [execOp, ho]) ?_
  intro env s v s' hF ρ w a hr hops
  cases hF
  refine Yields.same hr rfl (.fn _ _ _ _ _ hn ?_ ?_)
  · have := OpsR.evs (l := as.toList) (fun x hx => hops x (by simp [Op.operands]; exact .inl (by simpa using hx))) hg
    simpa using this
  · have := OpsR.evs (l := bs.toList) (fun x hx => hops x (by simp [Op.operands]; exact .inr (by simpa using hx))) hg2
    simpa using this

theorem makeSlice_ok (t : Nat) (l c : Operand) : ActOk P γ n (.makeSlice t l c) (xMakeSlice P n t l c) := by
  unfold xMakeSlice
  split <;> try exact actOk_no
  rename_i f hf
  split <;> try exact actOk_no
  rename_i g hg
  split <;> try exact actOk_no
  rename_i e he
  split <;> try exact actOk_no
  rename_i z hz
  split <;> try exact actOk_no
  rename_i k hk
  split <;> try exact actOk_no
  rename_i hb
  refine actOk_val (F := fun env s => makeSl' e (bytesT P e) z.cells (f env) (g env) s) (fun ev => Instr.makeSlice t (ev l) (ev c)) (fun a o ho => by simp only [execOp, ho]) ?_
  intro env s v s' hF ρ w a hr hops
  exact makeSlice_sim hr he hz hk (Nat.eq_of_beq_eq_true hb) (hops l (.head _) f hf) (hops c (.tail _ (.head _)) g hg) hF

theorem fieldAddr_ok (t k : Nat) (x : Operand) : ActOk P γ n (.fieldAddr t x k) (xFieldAddr P n t k x) := by
  unfold xFieldAddr
  split <;> try exact actOk_no
  rename_i f hf
  split <;> try exact actOk_no
  rename_i fd hfd
  split <;> try exact actOk_no
  rename_i m hm
  refine actOk_val (F := fun env s => addrV fd.offset (f env) s) (fun ev => Instr.fieldAt t (ev x) k) (fun a o ho => by simp only [execOp, ho]) ?_
  intro env s v s' hF ρ w a hr hops
  exact fieldAddr_sim hr hfd hm (hops x (.head _) f hf) hF

theorem field_ok (t k : Nat) (x : Operand) : ActOk P γ n (.field t x k) (xField P n t k x) := by
  unfold xField
  split <;> try exact actOk_no
  rename_i f hf
  split <;> try exact actOk_no
  rename_i fd hfd
  refine actOk_val (F := fun env s => partV P fd.type fd.offset (f env) s) (fun ev => Instr.field t (ev x) k) (fun a o ho => by simp only [execOp, ho]) ?_
  intro env s v s' hF ρ w a hr hops
  exact field_sim hr hfd (hops x (.head _) f hf) hF

theorem indexAddr_ok (t : Nat) (x i : Operand) : ActOk P γ n (.indexAddr t x i) (xIndexAddr P n t x i) := by
  unfold xIndexAddr
  split <;> try exact actOk_no
  rename_i f hf
  split <;> try exact actOk_no
  rename_i g hg
  split <;> try exact actOk_no
  · rename_i e hu
    split <;> try exact actOk_no
    rename_i sz hsz
    refine actOk_val (F := fun env s => atSl sz (f env) (g env) s) (fun ev => Instr.indexAt t (ev x) (ev i)) (fun a o ho => by simp only [execOp, ho]) ?_
    intro env s v s' hF ρ w a hr hops
    exact atSl_sim hr hu hsz (hops x (.head _) f hf) (hops i (.tail _ (.head _)) g hg) hF
  · rename_i m e hu
    split <;> try exact actOk_no
    rename_i sz hsz
    refine actOk_val (F := fun env s => atArr m sz (f env) (g env).nat s) (fun ev => Instr.indexAt t (ev x) (ev i)) (fun a o ho => by simp only [execOp, ho]) ?_
    intro env s v s' hF ρ w a hr hops
    exact atArr_sim hr hu hsz (hops x (.head _) f hf) (hops i (.tail _ (.head _)) g hg) hF

theorem index_ok (t : Nat) (x i : Operand) : ActOk P γ n (.index t x i) (xIndex P n t x i) := by
  unfold xIndex
  split <;> try exact actOk_no
  rename_i f hf
  split <;> try exact actOk_no
  rename_i g hg
  split <;> try exact actOk_no
  · rename_i hu
    refine actOk_val (F := fun env s => atStr (f env) (g env).nat s) (fun ev => Instr.index t (ev x) (ev i)) (fun a o ho => by simp only [execOp, ho]) ?_
    intro env s v s' hF ρ w a hr hops
    exact atStr_sim hr hu (hops x (.head _) f hf) (hops i (.tail _ (.head _)) g hg) hF
  · rename_i m e hu
    split <;> try exact actOk_no
    rename_i sz hsz
    refine actOk_val (F := fun env s => atAgg P m e sz (f env) (g env).nat s) (fun ev => Instr.index t (ev x) (ev i)) (fun a o ho => by simp only [execOp, ho]) ?_
    intro env s v s' hF ρ w a hr hops
    exact atAgg_sim hr hu hsz (hops x (.head _) f hf) (hops i (.tail _ (.head _)) g hg) hF

theorem range_ok (t : Nat) (x : Operand) : ActOk P γ n (.range t x) (xRange P n t x) := by
  unfold xRange
  split <;> try exact actOk_no
  rename_i f hf
  split <;> try exact actOk_no
  rename_i ht
  refine actOk_val (F := fun env s => rangeV (f env) s) (fun ev => Instr.range t (ev x)) (fun a o ho => by simp only [execOp, ho]) ?_
  intro env s v s' hF ρ w a hr hops
  exact range_sim hr ht (hops x (.head _) f hf) hF

theorem makeMap_ok (t : Nat) (r : Option Operand) : ActOk P γ n (.makeMap t r) (xMakeMap n r) := by
  unfold xMakeMap
  cases r with
  | some _ => exact actOk_no
  | none =>
    refine actOk_val (F := fun _ s => .ok (.map s.next) (s.new (.map [] 0))) (fun _ => Instr.makeMap t none) (fun a o ho => by simp only [execOp, ho]; rfl) ?_
    intro env s v s' hF ρ w a hr hops
    cases hF
    exact makeMap_sim hr

theorem lookup_ok (t : Nat) (x y : Operand) (ok : Bool) : ActOk P γ n (.lookup t x y ok) (xLookup P n t x y ok) := by
  unfold xLookup
  split <;> try exact actOk_no
  rename_i f hf
  split <;> try exact actOk_no
  rename_i g hg
  split <;> try exact actOk_no
  rename_i kt e ht
  refine actOk_val (F := fun env s => lookV P kt e ok (f env) (g env) s) (fun ev => Instr.lookup t (ev x) (ev y) ok) (fun a o ho => by simp only [execOp, ho]) ?_
  intro env s v s' hF ρ w a hr hops
  exact lookV_sim hr ht (hops x (.head _) f hf) (hops y (.tail _ (.head _)) g hg) hF

theorem update_ok (t : Nat) (x y z : Operand) (op : Op) (hop : op = .mapUpdate t x y z ∨ op = .insert t x y z) : ActOk P γ n op (xUpdate P n t x y z) := by
  have hmem : op.operands.toList = [x, y, z] := by rcases hop with rfl | rfl <;> rfl
  unfold xUpdate
  split <;> try exact actOk_no
  rename_i f hf
  split <;> try exact actOk_no
  rename_i g hg
  split <;> try exact actOk_no
  rename_i v hv
  split <;> try exact actOk_no
  rename_i kt e ht
  refine actOk_bind (F := fun env s => updV P kt (f env) (g env) (v env) s) ?_
  intro env s v0 s' hF ρ w a o ho hr hgl hops
  rw [hmem] at hops
  obtain ⟨rfl, w', h1, h2, h3⟩ := updV_sim hr ht (hops x (.head _) f hf) (hops y (.tail _ (.head _)) g hg) (hops z (.tail _ (.tail _ (.head _))) v hv) hF
  refine .inr (.inl ⟨rfl, w', ρ, ?_, h2, h3⟩)
  rcases hop with rfl | rfl <;> simp only [execOp, ho, Sem.run_bind, h1, Result.andThen_ok, Sem.run_pure]

theorem entry_ok (t : Nat) (x y : Operand) : ActOk P γ n (.mapEntry t x y) (xEntry P n t x y) := by
  unfold xEntry
  split <;> try exact actOk_no
  rename_i f hf
  split <;> try exact actOk_no
  rename_i g hg
  split <;> try exact actOk_no
  rename_i kt e ht
  refine actOk_val (F := fun env s => entV P kt e (f env) (g env) s) (fun ev => Instr.mapEntry t (ev x) (ev y)) (fun a o ho => by simp only [execOp, ho]) ?_
  intro env s v s' hF ρ w a hr hops
  exact entV_sim hr ht (hops x (.head _) f hf) (hops y (.tail _ (.head _)) g hg) hF

theorem entryStore_ok (t : Nat) (x y z : Operand) : ActOk P γ n (.entryStore t x y z) (xEntryStore P n x y z) := by
  unfold xEntryStore
  split <;> try exact actOk_no
  rename_i f hf
  split <;> try exact actOk_no
  rename_i g hg
  split <;> try exact actOk_no
  rename_i v hv
  refine actOk_bind (F := fun env s => entStV (f env) (g env) (v env) s) ?_
  intro env s v0 s' hF ρ w a o ho hr hgl hops
  obtain ⟨rfl, w', h1, h2, h3⟩ := entStV_sim (t := t) hr (hops x (.head _) f hf) (hops y (.tail _ (.head _)) g hg) (hops z (.tail _ (.tail _ (.head _))) v hv) hF
  refine .inr (.inl ⟨rfl, w', ρ, ?_, h2, h3⟩)
  simp only [execOp, ho, Sem.run_bind, h1, Result.andThen_ok, Sem.run_pure]

theorem assert_ok (x : Operand) (xt t : Nat) (ok : Bool) : ActOk P γ n (.typeAssert x xt t ok) (xAssert P n t x ok) := by
  unfold xAssert
  split <;> try exact actOk_no
  rename_i f hf
  split <;> try exact actOk_no
  rename_i u hu
  split
  · rename_i want
    refine actOk_val (F := fun env s => R.val s (assertI P t ok want (f env))) (fun ev => Instr.typeAssert (ev x) xt t ok) (fun a o ho => by simp only [execOp, ho]) ?_
    intro env s v s' hF ρ w a hr hops
    obtain ⟨h1, rfl⟩ := val_ok hF
    exact assertI_sim hr hu (hops x (.head _) f hf) h1
  · rename_i hni
    refine actOk_val (F := fun env s => R.val s (assertC P t ok (f env))) (fun ev => Instr.typeAssert (ev x) xt t ok) (fun a o ho => by simp only [execOp, ho]) ?_
    intro env s v s' hF ρ w a hr hops
    obtain ⟨h1, rfl⟩ := val_ok hF
    exact assertC_sim hr hu (fun ms e => hni ms (by rw [e])) (hops x (.head _) f hf) h1

theorem extract_ok (x : Operand) (i : Nat) : ActOk P γ n (.extract x i) (xExtract P n x i) := by
  unfold xExtract
  split <;> try exact actOk_no
  rename_i f hf
  refine actOk_val (F := fun env s => extrV i (f env) s) (fun ev => Instr.extract (ev x) i) (fun a o ho => by simp only [execOp, ho]) ?_
  intro env s v s' hF ρ w a hr hops
  exact extract_sim hr (hops x (.head _) f hf) hF
end ops
end Go.Eng
