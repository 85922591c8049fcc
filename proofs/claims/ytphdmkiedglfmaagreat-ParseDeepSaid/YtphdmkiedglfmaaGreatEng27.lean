/- A part of the proof: an interpreter of the program, shown right once, and the laws that it computes. -/
import Derived.Test.YtphdmkiedglfmaaGreatEng24
set_option linter.constructorNameAsVariable false
set_option linter.unusedVariables false
set_option linter.unusedSimpArgs false
namespace Go.Eng
variable {P : Program} {γ : Gam}

/-- It hands back the state, and goes on. -/
def SoftA (fa : Ext → Rec → Env → St → KV → R) : Prop := ∀ X rec env s k v1 s1, fa X rec env s k = .ok v1 s1 → ∃ v, k v s = .ok v1 s1 ∧ fa noExt noRec env s .ok = .ok v s
/-- What it yields hangs on no state. -/
def PureA (fa : Ext → Rec → Env → St → KV → R) : Prop := SoftA fa ∧ ∀ env s v, fa noExt noRec env s .ok = .ok v s → ∀ s2, fa noExt noRec env s2 .ok = .ok v s2
/-- What it yields hangs on what there is, not on what comes newly. -/
def ReadA (fa : Ext → Rec → Env → St → KV → R) : Prop := SoftA fa ∧ (∀ env s v x, s.get s.next = .dead → fa noExt noRec env s .ok = .ok v s → fa noExt noRec env (s.new x) .ok = .ok v (s.new x)) ∧
  ∀ env s v s', fa noExt noRec env s .ok = .ok v s' → s' = s

def PureF (F : Env → St → R) : Prop := ∀ env s v s', F env s = .ok v s' → s' = s ∧ ∀ s2, F env s2 = .ok v s2
def ReadF (F : Env → St → R) : Prop := ∀ env s v s', F env s = .ok v s' → s' = s ∧ ∀ x, s.get s.next = .dead → F env (s.new x) = .ok v (s.new x)

theorem PureF.read {F : Env → St → R} (h : PureF F) : ReadF F := fun env s v s' hF => ⟨(h env s v s' hF).1, fun x _ => (h env s v s' hF).2 _⟩
theorem soft_of {F : Env → St → R} (h : ∀ env s v s', F env s = .ok v s' → s' = s) : SoftA fun _ _ env s q => (F env s).bind q := by
  intro X rec env s k v1 s1 hk
  obtain ⟨v, s', h1, h2⟩ := bind_ok hk
  have := h env s v s' h1
  subst this
  exact ⟨v, h2, by show (F env s').bind .ok = _; rw [h1]; rfl⟩
theorem bind_ret {r : R} {v : IV} {s : St} (h : r.bind .ok = .ok v s) : r = .ok v s := by cases r with
  | no => cases h
  | ok v' s' => exact h
theorem PureF.act {F : Env → St → R} (h : PureF F) : PureA fun _ _ env s q => (F env s).bind q :=
  ⟨soft_of fun env s v s' hF => (h env s v s' hF).1, fun env s v hv s2 => by
    have := (h env s v s (bind_ret hv)).2 s2
    show (F env s2).bind .ok = _; rw [this]; rfl⟩
theorem ReadF.act {F : Env → St → R} (h : ReadF F) : ReadA fun _ _ env s q => (F env s).bind q :=
  ⟨soft_of fun env s v s' hF => (h env s v s' hF).1, fun env s v x hd hv => by
    have := (h env s v s (bind_ret hv)).2 x hd
    show (F env (s.new x)).bind .ok = _; rw [this]; rfl, fun env s v s' hv => (h env s v s' (bind_ret hv)).1⟩
theorem pure_val (G : Env → Option IV) : PureF fun env s => R.val s (G env) := by
  intro env s v s' h
  obtain ⟨h1, rfl⟩ := val_ok h
  exact ⟨rfl, fun s2 => by show R.val s2 (G env) = _; rw [h1]; rfl⟩
theorem pure_ok (G : Env → IV) : PureF fun env s => .ok (G env) s := by
  intro env s v s' h
  cases h
  exact ⟨rfl, fun s2 => rfl⟩

/-- A pure one, or none. -/
def PureAct (A : Eng.Act) : Prop := ∀ fa, A = .mk fa → PureA fa
def ReadAct (A : Eng.Act) : Prop := ∀ fa, A = .mk fa → ReadA fa
theorem pureAct_no : PureAct noAct := by
  intro fa h; cases h
  exact ⟨fun X rec env s k v1 s1 h => (by cases h), fun env s v h => (by cases h)⟩
theorem readAct_no : ReadAct noAct := by
  intro fa h; cases h
  exact ⟨fun X rec env s k v1 s1 h => (by cases h), fun env s v x _ h => (by cases h), fun env s v s' h => (by cases h)⟩
theorem PureF.mk {F : Env → St → R} (h : PureF F) : PureAct (.mk fun _ _ env s q => (F env s).bind q) := by intro fa hf; cases hf; exact h.act
theorem ReadF.mk {F : Env → St → R} (h : ReadF F) : ReadAct (.mk fun _ _ env s q => (F env s).bind q) := by intro fa hf; cases hf; exact h.act

theorem pure_r {F : Env → St → R} (h : ∀ env, (∃ v, ∀ s, F env s = .ok v s) ∨ ∀ s, F env s = .no) : PureF F := by
  intro env s v s' hF
  rcases h env with ⟨v0, h0⟩ | h0
  · rw [h0] at hF; cases hF; exact ⟨rfl, h0⟩
  · rw [h0] at hF; cases hF

section ops
variable {n : Nat}
theorem move_pure (x : Operand) : PureAct (xMove P n x) := by
  unfold xMove
  split
  · rename_i f hf; exact (pure_ok f).mk
  · exact pureAct_no
theorem pick_pure (c x y : Operand) : PureAct (xPick P n c x y) := by
  unfold xPick
  split <;> try exact pureAct_no
  rename_i f1 h1
  split <;> try exact pureAct_no
  rename_i f2 h2
  split <;> try exact pureAct_no
  rename_i f3 h3
  refine PureF.mk (F := fun env s => pickB (f1 env) (f2 env) (f3 env) s) (pure_r fun env => ?_)
  unfold pickB
  cases f1 env <;> first
    | (exact .inr fun s => rfl)
    | (rename_i b; cases b <;> exact .inl ⟨_, fun s => rfl⟩)
theorem build_pure (t : Nat) (ps : List (Nat × Operand)) : PureAct (xBuild P n t ps) := by
  unfold xBuild
  split <;> try exact pureAct_no
  split <;> try exact pureAct_no
  split <;> try exact pureAct_no
  split <;> try exact pureAct_no
  rename_i f hf _ z hz _ u hu _ hb
  refine PureF.mk (F := fun env s => valAgg s (buildIn P u z.cells (f env))) (pure_r fun env => ?_)
  cases buildIn P u z.cells (f env) with
  | none => exact .inr fun s => rfl
  | some c => exact .inl ⟨_, fun s => rfl⟩
theorem nil_pure (x : Operand) : PureAct (xNil P n x) := by
  unfold xNil
  split <;> try exact pureAct_no
  rename_i f hf
  refine PureF.mk (F := fun env s => nilV (f env) s) (pure_r fun env => ?_)
  unfold nilV nilV'
  cases f env <;> first
    | (exact .inr fun s => rfl)
    | (exact .inl ⟨_, fun s => rfl⟩)
    | (rename_i fn _ _; cases fn <;> first | (exact .inr fun s => rfl) | (exact .inl ⟨_, fun s => rfl⟩))
theorem bin_pure (op : BinOp) (t : Nat) (x y : Operand) : PureAct (xBin P n op t x y) := by
  unfold xBin
  split <;> try exact pureAct_no
  rename_i f hf
  split <;> try exact pureAct_no
  rename_i g hg
  split
  rename_i h hop
  refine PureF.mk (F := fun env s => binInt P op h t x y (f env) (g env) s) (pure_r fun env => ?_)
  have hv : ∀ a b, (∃ v, ∀ s, binV P op t x y a b s = .ok v s) ∨ ∀ s, binV P op t x y a b s = .no := by
    intro a b
    unfold binV
    cases eqSafe P op t x y a b with
    | false => exact .inr fun s => rfl
    | true =>
      cases binop P op t a b with
      | none => exact .inr fun s => rfl
      | some v => exact .inl ⟨v, fun s => rfl⟩
  unfold binInt
  generalize f env = a
  generalize g env = b
  cases a <;> (try exact hv _ _)
  cases b <;> (try exact hv _ _)
  rename_i k m k' m'
  show (∃ v, ∀ s, Bool.rec (motive := fun _ => R) (binV P op t x y (.int k m) (.int k' m') s) (R.val s (h k m m')) (kindEq k k') = .ok v s) ∨ ∀ s, Bool.rec (motive := fun _ => R) (binV P op t x y (.int k m) (.int k' m') s) (R.val s (h k m m')) (kindEq k k') = .no
  cases kindEq k k' with
  | false => exact hv _ _
  | true =>
    cases h k m m' with
    | none => exact .inr fun s => rfl
    | some v => exact .inl ⟨v, fun s => rfl⟩
theorem un_pure (op : UnOp) (x : Operand) : PureAct (xUn P n op x) := by
  unfold xUn
  split <;> try exact pureAct_no
  rename_i f hf
  exact (pure_val fun env => unop op (f env)).mk
theorem iface_pure (t : Nat) (x : Operand) : PureAct (xIface P n t x) := by
  unfold xIface
  split <;> try exact pureAct_no
  split <;> try exact pureAct_no
  split <;> try exact pureAct_no
  rename_i f hf _ u hu _ hn
  exact (pure_ok fun env => .iface t (f env)).mk
theorem func_pure (f : Fn) (as bs : List Operand) : PureAct (xFunc P n f as bs) := by
  unfold xFunc
  split <;> try exact pureAct_no
  split <;> try exact pureAct_no
  split <;> try exact pureAct_no
  rename_i g hg _ g2 hg2 _ hn
  exact (pure_ok fun env => .fn f (g env) (g2 env)).mk
theorem fieldAddr_pure (t k : Nat) (x : Operand) : PureAct (xFieldAddr P n t k x) := by
  unfold xFieldAddr
  split <;> try exact pureAct_no
  split <;> try exact pureAct_no
  split <;> try exact pureAct_no
  rename_i f hf _ fd hfd _ m hm
  refine PureF.mk (F := fun env s => addrV fd.offset (f env) s) (pure_r fun env => ?_)
  unfold addrV
  cases f env <;> first | (exact .inr fun s => rfl) | (exact .inl ⟨_, fun s => rfl⟩)
theorem field_pure (t k : Nat) (x : Operand) : PureAct (xField P n t k x) := by
  unfold xField
  split <;> try exact pureAct_no
  split <;> try exact pureAct_no
  rename_i f hf _ fd hfd
  refine PureF.mk (F := fun env s => partV P fd.type fd.offset (f env) s) (pure_r fun env => ?_)
  unfold partV
  cases f env <;> first
    | (exact .inr fun s => rfl)
    | (rename_i cs
       simp only
       cases part P fd.type cs fd.offset with
       | none => exact .inr fun s => rfl
       | some v => exact .inl ⟨v, fun s => rfl⟩)
theorem indexAddr_pure (t : Nat) (x i : Operand) : PureAct (xIndexAddr P n t x i) := by
  unfold xIndexAddr
  split <;> try exact pureAct_no
  rename_i f hf
  split <;> try exact pureAct_no
  rename_i g hg
  split <;> try exact pureAct_no
  · split <;> try exact pureAct_no
    rename_i sz hsz
    refine PureF.mk (F := fun env s => atSl sz (f env) (g env) s) (pure_r fun env => ?_)
    unfold atSl
    generalize f env = a
    generalize g env = b
    cases b <;> (try (exact .inr fun s => rfl))
    rename_i k m
    cases m with
    | negSucc m => exact .inr fun s => rfl
    | ofNat m =>
      cases a <;> (try (exact .inr fun s => rfl))
      rename_i b o l c ex
      show (∃ v, ∀ s, Bool.rec (motive := fun _ => R) .no (.ok (.ptr b (Nat.add o (Nat.mul m sz))) s) (Nat.ble (Nat.succ m) l) = .ok v s) ∨ ∀ s, Bool.rec (motive := fun _ => R) .no (.ok (.ptr b (Nat.add o (Nat.mul m sz))) s) (Nat.ble (Nat.succ m) l) = .no
      cases Nat.ble (Nat.succ m) l
      · exact .inr fun s => rfl
      · exact .inl ⟨_, fun s => rfl⟩
  · split <;> try exact pureAct_no
    rename_i m e hu _ sz hsz
    refine PureF.mk (F := fun env s => atArr m sz (f env) (g env).nat s) (pure_r fun env => ?_)
    unfold atArr
    generalize f env = a
    cases (g env).nat with
    | none => exact .inr fun s => rfl
    | some i =>
      cases a <;> (try (exact .inr fun s => rfl))
      simp only
      cases Nat.blt i m
      · exact .inr fun s => rfl
      · exact .inl ⟨_, fun s => rfl⟩
theorem index_pure (t : Nat) (x i : Operand) : PureAct (xIndex P n t x i) := by
  unfold xIndex
  split <;> try exact pureAct_no
  rename_i f hf
  split <;> try exact pureAct_no
  rename_i g hg
  split <;> try exact pureAct_no
  · refine PureF.mk (F := fun env s => atStr (f env) (g env).nat s) (pure_r fun env => ?_)
    unfold atStr
    generalize f env = a
    cases (g env).nat with
    | none => exact .inr fun s => rfl
    | some i =>
      cases a <;> (try (exact .inr fun s => rfl)) <;>
      · rename_i l
        simp only
        cases nth l i with
        | none => exact .inr fun s => rfl
        | some c => exact .inl ⟨_, fun s => rfl⟩
  · split <;> try exact pureAct_no
    rename_i m e hu _ sz hsz
    refine PureF.mk (F := fun env s => atAgg P m e sz (f env) (g env).nat s) (pure_r fun env => ?_)
    unfold atAgg
    generalize f env = a
    cases (g env).nat with
    | none => exact .inr fun s => rfl
    | some i =>
      cases a <;> (try (exact .inr fun s => rfl))
      rename_i cs
      simp only
      cases Nat.blt i m
      · exact .inr fun s => rfl
      · cases part P e cs (Nat.mul i sz) with
        | none => exact .inr fun s => rfl
        | some v => exact .inl ⟨v, fun s => rfl⟩
theorem assert_pure (t : Nat) (x : Operand) (ok : Bool) : PureAct (xAssert P n t x ok) := by
  unfold xAssert
  split <;> try exact pureAct_no
  rename_i f hf
  split <;> try exact pureAct_no
  rename_i u hu
  split
  · rename_i want; exact (pure_val fun env => assertI P t ok want (f env)).mk
  · exact (pure_val fun env => assertC P t ok (f env)).mk
theorem extract_pure (x : Operand) (i : Nat) : PureAct (xExtract P n x i) := by
  unfold xExtract
  split <;> try exact pureAct_no
  rename_i f hf
  refine PureF.mk (F := fun env s => extrV i (f env) s) (pure_r fun env => ?_)
  unfold extrV
  generalize f env = a
  cases a <;> (try (exact .inr fun s => rfl))
  rename_i vs
  simp only
  cases nth vs i with
  | none => exact .inr fun s => rfl
  | some v => exact .inl ⟨v, fun s => rfl⟩

/- reads -/
theorem get_new_old {s : St} {x : IObj} {b : Nat} (hd : s.get s.next = .dead) (h : s.get b ≠ .dead) : (s.new x).get b = s.get b := by
  rw [get_new, if_neg]
  intro e; subst e; exact h hd
theorem rd_new {s : St} {x : IObj} {b o k : Nat} {l : List IV} (hd : s.get s.next = .dead) (h : s.rd b o k = some l) : (s.new x).rd b o k = some l := by
  obtain ⟨c, len, e, fz, str, hg, _⟩ := rd_some h
  unfold St.rd at h ⊢
  rw [get_new_old hd (by rw [hg]; exact fun h => by cases h)]
  exact h
theorem load_read (t : Nat) (x : Operand) : ReadAct (xLoad P n t x) := by
  unfold xLoad
  split <;> try exact readAct_no
  rename_i f hf
  split <;> try exact readAct_no
  · split <;> try exact readAct_no
    rename_i k hk
    refine ReadF.mk (F := fun env s => loadA k (f env) s) ?_
    intro env s v s' h
    change loadA k (f env) s = .ok v s' at h
    unfold loadA valAgg at h
    split at h <;> (try (cases h; done))
    rename_i b o hv
    split at h <;> (try (cases h; done))
    rename_i l hl
    cases h
    refine ⟨rfl, fun x hd => ?_⟩
    show loadA k (f env) _ = _
    rw [hv]
    unfold loadA valAgg
    simp only [rd_new hd hl]
  · refine ReadF.mk (F := fun env s => load1 (f env) s) ?_
    intro env s v s' h
    change load1 (f env) s = .ok v s' at h
    generalize hfe : f env = a at h
    cases a <;> (try (simp [load1, IV.onPtr] at h; done))
    rename_i b o
    change R.val s (cellOf o (s.get b)) = .ok v s' at h
    obtain ⟨h1, rfl⟩ := val_ok h
    refine ⟨rfl, fun x hd => ?_⟩
    show load1 (f env) _ = _
    rw [hfe]
    show R.val _ (cellOf o ((s'.new x).get b)) = _
    rw [get_new_old hd (by intro e; rw [e] at h1; cases h1), h1]
    rfl
theorem slice_read (t : Nat) (x : Operand) (lo hi mx : Option Operand) : ReadAct (xSlice P n t x lo hi mx) := by
  unfold xSlice
  split <;> try exact readAct_no
  rename_i f hf
  split <;> try exact readAct_no
  rename_i u hu
  split <;> try exact readAct_no
  refine ReadF.mk (F := fun env s => sliceV P u (f env) (evnGet (evnT P n lo) env) (evnGet (evnT P n hi) env) (evnGet (evnT P n mx) env) s) ?_
  intro env s v s' h
  change sliceV P u (f env) (evnGet (evnT P n lo) env) (evnGet (evnT P n hi) env) (evnGet (evnT P n mx) env) s = .ok v s' at h
  show s' = s ∧ ∀ x, s.get s.next = .dead → sliceV P u (f env) (evnGet (evnT P n lo) env) (evnGet (evnT P n hi) env) (evnGet (evnT P n mx) env) (s.new x) = .ok v (s.new x)
  generalize evnGet (evnT P n lo) env = elo at h ⊢
  generalize evnGet (evnT P n hi) env = ehi at h ⊢
  generalize evnGet (evnT P n mx) env = emx at h ⊢
  generalize f env = a at h ⊢
  unfold sliceV at h ⊢
  cases elo with
  | none => cases h
  | some lo' =>
    cases ehi with
    | none => cases h
    | some hi' =>
      cases emx with
      | none => cases h
      | some mx' =>
        simp only at h ⊢
        cases hok : slOk u a s with
        | false => rw [hok] at h; cases h
        | true =>
          rw [hok] at h
          obtain ⟨h1, rfl⟩ := val_ok h
          refine ⟨rfl, fun x hd => ?_⟩
          have : slOk u a (s'.new x) = true := by
            cases a <;> (try rfl)
            rename_i b o l c ex
            cases ex
            · cases u <;> (try rfl)
              rename_i e
              change rowIs e (s'.get b) = true at hok
              show rowIs e ((s'.new x).get b) = true
              rw [get_new_old hd]
              · exact hok
              · intro hde; rw [hde] at hok; cases hok
            · rfl
          rw [this, h1]
          rfl
theorem conv_cls {src dst : Nat} (x : Operand) : (clsOf P (.convert src dst x) = .pure → PureAct (xConv P n src dst x)) ∧ (clsOf P (.convert src dst x) = .read → ReadAct (xConv P n src dst x)) := by
  change (clsConv (undI P src) (undI P dst) = .pure → _) ∧ (clsConv (undI P src) (undI P dst) = .read → _)
  unfold xConv
  cases evT P n x with
  | no => exact ⟨fun _ => pureAct_no, fun _ => readAct_no⟩
  | mk f =>
    cases hs : undI P src with
    | none => exact ⟨fun _ => pureAct_no, fun _ => readAct_no⟩
    | some us =>
      cases hd : undI P dst with
      | none => exact ⟨fun _ => pureAct_no, fun _ => readAct_no⟩
      | some ud =>
        simp only
        constructor
        · intro hc
          refine PureF.mk (F := fun env s => convAt P src dst us ud (f env) s) (pure_r fun env => ?_)
          unfold convAt
          cases us <;> (try (cases hc; done)) <;> cases ud <;> (try (cases hc; done)) <;> cases f env <;> first
            | (exact .inl ⟨_, fun s => rfl⟩)
            | (exact .inr fun s => rfl)
            | (rename_i k j
               simp only
               cases letConv j k with
               | none => exact .inr fun s => rfl
               | some c => exact .inl ⟨_, fun s => rfl⟩)
        · intro hc
          refine ReadF.mk (F := fun env s => convAt P src dst us ud (f env) s) ?_
          cases us <;> (try (cases hc; done)) <;> cases ud <;> (try (cases hc; done))
          rename_i e
          intro env s v s' h
          unfold convAt at h ⊢
          simp only at h ⊢
          generalize f env = a at h ⊢
          cases a <;> simp only at h ⊢ <;> (try (cases h; exact ⟨rfl, fun x _ => rfl⟩)) <;> unfold ofBytes at h ⊢ <;> (cases hb : isByte P e with
            | false => rw [hb] at h; cases h
            | true =>
              rw [hb] at h
              simp only at h ⊢
              first
                | (cases h; done)
                | (cases h; exact ⟨rfl, fun x _ => rfl⟩)
                | (unfold strOfBytes at h ⊢
                   split at h <;> (try (cases h; done))
                   rename_i l hl
                   split at h
                   · rename_i r hr
                     cases h
                     refine ⟨rfl, fun x hd => ?_⟩
                     rw [rd_new hd hl]
                     simp only [hr]
                   · rename_i hr
                     split at h <;> (try (cases h; done))
                     rename_i r hr2
                     cases h
                     refine ⟨rfl, fun x hd => ?_⟩
                     rw [rd_new hd hl]
                     simp only [hr, hr2]))
theorem builtin_pure (c : Call) (h : clsOf P (.call c) = .pure) : PureAct (xCall P n c) := by
  change clsCall P c.callee c.argTypes = .pure at h
  unfold xCall
  unfold clsCall at h
  split at h <;> (try (cases h; done))
  rename_i b hb
  rw [hb]
  simp only
  unfold xBuiltin
  split <;> try exact pureAct_no
  · split <;> try exact pureAct_no
    rename_i f hf
    unfold b1T
    unfold clsBuiltin at h
    cases b <;> (try (cases h; done)) <;> simp only <;> (try exact pureAct_no)
    · split <;> try exact pureAct_no
      refine PureF.mk (F := fun env s => capOf (f env) s) (pure_r fun env => ?_)
      unfold capOf
      cases f env <;> first | (exact .inl ⟨_, fun s => rfl⟩) | (exact .inr fun s => rfl) | (rename_i ex; cases ex <;> first | (exact .inl ⟨_, fun s => rfl⟩) | (exact .inr fun s => rfl))
    · split <;> try exact pureAct_no
      · refine PureF.mk (F := fun env s => lenStr (f env) s) (pure_r fun env => ?_)
        unfold lenStr
        cases f env <;> first | (exact .inl ⟨_, fun s => rfl⟩) | (exact .inr fun s => rfl)
      · rename_i hd; simp only [hd] at h; cases h
      · refine PureF.mk (F := fun env s => lenSl (f env) s) (pure_r fun env => ?_)
        unfold lenSl
        cases f env <;> first | (exact .inl ⟨_, fun s => rfl⟩) | (exact .inr fun s => rfl)
  · split <;> try exact pureAct_no
    rename_i f hf
    split <;> try exact pureAct_no
    rename_i g hg
    have hmm : ∀ (mx : Bool) (m : Int → Int → Int), PureF fun env s => doMinMax mx m (f env) (g env) s := by
      intro mx m
      refine pure_r fun env => ?_
      unfold doMinMax
      generalize f env = a
      generalize g env = b
      cases a <;> (try (exact .inr fun s => rfl))
      · cases b <;> (try (exact .inr fun s => rfl))
        · rename_i k _ k' _
          simp only
          cases kindEq k k' <;> first | (exact .inl ⟨_, fun s => rfl⟩) | (exact .inr fun s => rfl)
        · rename_i k c j
          simp only
          cases rngMM mx j k c with
          | none => exact .inr fun s => rfl
          | some v => exact .inl ⟨v, fun s => rfl⟩
      · cases b <;> (try (exact .inr fun s => rfl))
        rename_i j k c
        simp only
        cases rngMM mx j k c with
        | none => exact .inr fun s => rfl
        | some v => exact .inl ⟨v, fun s => rfl⟩
    unfold b2T
    unfold clsBuiltin at h
    cases b <;> (try (cases h; done)) <;> simp only <;> (try exact pureAct_no) <;> exact (hmm _ _).mk
theorem builtin_read (c : Call) (h : clsOf P (.call c) = .read) : ReadAct (xCall P n c) := by
  change clsCall P c.callee c.argTypes = .read at h
  unfold clsCall at h
  split at h <;> (try (cases h; done))
  rename_i b hb
  unfold clsBuiltin at h
  split at h <;> (try (cases h; done))
  split at h <;> (cases h; done)

theorem cls_pure (op : Op) (h : clsOf P op = .pure) : PureAct (execT P n op) := by
  cases op
  case convert src dst x => exact (conv_cls x).1 h
  case call c => exact builtin_pure c h
  all_goals first
    | (cases h; done)
    | exact move_pure _
    | exact pick_pure _ _ _
    | exact build_pure _ _
    | exact nil_pure _
    | exact bin_pure _ _ _ _
    | exact un_pure _ _
    | exact iface_pure _ _
    | exact func_pure _ _ _
    | exact fieldAddr_pure _ _ _
    | exact field_pure _ _ _
    | exact indexAddr_pure _ _ _
    | exact index_pure _ _ _
    | exact assert_pure _ _ _
    | exact extract_pure _ _
theorem cls_read (op : Op) (h : clsOf P op = .read) : ReadAct (execT P n op) := by
  cases op
  case convert src dst x => exact (conv_cls x).2 h
  case call c => exact builtin_read c h
  all_goals first
    | (cases h; done)
    | exact load_read _ _
    | exact slice_read _ _ _ _ _
end ops
end Go.Eng
