/- A part of the proof: an interpreter of the program, shown right once, and the laws that it computes. -/
import Derived.Test.YtfckbfheadoohaaGreatDoorEng24
set_option linter.constructorNameAsVariable false
set_option linter.unusedVariables false
set_option linter.unusedSimpArgs false
namespace Go.Eng
variable {P : Program} {γ : Gam}

/-- It hands back the state, and goes on. -/
def SoftA (fa : Ext → Rec → Env → St → KV → R) : Prop := ∀ X rec env s k v1 s1, fa X rec env s k = .ok v1 s1 → ∃ v, k v s = .ok v1 s1 ∧ fa noExt noRec env s .ok = .ok v s
/-- What it yields hangs on no state. -/
def PureA (fa : Ext → Rec → Env → St → KV → R) : Prop := SoftA fa ∧ ∀ env s v, fa noExt noRec env s .ok = .ok v s → ∀ s2, fa noExt noRec env s2 .ok = .ok v s2
/-- What it yields hangs on what there is, not on what comes newly. -/
def ReadA (fa : Ext → Rec → Env → St → KV → R) : Prop := SoftA fa ∧ (∀ env s v x, s.get s.next = .dead → fa noExt noRec env s .ok = .ok v s → fa noExt noRec env (s.new x) .ok = .ok v (s.new x)) ∧
  ∀ env s v s', fa noExt noRec env s .ok = .ok v s' → s' = s

def PureF (F : Env → St → R) : Prop := ∀ env s v s', F env s = .ok v s' → s' = s ∧ ∀ s2, F env s2 = .ok v s2
def ReadF (F : Env → St → R) : Prop := ∀ env s v s', F env s = .ok v s' → s' = s ∧ ∀ x, s.get s.next = .dead → F env (s.new x) = .ok v (s.new x)

theorem PureF.read {F : Env → St → R} (h : PureF F) : ReadF F := fun env s v s' hF => ⟨(h env s v s' hF).1, fun x _ => (h env s v s' hF).2 _⟩
theorem soft_of {F : Env → St → R} (h : ∀ env s v s', F env s = .ok v s' → s' = s) : SoftA fun _ _ env s q => (F env s).bind q := by
  intro X rec env s k v1 s1 hk
  obtain ⟨v, s', h1, h2⟩ := bind_ok hk
  have := h env s v s' h1
  subst this
  exact ⟨v, h2, by show (F env s').bind .ok = _; rw [h1]; rfl⟩
theorem bind_ret {r : R} {v : IV} {s : St} (h : r.bind .ok = .ok v s) : r = .ok v s := by cases r with
  | no => cases h
  | ok v' s' => exact h
theorem PureF.act {F : Env → St → R} (h : PureF F) : PureA fun _ _ env s q => (F env s).bind q :=
  ⟨soft_of fun env s v s' hF => (h env s v s' hF).1, fun env s v hv s2 => by
    have := (h env s v s (bind_ret hv)).2 s2
    show (F env s2).bind .ok = _; rw [this]; rfl⟩
theorem ReadF.act {F : Env → St → R} (h : ReadF F) : ReadA fun _ _ env s q => (F env s).bind q :=
  ⟨soft_of fun env s v s' hF => (h env s v s' hF).1, fun env s v x hd hv => by
    have := (h env s v s (bind_ret hv)).2 x hd
    show (F env (s.new x)).bind .ok = _; rw [this]; rfl, fun env s v s' hv => (h env s v s' (bind_ret hv)).1⟩
theorem pure_val (G : Env → Option IV) : PureF fun env s => R.val s (G env) := by
  intro env s v s' h
  obtain ⟨h1, rfl⟩ := val_ok h
  exact ⟨rfl, fun s2 => by show R.val s2 (G env) = _; rw [h1]; rfl⟩
theorem pure_ok (G : Env → IV) : PureF fun env s => .ok (G env) s := by
  intro env s v s' h
  cases h
  exact ⟨rfl, fun s2 => rfl⟩

/-- A pure one, or none. -/
def PureAct (A : Eng.Act) : Prop := ∀ fa, A = .mk fa → PureA fa
def ReadAct (A : Eng.Act) : Prop := ∀ fa, A = .mk fa → ReadA fa
theorem pureAct_no : PureAct noAct := by
  intro fa h; cases h
  exact ⟨fun X rec env s k v1 s1 h => (by cases h), fun env s v h => (by cases h)⟩
theorem readAct_no : ReadAct noAct := by
  intro fa h; cases h
  exact ⟨fun X rec env s k v1 s1 h => (by cases h), fun env s v x _ h => (by cases h), fun env s v s' h => (by cases h)⟩
theorem PureF.mk {F : Env → St → R} (h : PureF F) : PureAct (.mk fun _ _ env s q => (F env s).bind q) := by intro fa hf; cases hf; exact h.act
theorem ReadF.mk {F : Env → St → R} (h : ReadF F) : ReadAct (.mk fun _ _ env s q => (F env s).bind q) := by intro fa hf; cases hf; exact h.act

theorem pure_r {F : Env → St → R} (h : ∀ env, (∃ v, ∀ s, F env s = .ok v s) ∨ ∀ s, F env s = .no) : PureF F := by
  intro env s v s' hF
  rcases h env with ⟨v0, h0⟩ | h0
  · rw [h0] at hF; cases hF; exact ⟨rfl, h0⟩
  · rw [h0] at hF; cases hF

section ops
variable {n : Nat}
theorem move_pure (x : Operand) : PureAct (xMove P n x) := by
  unfold xMove
  split
  · rename_i f hf; exact (pure_ok f).mk
  · exact pureAct_no
theorem pick_pure (c x y : Operand) : PureAct (xPick P n c x y) := by
  unfold xPick
  split <;> try exact pureAct_no
  rename_i f1 h1
  split <;> try exact pureAct_no
  rename_i f2 h2
  split <;> try exact pureAct_no
  rename_i f3 h3
  refine PureF.mk (F := fun env s => pickB (f1 env) (f2 env) (f3 env) s) (pure_r fun env => ?_)
  unfold pickB
  cases f1 env <;> first
    | (exact .inr fun s => rfl)
    | (rename_i b; cases b <;> exact .inl ⟨_, fun s => rfl⟩)
theorem build_pure (t : Nat) (ps : List (Nat × Operand)) : PureAct (xBuild P n t ps) := by
  unfold xBuild
  split <;> try exact pureAct_no
  split <;> try exact pureAct_no
  split <;> try exact pureAct_no
  split <;> try exact pureAct_no
  rename_i f hf _ z hz _ u hu _ hb
  refine PureF.mk (F := fun env s => valAgg s (buildIn P u z.cells (f env))) (pure_r fun env => ?_)
  cases buildIn P u z.cells (f env) with
  | none => exact .inr fun s => rfl
  | some c => exact .inl ⟨_, fun s => rfl⟩
theorem nil_pure (x : Operand) : PureAct (xNil P n x) := by
  unfold xNil
  split <;> try exact pureAct_no
  rename_i f hf
  refine PureF.mk (F := fun env s => nilV (f env) s) (pure_r fun env => ?_)
  unfold nilV nilV'
  cases f env <;> first
    | (exact .inr fun s => rfl)
    | (exact .inl ⟨_, fun s => rfl⟩)
    | (rename_i fn _ _; cases fn <;> first | (exact .inr fun s => rfl) | (exact .inl ⟨_, fun s => rfl⟩))
theorem bin_pure (op : BinOp) (t : Nat) (x y : Operand) : PureAct (xBin P n op t x y) := by
  unfold xBin
  split <;> try exact pureAct_no
  rename_i f hf
  split <;> try exact pureAct_no
  rename_i g hg
  split
  rename_i h hop
  refine PureF.mk (F := fun env s => binInt P op h t x y (f env) (g env) s) (pure_r fun env => ?_)
  have hv : ∀ a b, (∃ v, ∀ s, binV P op t x y a b s = .ok v s) ∨ ∀ s, binV P op t x y a b s = .no := by
    intro a b
    unfold binV
    cases eqSafe P op t x y a b with
    | false => exact .inr fun s => rfl
    | true =>
      cases binop P op t a b with
      | none => exact .inr fun s => rfl
      | some v => exact .inl ⟨v, fun s => rfl⟩
  unfold binInt
  generalize f env = a
  generalize g env = b
  cases a <;> (try exact hv _ _)
  cases b <;> (try exact hv _ _)
  rename_i k m k' m'
  show (∃ v, ∀ s, Bool.rec (motive := fun _ => R) (binV P op t x y (.int k m) (.int k' m') s) (R.val s (h k m m')) (kindEq k k') = .ok v s) ∨ ∀ s, Bool.rec (motive := fun _ => R) (binV P op t x y (.int k m) (.int k' m') s) (R.val s (h k m m')) (kindEq k k') = .no
  cases kindEq k k' with
  | false => exact hv _ _
  | true =>
    cases h k m m' with
    | none => exact .inr fun s => rfl
    | some v => exact .inl ⟨v, fun s => rfl⟩
theorem un_pure (op : UnOp) (x : Operand) : PureAct (xUn P n op x) := by
  unfold xUn
  split <;> try exact pureAct_no
  rename_i f hf
  exact (pure_val fun env => unop op (f env)).mk
theorem iface_pure (t : Nat) (x : Operand) : PureAct (xIface P n t x) := by
  unfold xIface
  split <;> try exact pureAct_no
  split <;> try exact pureAct_no
  split <;> try exact pureAct_no
  rename_i f hf _ u hu _ hn
  exact (pure_ok fun env => .iface t (f env)).mk
theorem func_pure (f : Fn) (as bs : List Operand) : PureAct (xFunc P n f as bs) := by
  unfold xFunc
  split <;> try exact pureAct_no
  split <;> try exact pureAct_no
  split <;> try exact pureAct_no
  rename_i g hg _ g2 hg2 _ hn
  exact (pure_ok fun env => .fn f (g env) (g2 env)).mk
theorem fieldAddr_pure (t k : Nat) (x : Operand) : PureAct (xFieldAddr P n t k x) := by
  unfold xFieldAddr
  split <;> try exact pureAct_no
  split <;> try exact pureAct_no
  split <;> try exact pureAct_no
  rename_i f hf _ fd hfd _ m hm
  refine PureF.mk (F := fun env s => addrV fd.offset (f env) s) (pure_r fun env => ?_)
  unfold addrV
  cases f env <;> first | (exact .inr fun s => rfl) | (exact .inl ⟨_, fun s => rfl⟩)
theorem field_pure (t k : Nat) (x : Operand) : PureAct (xField P n t k x) := by
  unfold xField
  split <;> try exact pureAct_no
  split <;> try exact pureAct_no
  rename_i f hf _ fd hfd
  refine PureF.mk (F := fun env s => partV P fd.type fd.offset (f env) s) (pure_r fun env => ?_)
  unfold partV
  cases f env <;> first
    | (exact .inr fun s => rfl)
    | (rename_i cs
       simp only
       cases part P fd.type cs fd.offset with
       | none => exact .inr fun s => rfl
       | some v => exact .inl ⟨v, fun s => rfl⟩)
theorem indexAddr_pure (t : Nat) (x i : Operand) : PureAct (xIndexAddr P n t x i) := by
  unfold xIndexAddr
  split <;> try exact pureAct_no
  rename_i f hf
  split <;> try exact pureAct_no
  rename_i g hg
  split <;> try exact pureAct_no
  · split <;> try exact pureAct_no
    rename_i sz hsz
    refine PureF.mk (F := fun env s => atSl sz (f env) (g env) s) (pure_r fun env => ?_)
    unfold atSl
    generalize f env = a
    generalize g env = b
    cases b <;> (try (exact .inr fun s => rfl))
    rename_i k m
    cases m with
    | negSucc m => exact .inr fun s => rfl
    | ofNat m =>
      cases a <;> (try (exact .inr fun s => rfl))
      rename_i b o l c ex
      show (∃ v, ∀ s, Bool.rec (motive := fun _ => R) .no (.ok (.ptr b (Nat.add o (Nat.mul m sz))) s) (Nat.ble (Nat.succ m) l) = .ok v s) ∨ ∀ s, Bool.rec (motive := fun _ => R) .no (.ok (.ptr b (Nat.add o (Nat.mul m sz))) s) (Nat.ble (Nat.succ m) l) = .no
      cases Nat.ble (Nat.succ m) l
      · exact .inr fun s => rfl
      · exact .inl ⟨_, fun s => rfl⟩
  · split <;> try exact pureAct_no
    rename_i m e hu _ sz hsz
    refine PureF.mk (F := fun env s => atArr m sz (f env) (g env).nat s) (pure_r fun env => ?_)
    unfold atArr
    generalize f env = a
    cases (g env).nat with
    | none => exact .inr fun s => rfl
    | some i =>
      cases a <;> (try (exact .inr fun s => rfl))
      simp only
      cases Nat.blt i m
      · exact .inr fun s => rfl
      · exact .inl ⟨_, fun s => rfl⟩
theorem index_pure (t : Nat) (x i : Operand) : PureAct (xIndex P n t x i) := by
  unfold xIndex
  split <;> try exact pureAct_no
  rename_i f hf
  split <;> try exact pureAct_no
  rename_i g hg
  split <;> try exact pureAct_no
  · refine PureF.mk (F := fun env s => atStr (f env) (g env).nat s) (pure_r fun env => ?_)
    unfold atStr
    generalize f env = a
    cases (g env).nat with
    | none => exact .inr fun s => rfl
    | some i =>
      cases a <;> (try (exact .inr fun s => rfl)) <;>
      · rename_i l
        simp only
        cases nth l i with
        | none => exact .inr fun s => rfl
        | some c => exact .inl ⟨_, fun s => rfl⟩
  · split <;> try exact pureAct_no
    rename_i m e hu _ sz hsz
    refine PureF.mk (F := fun env s => atAgg P m e sz (f env) (g env).nat s) (pure_r fun env => ?_)
    unfold atAgg
    generalize f env = a
    cases (g env).nat with
    | none => exact .inr fun s => rfl
    | some i =>
      cases a <;> (try (exact .inr fun s => rfl))
      rename_i cs
      simp only
      cases Nat.blt i m
      · exact .inr fun s => rfl
      · cases part P e cs (Nat.mul i sz) with
        | none => exact .inr fun s => rfl
        | some v => exact .inl ⟨v, fun s => rfl⟩
theorem assert_pure (t : Nat) (x : Operand) (ok : Bool) : PureAct (xAssert P n t x ok) := by
  unfold xAssert
  split <;> try exact pureAct_no
  rename_i f hf
  split <;> try exact pureAct_no
  rename_i u hu
  split
  · rename_i want; exact (pure_val fun env => assertI P t ok want (f env)).mk
  · exact (pure_val fun env => assertC P t ok (f env)).mk
theorem extract_pure (x : Operand) (i : Nat) : PureAct (xExtract P n x i) := by
  unfold xExtract
  split <;> try exact pureAct_no
  rename_i f hf
  refine PureF.mk (F := fun env s => extrV i (f env) s) (pure_r fun env => ?_)
  unfold extrV
  generalize f env = a
  cases a <;> (try (exact .inr fun s => rfl))
  rename_i vs
  simp only
  cases nth vs i with
  | none => exact .inr fun s => rfl
  | some v => exact .inl ⟨v, fun s => rfl⟩

/- reads -/
theorem get_new_old {s : St} {x : IObj} {b : Nat} (hd : s.get s.next = .dead) (h : s.get b ≠ .dead) : (s.new x).get b = s.get b := by
  rw [get_new, if_neg]
  intro e; subst e; exact h hd
theorem rd_new {s : St} {x : IObj} {b o k : Nat} {l : List IV} (hd : s.get s.next = .dead) (h : s.rd b o k = some l) : (s.new x).rd b o k = some l := by
  obtain ⟨c, len, e, fz, str, hg, _⟩ := rd_some h
  unfold St.rd at h ⊢
  rw [get_new_old hd (by rw [hg]; exact fun h => by cases h)]
  exact h
theorem load_read (t : Nat) (x : Operand) : ReadAct (xLoad P n t x) := by
  unfold xLoad
  split <;> try exact readAct_no
  rename_i f hf
  split <;> try exact readAct_no
  · split <;> try exact readAct_no
    rename_i k hk
    refine ReadF.mk (F := fun env s => loadA k (f env) s) ?_
    intro env s v s' h
    change loadA k (f env) s = .ok v s' at h
    unfold loadA valAgg at h
    split at h <;> (try (cases h; done))
    rename_i b o hv
    split at h <;> (try (cases h; done))
    rename_i l hl
    cases h
    refine ⟨rfl, fun x hd => ?_⟩
    show loadA k (f env) _ = _
    rw [hv]
    unfold loadA valAgg
    simp only [rd_new hd hl]
  · refine ReadF.mk (F := fun env s => load1 (f env) s) ?_
    intro env s v s' h
    change load1 (f env) s = .ok v s' at h
    generalize hfe : f env = a at h
    cases a <;> (try (simp [load1, IV.onPtr] at h; done))
    rename_i b o
    change R.val s (cellOf o (s.get b)) = .ok v s' at h
    obtain ⟨h1, rfl⟩ := val_ok h
    refine ⟨rfl, fun x hd => ?_⟩
    show load1 (f env) _ = _
    rw [hfe]
    show R.val _ (cellOf o ((s'.new x).get b)) = _
    rw [get_new_old hd (by intro e; rw [e] at h1; cases h1), h1]
    rfl
theorem slice_read (t : Nat) (x : Operand) (lo hi mx : Option Operand) : ReadAct (xSlice P n t x lo hi mx) := by
  unfold xSlice
  split <;> try exact readAct_no
  rename_i f hf
  split <;> try exact readAct_no
  rename_i u hu
  split <;> try exact readAct_no
  refine ReadF.mk (F := fun env s => sliceV P u (f env) (evnGet (evnT P n lo) env) (evnGet (evnT P n hi) env) (evnGet (evnT P n mx) env) s) ?_
  intro env s v s' h
  change sliceV P u (f env) (evnGet (evnT P n lo) env) (evnGet (evnT P n hi) env) (evnGet (evnT P n mx) env) s = .ok v s' at h
  show s' = s ∧ ∀ x, s.get s.next = .dead → sliceV P u (f env) (evnGet (evnT P n lo) env) (evnGet (evnT P n hi) env) (evnGet (evnT P n mx) env) (s.new x) = .ok v (s.new x)
  generalize evnGet (evnT P n lo) env = elo at h ⊢
  generalize evnGet (evnT P n hi) env = ehi at h ⊢
  generalize evnGet (evnT P n mx) env = emx at h ⊢
  generalize f env = a at h ⊢
  unfold sliceV at h ⊢
  cases elo with
  | none => cases h
  | some lo' =>
    cases ehi with
    | none => cases h
    | some hi' =>
      cases emx with
      | none => cases h
      | some mx' =>
        simp only at h ⊢
        cases hok : slOk u a s with
        | false => rw [hok] at h; cases h
        | true =>
          rw [hok] at h
          obtain ⟨h1, rfl⟩ := val_ok h
          refine ⟨rfl, fun x hd => ?_⟩
          have : slOk u a (s'.new x) = true := by
            cases a <;> (try rfl)
            rename_i b o l c ex
            cases ex
            · cases u <;> (try rfl)
              rename_i e
              change rowIs e (s'.get b) = true at hok
              show rowIs e ((s'.new x).get b) = true
              rw [get_new_old hd]
              · exact hok
              · intro hde; rw [hde] at hok; cases hok
            · rfl
          rw [this, h1]
          rfl
theorem conv_cls {src dst : Nat} (x : Operand) : (clsOf P (.convert src dst x) = .pure → PureAct (xConv P n src dst x)) ∧ (clsOf P (.convert src dst x) = .read → ReadAct (xConv P n src dst x)) := by
  change (clsConv (undI P src) (undI P dst) = .pure → _) ∧ (clsConv (undI P src) (undI P dst) = .read → _)
  unfold xConv
  cases evT P n x with
  | no => exact ⟨fun _ => pureAct_no, fun _ => readAct_no⟩
  | mk f =>
    cases hs : undI P src with
    | none => exact ⟨fun _ => pureAct_no, fun _ => readAct_no⟩
    | some us =>
      cases hd : undI P dst with
      | none => exact ⟨fun _ => pureAct_no, fun _ => readAct_no⟩
      | some ud =>
        simp only
        constructor
        · intro hc
          refine PureF.mk (F := fun env s => convAt P src dst us ud (f env) s) (pure_r fun env => ?_)
          unfold convAt
          cases us <;> (try (cases hc; done)) <;> cases ud <;> (try (cases hc; done)) <;> cases f env <;> first
            | (exact .inl ⟨_, fun s => rfl⟩)
            | (exact .inr fun s => rfl)
            | (rename_i k j
               simp only
               cases letConv j k with
               | none => exact .inr fun s => rfl
               | some c => exact .inl ⟨_, fun s => rfl⟩)
        · intro hc
          refine ReadF.mk (F := fun env s => convAt P src dst us ud (f env) s) ?_
          cases us <;> (try (cases hc; done)) <;> cases ud <;> (try (cases hc; done))
          rename_i e
          intro env s v s' h
          unfold convAt at h ⊢
          simp only at h ⊢
          generalize f env = a at h ⊢
          cases a <;> simp only at h ⊢ <;> (try (cases h; exact ⟨rfl, fun x _ => rfl⟩)) <;> unfold ofBytes at h ⊢ <;> (cases hb : isByte P e with
            | false => rw [hb] at h; cases h
            | true =>
              rw [hb] at h
              simp only at h ⊢
              first
                | (cases h; done)
                | (cases h; exact ⟨rfl, fun x _ => rfl⟩)
                | (unfold strOfBytes at h ⊢
                   split at h <;> (try (cases h; done))
                   rename_i l hl
                   split at h
                   · rename_i r hr
                     cases h
                     refine ⟨rfl, fun x hd => ?_⟩
                     rw [rd_new hd hl]
                     simp only [hr]
                   · rename_i hr
                     split at h <;> (try (cases h; done))
                     rename_i r hr2
                     cases h
                     refine ⟨rfl, fun x hd => ?_⟩
                     rw [rd_new hd hl]
                     simp only [hr, hr2]))
theorem builtin_pure (c : Call) (h : clsOf P (.call c) = .pure) : PureAct (xCall P n c) := by
  change clsCall P c.callee c.argTypes = .pure at h
  unfold xCall
  unfold clsCall at h
  split at h <;> (try (cases h; done))
  rename_i b hb
  rw [hb]
  simp only
  unfold xBuiltin
  split <;> try exact pureAct_no
  · split <;> try exact pureAct_no
    rename_i f hf
    unfold b1T
    unfold clsBuiltin at h
    cases b <;> (try (cases h; done)) <;> simp only <;> (try exact pureAct_no)
    · split <;> try exact pureAct_no
      refine PureF.mk (F := fun env s => capOf (f env) s) (pure_r fun env => ?_)
      unfold capOf
      cases f env <;> first | (exact .inl ⟨_, fun s => rfl⟩) | (exact .inr fun s => rfl) | (rename_i ex; cases ex <;> first | (exact .inl ⟨_, fun s => rfl⟩) | (exact .inr fun s => rfl))
    · split <;> try exact pureAct_no
      · refine PureF.mk (F := fun env s => lenStr (f env) s) (pure_r fun env => ?_)
        unfold lenStr
        cases f env <;> first | (exact .inl ⟨_, fun s => rfl⟩) | (exact .inr fun s => rfl)
      · rename_i hd; simp only [hd] at h; cases h
      · refine PureF.mk (F := fun env s => lenSl (f env) s) (pure_r fun env => ?_)
        unfold lenSl
        cases f env <;> first | (exact .inl ⟨_, fun s => rfl⟩) | (exact .inr fun s => rfl)
  · split <;> try exact pureAct_no
    rename_i f hf
    split <;> try exact pureAct_no
    rename_i g hg
    have hmm : ∀ m : Int → Int → Int, PureF fun env s => doMinMax m (f env) (g env) s := by
      intro m
      refine pure_r fun env => ?_
      unfold doMinMax
      generalize f env = a
      generalize g env = b
      cases a <;> (try (exact .inr fun s => rfl))
      cases b <;> (try (exact .inr fun s => rfl))
      rename_i k _ k' _
      simp only
      cases kindEq k k' <;> first | (exact .inl ⟨_, fun s => rfl⟩) | (exact .inr fun s => rfl)
    unfold b2T
    unfold clsBuiltin at h
    cases b <;> (try (cases h; done)) <;> simp only <;> (try exact pureAct_no) <;> exact (hmm _).mk
theorem builtin_read (c : Call) (h : clsOf P (.call c) = .read) : ReadAct (xCall P n c) := by
  change clsCall P c.callee c.argTypes = .read at h
  unfold clsCall at h
  split at h <;> (try (cases h; done))
  rename_i b hb
  unfold clsBuiltin at h
  split at h <;> (try (cases h; done))
  split at h <;> (cases h; done)

theorem cls_pure (op : Op) (h : clsOf P op = .pure) : PureAct (execT P n op) := by
  cases op
  case convert src dst x => exact (conv_cls x).1 h
  case call c => exact builtin_pure c h
  all_goals first
    | (cases h; done)
    | exact move_pure _
    | exact pick_pure _ _ _
    | exact build_pure _ _
    | exact nil_pure _
    | exact bin_pure _ _ _ _
    | exact un_pure _ _
    | exact iface_pure _ _
    | exact func_pure _ _ _
    | exact fieldAddr_pure _ _ _
    | exact field_pure _ _ _
    | exact indexAddr_pure _ _ _
    | exact index_pure _ _ _
    | exact assert_pure _ _ _
    | exact extract_pure _ _
theorem cls_read (op : Op) (h : clsOf P op = .read) : ReadAct (execT P n op) := by
  cases op
  case convert src dst x => exact (conv_cls x).2 h
  case call c => exact builtin_read c h
  all_goals first
    | (cases h; done)
    | exact load_read _ _
    | exact slice_read _ _ _ _ _
end ops
end Go.Eng

set_option linter.constructorNameAsVariable false
set_option linter.unusedVariables false
set_option linter.unusedSimpArgs false
namespace Go.Eng
variable {P : Program} {γ : Gam}

theorem le_with_none {ρ : Rho} {b : Nat} {p : Pl} (h : ρ b = none) : Le ρ (ρ.with b p) := by
  intro x q hx
  rw [Rho.with_other]
  · exact hx
  · intro e; subst e; rw [h] at hx; cases hx

/-- What is there in the ideal comes to be. -/
theorem Rel.born {ρ : Rho} {s : St} {w : World} (h : Rel P γ ρ s w) {b : Nat} (hb : ρ b = none) (hlt : b < s.next) {p : Pl} (hp : p.blk = w.heap.size) {o : Obj} (ho : OR P (ρ.with b p) γ p (s.get b) o) :
    Rel P γ (ρ.with b p) s (pushed w o) := by
  have hle : Le ρ (ρ.with b p) := le_with_none hb
  refine ⟨?_, ?_, h.fresh, ?_⟩
  · intro b' q hb' hd
    by_cases e : b' = b
    · subst e
      rw [Rho.with_self] at hb'; cases hb'
      exact ⟨o, by rw [hp]; exact pushed_self w o, ho⟩
    · rw [Rho.with_other _ _ e] at hb'
      obtain ⟨o', h1, h2⟩ := h.live b' q hb' hd
      exact ⟨o', by rw [pushed_other (h.bound b' q hb').2]; exact h1, h2.mono hle⟩
  · intro b' q hb'
    rw [pushed_size]
    by_cases e : b' = b
    · subst e
      rw [Rho.with_self] at hb'; cases hb'
      exact ⟨hlt, by omega⟩
    · rw [Rho.with_other _ _ e] at hb'
      have := h.bound b' q hb'
      exact ⟨this.1, by omega⟩
  · intro b1 b2 p1 p2 h1 h2 d1 d2 hne
    by_cases e1 : b1 = b
    · subst e1
      rw [Rho.with_self] at h1; cases h1
      rw [Rho.with_other _ _ (Ne.symm hne)] at h2
      have := (h.bound b2 p2 h2).2
      omega
    · rw [Rho.with_other _ _ e1] at h1
      by_cases e2 : b2 = b
      · subst e2
        rw [Rho.with_self] at h2; cases h2
        have := (h.bound b1 p1 h1).2
        omega
      · rw [Rho.with_other _ _ e2] at h2
        exact h.apart b1 b2 p1 p2 h1 h2 d1 d2 hne

theorem Goes.born' {ρ₀ ρ : Rho} {s₀ s : St} {w₀ w : World} (h : Goes ρ₀ s₀ w₀ ρ s w) {b : Nat} (hb : ρ b = none) (h0 : s₀.next ≤ b) {p : Pl} (hp : p.blk = w.heap.size) (o : Obj) : Goes ρ₀ s₀ w₀ (ρ.with b p) s (pushed w o) where
  le := h.le.trans (le_with_none hb)
  unborn b' hb' hn := by
    obtain ⟨h1, h2⟩ := h.unborn b' hb' hn
    exact ⟨by rw [Rho.with_other _ _ (by omega)]; exact h1, h2⟩
  next := h.next
  others x hx hn := by
    rw [pushed_other (Nat.lt_of_lt_of_le hx h.size)]
    exact h.others x hx hn
  born b' q hb' hd hq := by
    by_cases e : b' = b
    · subst e
      rw [Rho.with_self] at hb'; cases hb'
      have := h.size
      omega
    · rw [Rho.with_other _ _ e] at hb'
      exact h.born b' q hb' hd hq
  size := by rw [pushed_size]; have := h.size; omega
  os := h.os
  tape := h.tape
  output := h.output

/-- What is not yet there may come ahead of its time. -/
theorem Rel.ahead {ρ : Rho} {s : St} {w : World} (h : Rel P γ ρ s w) (x : IObj) : Rel P γ ρ (s.new x) w ∧ ρ s.next = none := by
  have hn : ρ s.next = none := by
    cases hr : ρ s.next with
    | none => rfl
    | some p => have := (h.bound _ p hr).1; omega
  have hne : ∀ {b p}, ρ b = some p → b ≠ s.next := fun {b p} hb e => by subst e; rw [hn] at hb; cases hb
  refine ⟨⟨?_, ?_, ?_, ?_⟩, hn⟩
  · intro b p hb hd
    rw [get_new, if_neg (hne hb)] at hd ⊢
    exact h.live b p hb hd
  · intro b p hb
    have := h.bound b p hb
    exact ⟨by rw [next_new]; omega, this.2⟩
  · intro b hb
    rw [next_new] at hb
    rw [get_new, if_neg (by omega)]
    exact h.fresh b (by omega)
  · intro b1 b2 p1 p2 h1 h2 d1 d2 hne'
    rw [get_new, if_neg (hne h1)] at d1
    rw [get_new, if_neg (hne h2)] at d2
    exact h.apart b1 b2 p1 p2 h1 h2 d1 d2 hne'

theorem row_or {ρ : Rho} {w : World} {b e n : Nat} {l : List IV} {arr : Array Value} (hb : ρ b = none) (hv : VRs ρ γ l arr.toList) (hz : size P e = some n) :
    OR P (ρ.with b ⟨w.heap.size, 0, arr.size, n⟩) γ ⟨w.heap.size, 0, arr.size, n⟩ (rowOf l e 0) (.cells arr e) := by
  have hll := hv.length
  simp only [Array.length_toList] at hll
  refine .cells _ _ _ _ _ _ _ (by simp; omega) (by simp) ?_ (by intro j _ _ hj; simp at hj) (fun _ => ⟨.inl rfl, fun _ => rfl⟩) (fun _ => rfl) hz
  intro j hj
  rw [get_wrC, dif_pos (by omega)]
  have hk : l[j - 0]? = some (l[j - 0]'(by omega)) := List.getElem?_eq_getElem (by omega)
  obtain ⟨v', hv1, hv2⟩ := hv.get hk
  refine ⟨v', ?_, hv2.mono (le_with_none hb)⟩
  simp only [Nat.zero_add]
  simpa using hv1

/-- A world that may have drawn. -/
def dr (j : Bool) (w : World) : World := match j with
  | true => Eng.drawn w
  | false => w
theorem dr_size (j : Bool) (w : World) : (dr j w).heap.size = w.heap.size := by cases j <;> rfl
theorem Rel.dr {ρ : Rho} {s : St} {w : World} (h : Rel P γ ρ s w) (j : Bool) : Rel P γ ρ s (Eng.dr j w) := by
  cases j
  · exact h
  · exact h.drawn
theorem Goes.dr {ρ₀ ρ : Rho} {s₀ s : St} {w₀ w : World} (h : Goes ρ₀ s₀ w₀ ρ s w) (j : Bool) : Goes ρ₀ s₀ w₀ ρ s (Eng.dr j w) := by
  cases j
  · exact h
  · exact h.trans (Goes.drawn ρ s w)
/-- It makes a new block, whenever it is done. -/
def MadeAct (P : Program) (γ : Gam) (n : Nat) (op : Op) (A : Eng.Act) : Prop := ∀ fa, A = .mk fa → ∀ X rec env s k v1 s1, fa X rec env s k = .ok v1 s1 → ∃ v x, x ≠ .dead ∧ k v (s.new x) = .ok v1 s1 ∧
  ∀ (ρ : Rho) (w : World) (a : Go.Act) (o : Oper), o.op = op → ρ s.next = none → OpsR P γ n ρ env a op.operands.toList →
    ∃ v' ob p j, (execOp a.eval o).run P w = .ok (.value v') (pushed (dr j w) ob) ∧ p.blk = w.heap.size ∧ OR P (ρ.with s.next p) γ p x ob ∧ VR (ρ.with s.next p) γ v v'

theorem madeAct_no {n : Nat} {op : Op} : MadeAct P γ n op noAct := by
  intro fa hf X rec env s k v1 s1 h
  cases hf; cases h

theorem rowOf_ne (l : List IV) (e t : Nat) : rowOf l e t ≠ .dead := by intro h; cases h

section ops
variable {n : Nat}
theorem alloc_made (e : Nat) : MadeAct P γ n (.alloc e) (xAlloc P e) := by
  unfold xAlloc
  split <;> try exact madeAct_no
  rename_i z hz
  intro fa hf X rec env s k v1 s1 h
  cases hf
  refine ⟨_, _, rowOf_ne z.cells e 0, h, fun ρ w a o ho hb hops => ?_⟩
  obtain ⟨m, hm⟩ := size_of_zero hz
  obtain ⟨v, hv, hrun⟩ := run_zeroValue hz
  refine ⟨_, .cells v.cells e, ⟨w.heap.size, 0, v.cells.size, m⟩, false, ?_, rfl, row_or hb (VR.ofValue (ρ := ρ) (γ := γ) hv).cells hm, .ptr _ _ _ (Rho.with_self _ _ _)⟩
  simp only [dr, execOp, ho, Instr.alloc, Sem.run_bind, hrun, Result.andThen_ok, newVar, run_newRow, Sem.run_pure]

theorem box_made (e : Nat) (x : Operand) : MadeAct P γ n (.box e x) (xBox P n e x) := by
  unfold xBox
  split <;> try exact madeAct_no
  rename_i f hf
  split <;> try exact madeAct_no
  rename_i z hz
  intro fa hfa X rec env s k v1 s1 h
  cases hfa
  refine ⟨_, _, rowOf_ne (f env).cells e 0, h, fun ρ w a o ho hb hops => ?_⟩
  have hx := hops x (.head _) f hf
  refine ⟨_, .cells (a.eval x).cells e, ⟨w.heap.size, 0, (a.eval x).cells.size, z⟩, false, ?_, rfl, row_or hb hx.cells hz, .ptr _ _ _ (Rho.with_self _ _ _)⟩
  simp only [dr, execOp, ho, Instr.box, Sem.run_bind, Result.andThen_ok, newVar, run_newRow, Sem.run_pure]

theorem buildSlice_made (t len : Nat) (ps : Array (Nat × Operand)) : MadeAct P γ n (.buildSlice t len ps) (xBuildSlice P n t len ps.toList) := by
  unfold xBuildSlice
  split <;> try exact madeAct_no
  rename_i f hf
  split <;> try exact madeAct_no
  rename_i e he
  split <;> try exact madeAct_no
  rename_i z hz
  split <;> try exact madeAct_no
  rename_i k hk
  split <;> try exact madeAct_no
  rename_i hb
  simp only [Bool.and_eq_true] at hb
  intro fa hfa X rec env s q v1 s1 h
  cases hfa
  dsimp only at h
  obtain ⟨v, s', h1, h2⟩ := bind_ok h
  cases hc : Eng.fill (fun i => some (i * k, k)) (rep len z.cells) (f env) with
  | none => rw [hc] at h1; cases h1
  | some c =>
    rw [hc] at h1
    cases h1
    refine ⟨_, _, rowOf_ne c e 0, h2, fun ρ w a o ho hbn hops => ?_⟩
    have hp := OpsR.evp (l := ps.toList) (fun x hx => hops x (by simpa [Op.operands] using hx)) hf
    have hle := Nat.le_of_ble_eq_true hb.1
    have hzl := Nat.eq_of_beq_eq_true hb.2
    have hu := sliceT_eq he
    obtain ⟨zv, hzv, hzrun⟩ := run_zeroValue hz
    have hzr := (VR.ofValue (ρ := ρ) (γ := γ) hzv).cells
    have hzs : zv.cells.size = k := by have := hzr.length; simp at this; omega
    have hnb : ¬ (len * k > 2 ^ 24) := by omega
    let zs : Array Value := if len * k = 0 then #[] else zv.cells
    have hrow : VRs ρ γ (rep len z.cells) ((Array.range (len * k)).map (zs[· % zs.size]!)).toList := by
      by_cases h0 : len * k = 0
      · have : rep len z.cells = [] := List.length_eq_zero_iff.1 (by rw [length_rep, hzl, h0])
        rw [this, h0]; simpa using VRs.nil
      · have : zs = zv.cells := if_neg h0
        rw [this]
        exact rep_sim hzr (by rw [hzs])
    obtain ⟨r', g1, g2⟩ := fill_sim hrow hp.1 hp.2 hc
    refine ⟨.slice (some ⟨w.heap.size, 0, none⟩) len len, .cells r' e, ⟨w.heap.size, 0, r'.size, k⟩, false, ?_, rfl, row_or hbn g2 hk, ?_⟩
    · simp only [dr, execOp, ho, Instr.buildSlice, Sem.run_bind, run_underlying hu, Result.andThen_ok, run_sizeOf hk, if_neg hnb]
      by_cases h0 : len * k = 0
      · have hz0 : zs = #[] := if_pos h0
        rw [hz0] at g1
        simp only [if_pos h0, Sem.run_bind, Sem.run_pure, Result.andThen_ok]
        have g1' : Instr.fill (fun i => some (i * k, k)) ((Array.range (len * k)).map ((#[] : Array Value)[· % (#[] : Array Value).size]!)) (ps.map fun (i, x) => (i, a.eval x)).toList = some r' := by simpa using g1
        simp only [g1', Sem.run_bind, run_newRow, Result.andThen_ok, Sem.run_pure]
      · have hz0 : zs = zv.cells := if_neg h0
        rw [hz0] at g1
        simp only [if_neg h0, Sem.run_bind, hzrun, Sem.run_pure, Result.andThen_ok]
        have g1' : Instr.fill (fun i => some (i * k, k)) ((Array.range (len * k)).map (zv.cells[· % zv.cells.size]!)) (ps.map fun (i, x) => (i, a.eval x)).toList = some r' := by simpa using g1
        simp only [g1', Sem.run_bind, run_newRow, Result.andThen_ok, Sem.run_pure]
    · have := VR.slx (ρ := ρ.with s.next ⟨w.heap.size, 0, r'.size, k⟩) (γ := γ) s.next 0 len len _ (Rho.with_self _ _ _)
      exact this

theorem toRow_run {e : Nat} (he : isByte P e = true) (b : ByteArray) {X : List IV} (hXl : X.length = b.size) (hX : ∀ ρ, VRs ρ γ X (b.data.toList.map fun c => Value.int .u8 c.toNat)) (w : World) : ∃ cap arr, b.size ≤ cap ∧
    (Conv.stringToBytes e b).run P w = .ok (.slice (some ⟨w.heap.size, 0, none⟩) b.size cap) (pushed (Eng.drawn w) (.cells arr e (arr.size, arr.size + 1))) ∧
    ∀ ρ : Rho, OR P ρ γ ⟨w.heap.size, 0, cap, 1⟩ (rowOf X e 1) (.cells arr e (arr.size, arr.size + 1)) := by
  obtain ⟨hu, hz⟩ := isByte_eq he
  have hcap : ∃ cap, b.size ≤ cap ∧ (choose (.appendCap b.size 0 e)).run P w = .ok cap (Eng.drawn w) :=
    ⟨b.size + w.tape w.drawn (.appendCap b.size 0 e) % (2 ^ 63 - b.size), Nat.le_add_right _ _, by simp only [run_choose, Question.forced, Bool.false_eq_true, if_false]; rfl⟩
  obtain ⟨cap, hle, hch⟩ := hcap
  generalize hw : Eng.drawn w = wd at hch
  have hsz : wd.heap.size = w.heap.size := by subst hw; rfl
  let elems : Array Value := b.data.map fun c => .int .u8 c.toNat
  let arr : Array Value := elems ++ Array.replicate (cap - b.size) (.int .u8 0)
  have hasz : arr.size = cap := by
    show (b.data.map _ ++ Array.replicate _ _).size = cap
    have : b.data.size = b.size := rfl
    simp; omega
  refine ⟨cap, arr, hle, ?_, fun ρ => ?_⟩
  · unfold Conv.stringToBytes
    simp only [Sem.run_bind, hch, Result.andThen_ok, run_newRow]
    rw [run_markStringish (pushed_self wd _)]
    simp only [Result.andThen_ok, Sem.run_pure, beq_self_eq_true, if_true, setRow_pushed]
    rw [hsz]
  · refine .cells _ _ _ _ _ _ _ (by rw [hXl]; show 0 + b.size ≤ cap; omega) (by show cap ≤ arr.size; omega) ?_ ?_ (fun hne => absurd rfl hne) (fun h0 => by cases h0) hz
    · intro j hj
      rw [hXl] at hj
      have hbl : X.length = b.size := hXl
      rw [get_wrC, dif_pos (by omega)]
      have hv := hX ρ
      have hk : X[j - 0]? = some (X[j - 0]'(by omega)) := List.getElem?_eq_getElem (by omega)
      obtain ⟨v', hv1, hv2⟩ := hv.get hk
      refine ⟨v', ?_, hv2⟩
      show arr[0 + j]? = _
      have hj2 : j < elems.size := by show j < (b.data.map _).size; have : b.data.size = b.size := rfl; simp; omega
      rw [Nat.zero_add, Array.getElem?_append_left hj2, ← hv1]
      show (b.data.map _)[j]? = _
      rw [Nat.sub_zero, Array.getElem?_map, List.getElem?_map, Array.getElem?_toList]
    · intro j hj1 hj2 hj3
      have hj2 : j < cap := hj2
      rw [hasz] at hj3
      omega
theorem conv_made {src dst : Nat} (x : Operand) (hc : clsConv (undI P src) (undI P dst) = .made) : MadeAct P γ n (.convert src dst x) (xConv P n src dst x) := by
  unfold xConv
  split <;> try exact madeAct_no
  rename_i f hf
  split <;> try exact madeAct_no
  rename_i us hs
  split <;> try exact madeAct_no
  rename_i ud hd
  rw [hs, hd] at hc
  intro fa hfa X rec env s k v1 s1 h
  cases hfa
  dsimp only at h
  obtain ⟨v, s', h1, h2⟩ := bind_ok h
  cases us <;> (try (cases hc; done)) <;> cases ud <;> (try (cases hc; done))
  rename_i e
  unfold convAt at h1
  cases hv : f env <;> rw [hv] at h1 <;> (try (cases h1; done))
  · rename_i b
    simp only at h1
    unfold toBytes at h1
    cases hb : isByte P e with
    | false => rw [hb] at h1; cases h1
    | true =>
      rw [hb] at h1
      cases h1
      refine ⟨_, _, rowOf_ne _ e 1, h2, fun ρ w a o ho hbn hops => ?_⟩
      have hx := hops x (.head _) f hf
      rw [hv] at hx
      generalize hy : a.eval x = y at hx
      obtain ⟨l, rfl, rfl⟩ : ∃ l : ByteArray, y = .string l ∧ b = l.data.toList.map UInt8.toNat := by
        cases hx with
        | str l _ hl => exact ⟨l, rfl, by first | exact hl | exact hl.symm⟩
      have hl : (l.data.toList.map UInt8.toNat).length = l.size := by simp
      obtain ⟨cap, arr, hle, hrun, hor⟩ := toRow_run (γ := γ) hb l (X := bytesI (l.data.toList.map UInt8.toNat)) (by rw [length_bytesI, hl]) (fun ρ => bytesI_sim l.data.toList) w
      obtain ⟨hu, _⟩ := isByte_eq hb
      refine ⟨.slice (some ⟨w.heap.size, 0, none⟩) l.size cap, _, ⟨w.heap.size, 0, cap, 1⟩, true, ?_, rfl, hor _, ?_⟩
      · simp only [execOp, ho, hy]
        unfold convert
        simp only [Sem.run_bind, run_underlying (undI_eq hs), run_underlying (undI_eq hd), Result.andThen_ok, run_underlying (undI_eq hu), hrun, Sem.run_pure]
        rfl
      · have hvl := VR.sli (ρ := ρ.with s.next ⟨w.heap.size, 0, cap, 1⟩) (γ := γ) s.next 0 l.size l.size cap 0 ⟨w.heap.size, 0, cap, 1⟩ (Rho.with_self _ _ _) (Nat.le_refl _) hle (.inl rfl) (by show 0 + cap * 1 ≤ cap; omega)
        rw [hl]
        exact hvl
  · rename_i b
    simp only at h1
    unfold toBytesS at h1
    cases hb : isByte P e with
    | false => rw [hb] at h1; cases h1
    | true =>
      rw [hb] at h1
      cases h1
      refine ⟨_, _, rowOf_ne _ e 1, h2, fun ρ w a o ho hbn hops => ?_⟩
      have hx := hops x (.head _) f hf
      rw [hv] at hx
      generalize hy : a.eval x = y at hx
      obtain ⟨l, rfl, hs1, hs2⟩ : ∃ l : ByteArray, y = .string l ∧ l.data.toList.map UInt8.toNat = b.map (den γ) ∧ ∀ c ∈ b, CodeOk γ c := by
        cases hx with
        | sstr l _ hl hc => exact ⟨l, rfl, hl, hc⟩
      have hl : b.length = l.size := by have := congrArg List.length hs1; simpa using this.symm
      obtain ⟨cap, arr, hle, hrun, hor⟩ := toRow_run (γ := γ) hb l (X := bytesS b) (by rw [length_bytesS, hl]) (fun ρ => bytesS_sim hs1 hs2) w
      obtain ⟨hu, _⟩ := isByte_eq hb
      refine ⟨.slice (some ⟨w.heap.size, 0, none⟩) l.size cap, _, ⟨w.heap.size, 0, cap, 1⟩, true, ?_, rfl, hor _, ?_⟩
      · simp only [execOp, ho, hy]
        unfold convert
        simp only [Sem.run_bind, run_underlying (undI_eq hs), run_underlying (undI_eq hd), Result.andThen_ok, run_underlying (undI_eq hu), hrun, Sem.run_pure]
        rfl
      · have hvl := VR.sli (ρ := ρ.with s.next ⟨w.heap.size, 0, cap, 1⟩) (γ := γ) s.next 0 l.size l.size cap 0 ⟨w.heap.size, 0, cap, 1⟩ (Rho.with_self _ _ _) (Nat.le_refl _) hle (.inl rfl) (by show 0 + cap * 1 ≤ cap; omega)
        rw [hl]
        exact hvl

theorem cls_made (op : Op) (h : clsOf P op = .made) : MadeAct P γ n op (execT P n op) := by
  cases op
  case convert src dst x => exact conv_made x h
  case call c =>
    exfalso
    change clsCall P c.callee c.argTypes = .made at h
    unfold clsCall at h
    split at h <;> (try (cases h; done))
    unfold clsBuiltin at h
    split at h <;> (try (cases h; done))
    split at h <;> cases h
  all_goals first
    | (cases h; done)
    | exact alloc_made _
    | exact box_made _ _
    | exact buildSlice_made _ _ _
end ops
end Go.Eng
