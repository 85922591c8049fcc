/- A part of the proof: an interpreter of the program, shown right once, and the laws that it computes. -/
import Derived.Test.YtphdmkiedglfmaaGreatEng18
set_option linter.constructorNameAsVariable false
set_option linter.unusedVariables false
set_option linter.unusedSimpArgs false
namespace Go.Eng
variable {P : Program} {γ : Gam}

theorem val_ok' {s s' : St} {o : Option IV} {v : IV} (h : R.val s o = .ok v s') : o = some v ∧ s' = s := by
  cases o with
  | none => cases h
  | some x => cases h; exact ⟨rfl, rfl⟩
theorem bytes_beq' (a b : ByteArray) : (a == b) = true ↔ a = b := by
  obtain ⟨x⟩ := a
  obtain ⟨y⟩ := b
  constructor
  · intro h
    have e : x = y := by simpa using (show (x == y) = true from h)
    rw [e]
  · intro h
    cases h
    show (x == x) = true
    simp
theorem sameB'_eq (a b : Bool) : sameB' a b = true ↔ a = b := by cases a <;> cases b <;> decide

theorem scal_sim {ρ : Rho} {x y : IV} {x' y' : Value} (n : Nat) (hx : VR ρ γ x x') (hy : VR ρ γ y y') (h : scal x y = true) : Instr.sameBits n x' y' = true := by
  unfold scal at h
  cases hx <;> simp only at h <;> (try (cases h; done)) <;> cases hy <;> simp only at h <;> (try (cases h; done))
  · have := (sameB'_eq _ _).1 h
    subst this
    unfold Instr.sameBits; simp
  · split at h <;> (try (cases h; done))
    rename_i hk
    have := (kindEq_iff _ _).1 hk
    subst this
    rw [eqI_eq] at h
    have := eq_of_beq h
    subst this
    unfold Instr.sameBits; simp
  · rename_i a l ha b m hb
    have hl := (listEq_iff _ _).1 h
    subst hl
    have : a = b := by
      have := toNats_inj (ha.trans hb.symm)
      exact ByteArray.ext (Array.toList_inj.1 this)
    subst this
    cases n <;> (unfold Instr.sameBits; exact (bytes_beq' _ _).2 rfl)

theorem scals_sim {ρ : Rho} (n : Nat) : ∀ {x y : List IV} {x' y' : List Value}, VRs ρ γ x x' → VRs ρ γ y y' → scals x y = true → x'.length = y'.length ∧ ((x'.zip y').all fun (a, b) => Instr.sameBits n a b) = true
  | [], [], _, _, hx, hy, h => by cases hx; cases hy; exact ⟨rfl, rfl⟩
  | [], _ :: _, _, _, hx, hy, h => by cases h
  | _ :: _, [], _, _, hx, hy, h => by cases h
  | a :: x, b :: y, _, _, hx, hy, h => by
    cases hx with
    | cons _ a' _ x' ha hx =>
      cases hy with
      | cons _ b' _ y' hb hy =>
        unfold scals at h
        simp only at h
        split at h <;> (try (cases h; done))
        rename_i hs
        obtain ⟨h1, h2⟩ := scals_sim n hx hy h
        refine ⟨by simp [h1], ?_⟩
        simp only [List.zip_cons_cons, List.all_cons, h2, Bool.and_true]
        exact scal_sim n ha hb hs

theorem sameK_sim {ρ : Rho} {x y : IV} {x' y' : Value} (n : Nat) (hx : VR ρ γ x x') (hy : VR ρ γ y y') (h : sameK x y = true) : Instr.sameBits (n + 1) x' y' = true := by
  unfold sameK at h
  split at h
  · rename_i l
    split at h <;> (try (cases h; done))
    rename_i m
    cases hx with
    | agg _ a ha =>
      cases hy with
      | agg _ b hb =>
        obtain ⟨h1, h2⟩ := scals_sim n ha hb h
        unfold Instr.sameBits
        simp only [Bool.and_eq_true]
        exact ⟨by simpa using h1, h2⟩
  · exact scal_sim _ hx hy h

/-- Keys held against one another. -/
theorem scalCmp_sim {ρ : Rho} {x y : IV} {x' y' : Value} {b : Bool} {u : TypeDesc} (hx : VR ρ γ x x') (hy : VR ρ γ y y') (h : scalCmp x y = some b)
    (hu : (∃ k, u = .int k) ∧ (∃ k n, x = .int k n) ∨ u = .string ∧ (∃ l, x = .str l)) : Instr.sameNow u x' y' = some b := by
  unfold scalCmp at h
  rcases hu with ⟨⟨k0, rfl⟩, k, n, rfl⟩ | ⟨rfl, l, rfl⟩
  · simp only at h
    cases hx
    cases hy <;> simp only at h <;> (try (cases h; done))
    split at h <;> (try (cases h; done))
    rename_i hk
    have := (kindEq_iff _ _).1 hk
    subst this
    cases h
    unfold Instr.sameNow
    simp [eqI_eq]
  · simp only at h
    cases hx with
    | str a _ ha =>
      cases hy <;> simp only at h <;> (try (cases h; done))
      rename_i c m hc
      cases h
      unfold Instr.sameNow
      subst ha hc
      show some (a == c) = _
      rw [listEq_bytes]
      congr 1
      rw [Bool.eq_iff_iff]
      simp only [beq_iff_eq, toList_data]
      constructor
      · intro e; rw [(bytes_beq' _ _).1 e]
      · intro e; exact (bytes_beq' _ _).2 (ByteArray.ext (Array.toList_inj.1 e))

/-- What was found, here and there. -/
def FR (ρ : Rho) (γ : Gam) (l : List MapEntry) (i : Nat) (k' : Value) : Option (Nat × IV × Nat) → Option (Nat × Value) → Prop
  | none, none => True
  | some (j, v, st), some (j', v') => j' = j ∧ i ≤ j ∧ ∃ e, l[j - i]? = some e ∧ VR ρ γ v e.val ∧ v' = e.val ∧ st = e.born ∧ Instr.sameBits 10000 e.key k' = true
  | _, _ => False

theorem FR.tail {ρ : Rho} {e : MapEntry} {l : List MapEntry} {i : Nat} {k' : Value} {r : Option (Nat × IV × Nat)} {r' : Option (Nat × Value)} (h : FR ρ γ l (i + 1) k' r r') : FR ρ γ (e :: l) i k' r r' := by
  cases r with
  | none => cases r' <;> exact h
  | some r => cases r' with
    | none => exact h
    | some r' =>
      obtain ⟨j, v, st⟩ := r
      obtain ⟨j', v'⟩ := r'
      obtain ⟨h1, h2, e1, h3, h4⟩ := h
      refine ⟨h1, by omega, e1, ?_, h4⟩
      rw [show j - i = (j - (i + 1)) + 1 by omega, List.getElem?_cons_succ]
      exact h3

theorem find_now {ρ : Rho} {k : IV} {k' : Value} {u : TypeDesc} {f : IV → Option Bool} (hk : VR ρ γ k k') (hf : ∀ y y' b, VR ρ γ y y' → f y = some b → Instr.sameNow u k' y' = some b) :
    ∀ {es : List (IV × IV × Nat)} {l : List MapEntry} {i : Nat} {r : Option (Nat × IV × Nat)}, EntR ρ γ es l → findKey f k es i = some r → ∃ r', Instr.findNow u k' l i = some r' ∧ FR ρ γ l i k' r r'
  | [], _, i, r, he, h => by
    cases he
    simp only [findKey] at h
    cases h
    exact ⟨none, rfl, trivial⟩
  | _ :: es, _, i, r, he, h => by
    cases he with
    | cons k1 v1 e _ l hk1 hv1 he =>
      unfold findKey at h
      cases hc : f k1 with
      | none => rw [hc] at h; cases h
      | some b =>
        rw [hc] at h
        simp only at h
        have hs := hf k1 e.key b hk1 hc
        unfold Instr.findNow
        rw [hs]
        cases b with
        | true =>
          simp only at h ⊢
          split at h <;> (try (cases h; done))
          rename_i hsame
          cases h
          exact ⟨_, rfl, rfl, Nat.le_refl _, e, by rw [Nat.sub_self]; rfl, hv1, rfl, rfl, sameK_sim _ hk1 hk hsame⟩
        | false =>
          simp only at h ⊢
          obtain ⟨r', h1, h2⟩ := find_now hk hf he h
          exact ⟨r', h1, h2.tail⟩

theorem find_ask {ρ : Rho} {kt : Nat} {k : IV} {k' : Value} {w : World} {f : IV → Option Bool} (hk : VR ρ γ k k') (hf : ∀ y y' b, VR ρ γ y y' → f y = some b → (Op.equal kt k' y').run P w = .ok b w) :
    ∀ {es : List (IV × IV × Nat)} {l : List MapEntry} {i : Nat} {r : Option (Nat × IV × Nat)}, EntR ρ γ es l → findKey f k es i = some r → ∃ r', (Instr.findAsking kt k' l i).run P w = .ok r' w ∧ FR ρ γ l i k' r r'
  | [], _, i, r, he, h => by
    cases he
    simp only [findKey] at h
    cases h
    exact ⟨none, rfl, trivial⟩
  | _ :: es, _, i, r, he, h => by
    cases he with
    | cons k1 v1 e _ l hk1 hv1 he =>
      unfold findKey at h
      cases hc : f k1 with
      | none => rw [hc] at h; cases h
      | some b =>
        rw [hc] at h
        simp only at h
        have hs := hf k1 e.key b hk1 hc
        unfold Instr.findAsking
        simp only [Sem.run_bind, hs, Result.andThen_ok]
        cases b with
        | true =>
          simp only at h
          split at h <;> (try (cases h; done))
          rename_i hsame
          cases h
          exact ⟨_, rfl, rfl, Nat.le_refl _, e, by rw [Nat.sub_self]; rfl, hv1, rfl, rfl, sameK_sim _ hk1 hk hsame⟩
        | false =>
          simp only at h
          obtain ⟨r', h1, h2⟩ := find_ask hk hf he h
          exact ⟨r', h1, h2.tail⟩

theorem scalT_inv {t : Nat} (h : scalT P t = true) : ∃ u, undI P t = some u ∧ ((∃ k, u = .int k) ∨ u = .string ∨ u = .bool) := by
  unfold scalT at h
  split at h
  · rename_i k hu; exact ⟨_, hu, .inl ⟨k, rfl⟩⟩
  · rename_i hu; exact ⟨_, hu, .inr (.inl rfl)⟩
  · rename_i hu; exact ⟨_, hu, .inr (.inr rfl)⟩
  · cases h

theorem checkKey_scal {u : TypeDesc} {t n : Nat} {e : Bool} {v : Value} {w : World} (hu : undI P t = some u) (hs : (∃ k, u = .int k) ∨ u = .string ∨ u = .bool) : (Instr.checkKey e (n + 1) t v).run P w = .ok () w := by
  unfold Instr.checkKey
  simp only [Sem.run_bind, run_underlying (undI_eq hu), Result.andThen_ok]
  rcases hs with ⟨k, rfl⟩ | rfl | rfl <;> rfl

theorem checkKey_fields {ρ : Rho} {l : List IV} {a : Array Value} {e : Bool} {n : Nat} {w : World} (hl : VRs ρ γ l a.toList) : ∀ {fs : List Field}, fieldsFine P l fs = true →
    (forIn fs PUnit.unit fun f _ => do
      if f.name ≠ "_" then Instr.checkKey e (n + 1) f.type (← Go.part f.type a f.offset)
      pure (ForInStep.yield PUnit.unit) : Sem PUnit).run P w = .ok PUnit.unit w
  | [], _ => rfl
  | f :: fs, h => by
    unfold fieldsFine at h
    split at h <;> (try (cases h; done))
    rename_i hs
    split at h <;> (try (cases h; done))
    rename_i v hv
    have ih := checkKey_fields (e := e) (n := n) (w := w) hl h
    rw [List.forIn_cons]
    obtain ⟨u, hu, hsc⟩ := scalT_inv hs
    obtain ⟨v', h1, h2⟩ := part_sim (P := P) (w := w) hl hv
    by_cases hn : f.name = "_"
    · simp only [ne_eq, hn, not_true_eq_false, if_false, bind_assoc, Sem.run_bind, Sem.run_pure, Result.andThen_ok]
      simpa using ih
    · simp only [ne_eq, hn, not_false_eq_true, if_true, Sem.run_bind, h1, Result.andThen_ok, checkKey_scal hu hsc, Sem.run_pure]
      simpa using ih

/-- A key that may be one, and how it is found. -/
theorem find_sim {ρ : Rho} {s : St} {kt : Nat} {k : IV} {k' : Value} {w : World} {es : List (IV × IV × Nat)} {l : List MapEntry} {r : Option (Nat × IV × Nat)} (hr : Rel P γ ρ s w) (hk : VR ρ γ k k') (he : EntR ρ γ es l) (h : findI P kt k es = some r) :
    (∀ e, (Instr.checkKey e 10000 kt k').run P w = .ok () w) ∧ ∃ r', (Instr.findKey kt k' l).run P w = .ok r' w ∧ FR ρ γ l 0 k' r r' := by
  unfold findI at h
  split at h <;> (try (cases h; done))
  rename_i f hf
  unfold cmpT at hf
  cases hu : undI P kt with
  | none => rw [hu] at hf; cases hf
  | some u =>
    rw [hu] at hf
    have hru := run_underlying (undI_eq hu) w
    cases u <;> simp only at hf <;> (try (cases hf; done))
    · rename_i k0
      split at hf <;> (try (cases hf; done))
      rename_i kk n
      cases hf
      refine ⟨fun e => checkKey_scal hu (.inl ⟨_, rfl⟩), ?_⟩
      obtain ⟨r', h1, h2⟩ := find_now (u := .int k0) hk (fun y y' b hy hb => scalCmp_sim hk hy hb (.inl ⟨⟨_, rfl⟩, _, _, rfl⟩)) he h
      refine ⟨r', ?_, h2⟩
      unfold Instr.findKey
      simp only [Sem.run_bind, hru, Result.andThen_ok, h1, Sem.run_pure]
    · split at hf <;> (try (cases hf; done))
      rename_i ll
      cases hf
      refine ⟨fun e => checkKey_scal hu (.inr (.inl rfl)), ?_⟩
      obtain ⟨r', h1, h2⟩ := find_now (u := .string) hk (fun y y' b hy hb => scalCmp_sim hk hy hb (.inr ⟨rfl, _, rfl⟩)) he h
      refine ⟨r', ?_, h2⟩
      unfold Instr.findKey
      simp only [Sem.run_bind, hru, Result.andThen_ok, h1, Sem.run_pure]
    · rename_i fs
      split at hf <;> (try (cases hf; done))
      rename_i ll
      split at hf <;> (try (cases hf; done))
      rename_i hfine
      cases hf
      cases hk with
      | agg _ a ha =>
        refine ⟨fun e => ?_, ?_⟩
        · unfold Instr.checkKey
          simp only [Sem.run_bind, hru, Result.andThen_ok]
          have := checkKey_fields (e := e) (n := 9998) (w := w) ha hfine
          rw [← Array.forIn_toList]
          simp at this ⊢
          rw [this]
          rfl
        · obtain ⟨r', h1, h2⟩ := find_ask (kt := kt) (w := w) (VR.agg _ a ha) (fun y y' b hy hb => eqv_sim hr 10000 (VR.agg _ a ha) hy hb) he h
          unfold Instr.findKey
          simp only [Sem.run_bind, hru, Result.andThen_ok]
          cases l with
          | nil =>
            cases he
            simp only [findKey] at h
            cases h
            exact ⟨none, rfl, trivial⟩
          | cons e1 l =>
            refine ⟨r', ?_, h2⟩
            have : Instr.findNow (.struct fs) (.agg a) (e1 :: l) 0 = none := by unfold Instr.findNow Instr.sameNow; rfl
            rw [this]
            exact h1

theorem EntR.length {ρ : Rho} {es : List (IV × IV × Nat)} {l : List MapEntry} (h : EntR ρ γ es l) : es.length = l.length := by
  induction h with
  | nil => rfl
  | cons k v e es es' hk hv h ih => simp [ih]
theorem EntR.snoc {ρ : Rho} {es : List (IV × IV × Nat)} {l : List MapEntry} (h : EntR ρ γ es l) {k v : IV} {e : MapEntry} (hk : VR ρ γ k e.key) (hv : VR ρ γ v e.val) : EntR ρ γ (es ++ [(k, v, e.born)]) (l ++ [e]) := by
  induction h with
  | nil => exact .cons _ _ e _ _ hk hv .nil
  | cons k v e es es' hk hv h ih => exact .cons _ _ _ _ _ hk hv ih
theorem EntR.setAt {ρ : Rho} : ∀ {es : List (IV × IV × Nat)} {l : List MapEntry} (h : EntR ρ γ es l) (i : Nat) {k v : IV} {e e' : MapEntry} (hi : l[i]? = some e) (hb : e'.born = e.born) (hk : VR ρ γ k e'.key) (hv : VR ρ γ v e'.val),
    EntR ρ γ (Eng.setAt es i (k, v, e.born)) (l.set i e')
  | _, _, .nil, i, k, v, e, e', hi, hb, hk, hv => by cases hi
  | _, _, .cons k1 v1 e1 es l h1 h2 h, i, k, v, e, e', hi, hb, hk, hv => by
    cases i with
    | zero =>
      simp only [List.getElem?_cons_zero, Option.some.injEq] at hi
      subst hi
      rw [← hb]
      exact .cons k v e' es l hk hv h
    | succ i =>
      rw [List.getElem?_cons_succ] at hi
      exact .cons k1 v1 e1 _ _ h1 h2 (EntR.setAt h i hi hb hk hv)
theorem modify_eq (a : Array MapEntry) (i : Nat) (f : MapEntry → MapEntry) (e : MapEntry) (h : a.toList[i]? = some e) : (a.modify i f).toList = a.toList.set i (f e) := by
  rw [Array.toList_modify]
  apply List.ext_getElem?
  intro j
  rw [List.getElem?_modify, List.getElem?_set]
  by_cases hij : i = j
  · subst hij
    have : i < a.toList.length := by
      rw [List.getElem?_eq_some_iff] at h; exact h.1
    simp [h, this]
    simpa using this
  · simp [hij]
theorem keyStays {old new : Value} {w : World} (h : Instr.sameBits 10000 old new = true) : (Instr.keyThatStays old new).run P w = .ok new w := by
  unfold Instr.keyThatStays
  rw [if_pos h]
  rfl

/-- A map's row. -/
theorem Rel.mapRow {ρ : Rho} {s : St} {w : World} (h : Rel P γ ρ s w) {b : Nat} {p : Pl} (hb : ρ b = some p) {es : List (IV × IV × Nat)} {cl : Nat} (hg : s.get b = .map es cl) :
    ∃ l : Array MapEntry, w.heap[p.blk]? = some (.map l cl) ∧ EntR ρ γ es l.toList := by
  obtain ⟨o, h1, h2⟩ := h.live b p hb (by rw [hg]; exact fun h => h)
  rw [hg] at h2
  cases h2 with
  | map _ _ l hl => exact ⟨l, h1, hl⟩

theorem mapT_inv {t : Nat} {kt e : Nat} (h : mapT P t = some (kt, e)) : undI P t = some (.map kt e) := by
  unfold mapT at h
  split at h
  · cases h; assumption
  · cases h

/-- What a lookup makes of what was found. -/
def outM (e : TypeId) : Option (Nat × Value) → Sem (Value × Bool)
  | some (_, v) => pure (v, true)
  | none => do pure (← zeroValue e, false)
theorem lookV_sim {ρ : Rho} {s s' : St} {w : World} {t kt e : Nat} {ok : Bool} {m k v : IV} {m' k' : Value} (h : Rel P γ ρ s w) (ht : mapT P t = some (kt, e)) (hm : VR ρ γ m m') (hk : VR ρ γ k k') (hr : lookV P kt e ok m k s = .ok v s') :
    Yields P γ ρ s w (Instr.lookup t m' k' ok) v s' := by
  unfold lookV at hr
  cases he : entriesOf s m with
  | none => rw [he] at hr; cases hr
  | some es =>
    rw [he] at hr
    obtain ⟨h1, rfl⟩ := val_ok' hr
    have hl : ∃ l : Array MapEntry, EntR ρ γ es l.toList ∧ ∀ (q : Value × Bool), ((∀ e, (Instr.checkKey e 10000 kt k').run P w = .ok () w)) → (∃ r', (Instr.findKey kt k' l.toList).run P w = .ok r' w ∧ ((outM e r').run P w = .ok q w)) → (Instr.lookup t m' k' ok).run P w = .ok (if ok then .tuple #[q.1, .bool q.2] else q.1) w := by
      unfold entriesOf at he
      cases hm <;> simp only at he <;> (try (cases he; done))
      · cases he
        refine ⟨#[], .nil, ?_⟩
        rintro q c1 ⟨r', c2, hq⟩
        unfold Instr.lookup
        simp only [Sem.run_bind, run_underlying (undI_eq (mapT_inv ht)), Result.andThen_ok, c1, c2, Sem.run_pure]
        cases r' with
        | none =>
          simp only [outM, Sem.run_bind] at hq ⊢
          cases hz : (zeroValue e).run P w <;> rw [hz] at hq <;> simp only [Result.andThen_ok, Sem.run_pure] at hq ⊢ <;> (cases hq)
          rfl
        | some r' => simp only [outM, Sem.run_bind, Sem.run_pure, Result.andThen_ok] at hq ⊢; cases hq; rfl
      · rename_i b p hb
        split at he <;> (try (cases he; done))
        rename_i es1 cl hg
        cases he
        obtain ⟨l, q1, q2⟩ := h.mapRow hb hg
        refine ⟨l, q2, ?_⟩
        rintro q c1 ⟨r', c2, hq⟩
        unfold Instr.lookup
        simp only [Sem.run_bind, run_underlying (undI_eq (mapT_inv ht)), run_getObj q1 (by intro _ _ _ h; cases h), Result.andThen_ok, c1, c2, Sem.run_pure]
        cases r' with
        | none =>
          simp only [outM, Sem.run_bind] at hq ⊢
          cases hz : (zeroValue e).run P w <;> rw [hz] at hq <;> simp only [Result.andThen_ok, Sem.run_pure] at hq ⊢ <;> (cases hq)
          rfl
        | some r' => simp only [outM, Sem.run_bind, Sem.run_pure, Result.andThen_ok] at hq ⊢; cases hq; rfl
    obtain ⟨l, hel, hlr⟩ := hl
    unfold lookupIn at h1
    cases hf : findI P kt k es with
    | none => rw [hf] at h1; cases h1
    | some r =>
      rw [hf] at h1
      obtain ⟨c1, r', c2, c3⟩ := find_sim h hk hel hf
      have key : ∀ (q : Value × Bool), ((outM e r').run P w = .ok q w) → (Instr.lookup t m' k' ok).run P w = .ok (if ok then .tuple #[q.1, .bool q.2] else q.1) w :=
        fun q hq => hlr q c1 ⟨r', c2, hq⟩
      cases r with
      | none =>
        simp only at h1
        cases hz : zero P e with
        | none => rw [hz] at h1; cases h1
        | some z =>
          rw [hz] at h1
          simp only at h1
          cases h1
          obtain ⟨z', q1, q2⟩ := zero_rel (ρ := ρ) (γ := γ) hz
          cases r' with
          | some _ => exact c3.elim
          | none =>
            refine Yields.same h (key (z', false) (by simp only [outM, Sem.run_bind, q1, Result.andThen_ok, Sem.run_pure])) ?_
            cases ok
            · exact q2
            · exact pair_rel q2
      | some r =>
        obtain ⟨j, v1, st⟩ := r
        simp only at h1
        cases h1
        cases r' with
        | none => exact c3.elim
        | some r' =>
          obtain ⟨j', v'⟩ := r'
          obtain ⟨_, _, e1, _, q2, q3, _⟩ := c3
          subst q3
          refine Yields.same h (key (e1.val, true) rfl) ?_
          cases ok
          · exact q2
          · exact pair_rel q2

theorem updV_sim {ρ : Rho} {s s' : St} {w : World} {t kt e : Nat} {m k v x : IV} {m' k' x' : Value} (h : Rel P γ ρ s w) (ht : mapT P t = some (kt, e)) (hm : VR ρ γ m m') (hk : VR ρ γ k k') (hx : VR ρ γ x x') (hr : updV P kt m k x s = .ok v s') :
    v = undefI ∧ ∃ w', (Instr.mapUpdate t m' k' x').run P w = .ok () w' ∧ Goes ρ s w ρ s' w' ∧ Rel P γ ρ s' w' := by
  unfold updV at hr
  cases hm <;> simp only at hr <;> (try (cases hr; done))
  rename_i b p hb
  unfold updateIn at hr
  cases hg : s.get b <;> rw [hg] at hr <;> simp only at hr <;> (try (cases hr; done))
  rename_i es cl
  have hd : ¬ Dead (s.get b) := by rw [hg]; exact fun h => h
  obtain ⟨l, q1, q2⟩ := h.mapRow hb hg
  cases hf : findI P kt k es with
  | none => rw [hf] at hr; cases hr
  | some r =>
    rw [hf] at hr
    obtain ⟨c1, r', c2, c3⟩ := find_sim h hk q2 hf
    have hget := run_getObj (P := P) q1 (by intro _ _ _ h; cases h)
    cases r with
    | none =>
      simp only at hr
      cases hr
      cases r' with
      | some _ => exact c3.elim
      | none =>
        obtain ⟨g1, g2⟩ := h.put hb hd (x := .map (es ++ [(k, x, cl)]) (Nat.succ cl)) (o := .map (l.push { key := k', val := x', born := cl }) (cl + 1))
          (.map _ _ _ (by simpa using EntR.snoc q2 (e := { key := k', val := x', born := cl }) hk hx))
        refine ⟨rfl, _, ?_, g2, g1⟩
        unfold Instr.mapUpdate
        simp only [Sem.run_bind, run_underlying (undI_eq (mapT_inv ht)), Result.andThen_ok, hget, c1, c2, run_setObj q1 (by intro _ _ _ h; cases h)]
    | some r =>
      obtain ⟨i, v1, st⟩ := r
      simp only at hr
      cases hr
      cases r' with
      | none => exact c3.elim
      | some r' =>
        obtain ⟨j', v'⟩ := r'
        obtain ⟨d1, _, e1, d2, d3, d4, d5, d6⟩ := c3
        subst d1 d4 d5
        rw [Nat.sub_zero] at d2
        obtain ⟨g1, g2⟩ := h.put hb hd (x := .map (Eng.setAt es j' (k, x, e1.born)) cl) (o := .map (l.modify j' fun e => { e with key := k', val := x' }) cl)
          (.map _ _ _ (by rw [modify_eq l j' _ e1 d2]; exact EntR.setAt q2 j' d2 (by rfl) hk hx))
        refine ⟨rfl, _, ?_, g2, g1⟩
        have hold : (((l[j']?).map (·.key)).getD k') = e1.key := by
          rw [← Array.getElem?_toList, d2]; rfl
        unfold Instr.mapUpdate
        simp only [Sem.run_bind, run_underlying (undI_eq (mapT_inv ht)), Result.andThen_ok, hget, c1, c2, hold, keyStays d6, run_setObj q1 (by intro _ _ _ h; cases h)]

theorem entV_sim {ρ : Rho} {s s' : St} {w : World} {t kt e : Nat} {m k v : IV} {m' k' : Value} (h : Rel P γ ρ s w) (ht : mapT P t = some (kt, e)) (hm : VR ρ γ m m') (hk : VR ρ γ k k') (hr : entV P kt e m k s = .ok v s') :
    Yields P γ ρ s w (Instr.mapEntry t m' k') v s' := by
  unfold entV at hr
  cases hm <;> simp only at hr <;> (try (cases hr; done))
  rename_i b p hb
  unfold entryIn at hr
  cases hg : s.get b <;> rw [hg] at hr <;> simp only at hr <;> (try (cases hr; done))
  rename_i es cl
  have hd : ¬ Dead (s.get b) := by rw [hg]; exact fun h => h
  obtain ⟨l, q1, q2⟩ := h.mapRow hb hg
  cases hf : findI P kt k es with
  | none => rw [hf] at hr; cases hr
  | some r =>
    rw [hf] at hr
    obtain ⟨c1, r', c2, c3⟩ := find_sim h hk q2 hf
    have hget := run_getObj (P := P) q1 (by intro _ _ _ h; cases h)
    cases r with
    | none =>
      simp only at hr
      cases hz : zero P e with
      | none => rw [hz] at hr; cases hr
      | some z =>
        rw [hz] at hr
        cases hr
        cases r' with
        | some _ => exact c3.elim
        | none =>
          obtain ⟨z', z1, z2⟩ := zero_rel (ρ := ρ) (γ := γ) hz
          obtain ⟨g1, g2⟩ := h.put hb hd (x := .map (es ++ [(k, z, cl)]) (Nat.succ cl)) (o := .map (l.push { key := k', val := z', born := cl }) (cl + 1))
            (.map _ _ _ (by simpa using EntR.snoc q2 (e := { key := k', val := z', born := cl }) hk z2))
          refine ⟨_, _, ρ, ?_, g2, g1, .tup _ #[z', goInt cl] (.cons _ _ _ _ z2 (.cons _ _ _ _ (.int _ _) .nil))⟩
          unfold Instr.mapEntry
          simp only [Sem.run_bind, run_underlying (undI_eq (mapT_inv ht)), Result.andThen_ok, hget, c1, c2, z1, run_setObj q1 (by intro _ _ _ h; cases h), Sem.run_pure]
    | some r =>
      obtain ⟨i, v1, st⟩ := r
      simp only at hr
      cases hr
      cases r' with
      | none => exact c3.elim
      | some r' =>
        obtain ⟨j', v'⟩ := r'
        obtain ⟨d1, _, e1, d2, d3, d4, d5, d6⟩ := c3
        subst d1 d4 d5
        rw [Nat.sub_zero] at d2
        obtain ⟨g1, g2⟩ := h.put hb hd (x := .map (Eng.setAt es j' (k, v1, e1.born)) cl) (o := .map (l.modify j' fun e => { e with key := k' }) cl)
          (.map _ _ _ (by rw [modify_eq l j' _ e1 d2]; exact EntR.setAt q2 j' d2 (by rfl) hk d3))
        have hold : (((l[j']?).map (·.key)).getD k') = e1.key := by
          rw [← Array.getElem?_toList, d2]; rfl
        have hborn : (((l[j']?).map (fun x => (x.born : Int))).getD 0) = (e1.born : Int) := by
          rw [← Array.getElem?_toList, d2]; rfl
        refine ⟨_, _, ρ, ?_, g2, g1, .tup _ #[e1.val, goInt e1.born] (.cons _ _ _ _ d3 (.cons _ _ _ _ (.int _ _) .nil))⟩
        unfold Instr.mapEntry
        simp only [Sem.run_bind, run_underlying (undI_eq (mapT_inv ht)), Result.andThen_ok, hget, c1, c2, hold, keyStays d6, hborn, run_setObj q1 (by intro _ _ _ h; cases h), Sem.run_pure]

theorem born_sim {ρ : Rho} {st : Nat} : ∀ {es : List (IV × IV × Nat)} {l : List MapEntry} {i : Nat} {j : Nat} {k : IV}, EntR ρ γ es l → findBorn st es i = some (j, k) →
    i ≤ j ∧ ∃ e, l[j - i]? = some e ∧ e.born = st ∧ VR ρ γ k e.key ∧ l.findIdx? (fun e => (e.born : Int) == (st : Int)) = some (j - i)
  | [], _, i, j, k, he, h => by cases h
  | _ :: es, _, i, j, k, he, h => by
    cases he with
    | cons k1 v1 e _ l hk hv he =>
      unfold findBorn at h
      rw [List.findIdx?_cons]
      cases hb : Nat.beq e.born st with
      | true =>
        rw [hb] at h
        cases h
        have := Nat.eq_of_beq_eq_true hb
        refine ⟨Nat.le_refl _, e, by rw [Nat.sub_self]; rfl, this, hk, ?_⟩
        subst this
        simp
      | false =>
        rw [hb] at h
        obtain ⟨h1, e1, h2, h3, h4, h5⟩ := born_sim he h
        have hne : e.born ≠ st := Nat.ne_of_beq_eq_false hb
        refine ⟨by omega, e1, ?_, h3, h4, ?_⟩
        · rw [show j - i = (j - (i + 1)) + 1 by omega, List.getElem?_cons_succ]; exact h2
        · have : ((e.born : Int) == (st : Int)) = false := by simp; omega
          rw [this]
          simp only [Bool.false_eq_true, if_false]
          simp only [Nat.succ_eq_add_one] at h5
          rw [h5]
          simp
          omega

theorem findIdx_list {p : MapEntry → Bool} (l : Array MapEntry) : l.findIdx? p = l.toList.findIdx? p := by
  cases l; simp
theorem entStV_sim {ρ : Rho} {s s' : St} {w : World} {t : Nat} {m st v x : IV} {m' st' x' : Value} (h : Rel P γ ρ s w) (hm : VR ρ γ m m') (hst : VR ρ γ st st') (hx : VR ρ γ x x') (hr : entStV m st x s = .ok v s') :
    v = undefI ∧ ∃ w', (Instr.entryStore t m' st' x').run P w = .ok () w' ∧ Goes ρ s w ρ s' w' ∧ Rel P γ ρ s' w' := by
  unfold entStV at hr
  cases hm <;> simp only at hr <;> (try (cases hr; done))
  rename_i b p hb
  cases hn : st.nat with
  | none => rw [hn] at hr; cases hr
  | some n =>
    rw [hn] at hr
    obtain ⟨kk, hkk⟩ : ∃ kk, st' = .int kk n := by
      cases hst <;> simp only [IV.nat] at hn <;> (try (cases hn; done))
      split at hn <;> (try (cases hn; done))
      cases hn
      exact ⟨_, rfl⟩
    subst hkk
    simp only at hr
    unfold storeIn at hr
    cases hg : s.get b <;> rw [hg] at hr <;> simp only at hr <;> (try (cases hr; done))
    rename_i es cl
    have hd : ¬ Dead (s.get b) := by rw [hg]; exact fun h => h
    obtain ⟨l, q1, q2⟩ := h.mapRow hb hg
    cases hf : findBorn n es 0 with
    | none => rw [hf] at hr; cases hr
    | some r =>
      obtain ⟨i, k⟩ := r
      rw [hf] at hr
      cases hr
      obtain ⟨d1, e1, d2, d3, d4, d5⟩ := born_sim q2 hf
      rw [Nat.sub_zero] at d2 d5
      subst d3
      obtain ⟨g1, g2⟩ := h.put hb hd (x := .map (Eng.setAt es i (k, x, e1.born)) cl) (o := .map (l.modify i fun e => { e with val := x' }) cl)
        (.map _ _ _ (by rw [modify_eq l i _ e1 d2]; exact EntR.setAt q2 i d2 (by rfl) d4 hx))
      refine ⟨rfl, _, ?_, g2, g1⟩
      have hget := run_getObj (P := P) q1 (by intro _ _ _ h; cases h)
      have hfi : l.findIdx? (fun e => (e.born : Int) == (e1.born : Int)) = some i := by
        rw [← d5]; exact (findIdx_list l)
      unfold Instr.entryStore
      simp only [Sem.run_bind, run_asInt, Result.andThen_ok, hget, Sem.run_pure, hfi, run_setObj q1 (by intro _ _ _ h; cases h)]

theorem makeMap_sim {ρ : Rho} {s : St} {w : World} {t : Nat} (h : Rel P γ ρ s w) : Yields P γ ρ s w (Instr.makeMap t none) (.map s.next) (s.new (.map [] 0)) := by
  let p : Pl := ⟨w.heap.size, 0, 0, 0⟩
  obtain ⟨h1, h2⟩ := h.new (p := p) rfl (x := .map [] 0) (o := .map #[] 0) (.map [] 0 #[] .nil)
  refine ⟨.map (some w.heap.size), _, _, ?_, h2, h1, VR.map (ρ := ρ.with s.next p) (γ := γ) s.next p (Rho.with_self _ _ _)⟩
  unfold Instr.makeMap
  simp only [Sem.run_bind, Sem.run_pure, Result.andThen_ok, run_newObj]
  rfl

theorem lenMap_sim {ρ : Rho} {s s' : St} {w : World} {x v : IV} {x' : Value} {kt e : Nat} {ts : Array TypeId} {rt : TypeId} (h : Rel P γ ρ s w) (hx : VR ρ γ x x') (ht : argT P ts 0 = some (.map kt e)) (hr : lenMapV x s = .ok v s') :
    Yields P γ ρ s w (Builtin.len_ ts rt #[x']) v s' := by
  unfold argT at ht
  cases h0 : ts[0]? with
  | none => rw [h0] at ht; cases ht
  | some t0 =>
    rw [h0] at ht
    unfold lenMapV at hr
    cases hx <;> simp only at hr <;> (try (cases hr; done))
    · cases hr
      refine Yields.same h ?_ (.int _ _)
      unfold Builtin.len_
      simp only [h0, Sem.run_bind, run_underlying (undI_eq ht), Result.andThen_ok, List.getElem?_toArray, List.getElem?_cons_zero]
      rfl
    · rename_i b p hb
      unfold lenMap at hr
      cases hg : s.get b <;> rw [hg] at hr <;> simp only at hr <;> (try (cases hr; done))
      rename_i es cl
      cases hr
      obtain ⟨l, q1, q2⟩ := h.mapRow hb hg
      have hsz : es.length = l.size := by simpa using q2.length
      refine Yields.same h ?_ (v' := goInt l.size) (by rw [← hsz]; exact .int _ _)
      unfold Builtin.len_
      simp only [h0, Sem.run_bind, run_underlying (undI_eq ht), Result.andThen_ok, List.getElem?_toArray, List.getElem?_cons_zero, run_getObj q1 (by intro _ _ _ h; cases h), Sem.run_pure]
end Go.Eng
