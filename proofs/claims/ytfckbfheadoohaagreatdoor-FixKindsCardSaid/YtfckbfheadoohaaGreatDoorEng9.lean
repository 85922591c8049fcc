/- A part of the proof: an interpreter of the program, shown right once, and the laws that it computes. -/
import Derived.Test.YtfckbfheadoohaaGreatDoorEng8
set_option linter.constructorNameAsVariable false
set_option linter.unusedVariables false
set_option linter.unusedSimpArgs false
namespace Go.Eng
variable {P : Program} {γ : Gam}

theorem isLet_int {γ : Gam} {k : Nat} (hl : 1000 ≤ k → k < 4000 → LetOk γ (k % 1000)) (h : isLet k = true) : ∃ t n, γ k = .int t n := by
  unfold isLet at h
  split at h <;> (try (cases h; done))
  rename_i h1
  have h1' := Nat.le_of_ble_eq_true h1
  have h2 : k < 4000 := by rw [Nat.blt_eq] at h; exact h
  obtain ⟨n, _, _, g1, g2, g3⟩ := hl h1' h2
  have hk : 1000 + k % 1000 = k ∨ 2000 + k % 1000 = k ∨ 3000 + k % 1000 = k := by omega
  rcases hk with e | e | e
  · rw [e] at g1; exact ⟨_, _, g1⟩
  · rw [e] at g2; exact ⟨_, _, g2⟩
  · rw [e] at g3; exact ⟨_, _, g3⟩
theorem eqGuard_sim {ρ : Rho} {op : BinOp} {t : Nat} {x y : Operand} {a b : IV} {a' b' : Value} {w : World} (ha : VR ρ γ a a') (hb : VR ρ γ b b') (h : eqSafe P op t x y a b = true) :
    (eqGuard op t x y a' b').run P w = .ok () w := by
  unfold eqGuard
  have other : ∀ (c : Bool), c = true → ((if c = true then pure () else (pure () : Sem Unit)).run P w = .ok () w) := fun c hc => by simp
  cases op <;> first
    | rfl
    | (cases ha <;> cases hb <;> first
        | rfl
        | (simp [eqSafe] at h; done)
        | (simp only [eqSafe] at h
           cases x <;> cases y <;> first
             | rfl
             | (simp at h; done))
        | (simp only [eqSafe] at h
           have h' : P.eqGuardType P.depth t = false := by simpa using h
           simp [h'])
        | (simp only [eqSafe] at h
           rename_i hl _ _
           obtain ⟨t0, n0, e⟩ := isLet_int hl h
           rw [e]
           rfl)
        | (simp only [eqSafe] at h
           rename_i hl
           obtain ⟨t0, n0, e⟩ := isLet_int hl h
           rw [e]
           rfl)
        | (simp only [eqSafe] at h
           split at h <;> (try (cases h; done))
           rename_i hl1 _ _ _ _ hl2 _ h1
           obtain ⟨t0, n0, e⟩ := isLet_int hl2 h
           rw [e]
           obtain ⟨t1, n1, e1⟩ := isLet_int hl1 h1
           rw [e1]
           rfl))

theorem eqDo_sim {ρ : Rho} {s : St} {w : World} (hr : Rel P γ ρ s w) {op : BinOp} {t : Nat} {x y v : IV} {x' y' : Value} (hx : VR ρ γ x x') (hy : VR ρ γ y y') (hi : ∀ k n, x ≠ .int k n) (hs : ∀ l, x ≠ .str l) (hq : ∀ k, x ≠ .sym k) (hss : ∀ l, x ≠ .sstr l)
    (h : eqDo P op t x y = some v) : ∃ v', (Go.binOp op t x' y').run P w = .ok v' w ∧ VR ρ γ v v' := by
  unfold eqDo at h
  cases op <;> simp only at h <;> (try (cases h; done))
  case eql =>
    cases hq' : eqv P 10000 t x y with
    | none => simp [hq'] at h
    | some b =>
      simp only [hq'] at h; cases h
      have := eqv_sim hr 10000 hx hy hq'
      refine ⟨.bool b, ?_, .bool b⟩
      have e : Go.binOp .eql t x' y' = (do pure (.bool (← Op.equal t x' y'))) := by
        cases hx <;> cases hy <;> first
          | rfl
          | exact absurd rfl (hi _ _)
          | exact absurd rfl (hs _)
          | exact absurd rfl (hq _)
          | exact absurd rfl (hss _)
      rw [e]
      simp only [Sem.run_bind, Op.equal, Op.maxDepth, this, Result.andThen_ok, Sem.run_pure]
  case neq =>
    cases hq' : eqv P 10000 t x y with
    | none => simp [hq'] at h
    | some b =>
      simp only [hq'] at h; cases h
      have := eqv_sim hr 10000 hx hy hq'
      refine ⟨.bool (!b), ?_, .bool _⟩
      have e : Go.binOp .neq t x' y' = (do pure (.bool (!(← Op.equal t x' y')))) := by
        cases hx <;> cases hy <;> first
          | rfl
          | exact absurd rfl (hi _ _)
          | exact absurd rfl (hs _)
          | exact absurd rfl (hq _)
          | exact absurd rfl (hss _)
      rw [e]
      simp only [Sem.run_bind, Op.equal, Op.maxDepth, this, Result.andThen_ok, Sem.run_pure]

theorem shift_kind (op : BinOp) (hop : isShift op = true) (t : Nat) (k k' : IntKind) (a b : Int) : Go.binOp op t (.int k a) (.int k' b) = Go.binOp op t (.int k a) (.int k b) := by
  cases op <;> simp [isShift] at hop <;> rfl

/- letters -/
theorem letKind_some {j : Nat} {k : IntKind} (h : letKind j = some k) : 1000 ≤ j ∧ j < 4000 ∧ ((j < 2000 ∧ k = .u8) ∨ (2000 ≤ j ∧ j < 3000 ∧ k = .i64) ∨ (3000 ≤ j ∧ k = .i32)) := by
  unfold letKind at h
  split at h <;> (try (cases h; done))
  rename_i h1
  have h1' : ¬ j < 1000 := by intro hj; rw [← Nat.blt_eq] at hj; rw [hj] at h1; cases h1
  split at h
  · rename_i h2
    have h2' : j < 2000 := by simpa [Nat.blt_eq] using h2
    cases h
    exact ⟨by omega, by omega, .inl ⟨h2', rfl⟩⟩
  · rename_i h2
    have h2' : ¬ j < 2000 := by intro hj; rw [← Nat.blt_eq] at hj; rw [hj] at h2; cases h2
    split at h
    · rename_i h3
      have h3' : j < 3000 := by simpa [Nat.blt_eq] using h3
      cases h
      exact ⟨by omega, by omega, .inr (.inl ⟨by omega, h3', rfl⟩)⟩
    · rename_i h3
      have h3' : ¬ j < 3000 := by intro hj; rw [← Nat.blt_eq] at hj; rw [hj] at h3; cases h3
      split at h <;> (try (cases h; done))
      rename_i h4
      have h4' : j < 4000 := by simpa [Nat.blt_eq] using h4
      cases h
      exact ⟨by omega, h4', .inr (.inr ⟨by omega, rfl⟩)⟩
/-- What a letter's symbol stands for. -/
theorem let_val {γ : Gam} {j : Nat} {k : IntKind} (h : letKind j = some k) (hl : 1000 ≤ j → j < 4000 → LetOk γ (j % 1000)) : ∃ n : Nat, 97 ≤ n ∧ n ≤ hiL (j % 1000) ∧ γ j = .int k n := by
  obtain ⟨h1, h2, h3⟩ := letKind_some h
  obtain ⟨n, n1, n2, g1, g2, g3⟩ := hl h1 h2
  refine ⟨n, n1, n2, ?_⟩
  rcases h3 with ⟨h3, rfl⟩ | ⟨h3, h4, rfl⟩ | ⟨h3, rfl⟩
  · rw [show 1000 + j % 1000 = j by omega] at g1; exact g1
  · rw [show 2000 + j % 1000 = j by omega] at g2; exact g2
  · rw [show 3000 + j % 1000 = j by omega] at g3; exact g3
theorem letC_sim {H : Nat} {op : BinOp} {k : IntKind} {n : Nat} {c : Int} {b : Bool} (h1 : 97 ≤ n) (h2 : n ≤ H) (h : letC H op c = some b) (t : Nat) (w : World) : (Go.binOp op t (.int k n) (.int k c)).run P w = .ok (.bool b) w := by
  have key : ∀ b', intDo op k n c = some (.bool b') → b = b' → (Go.binOp op t (.int k n) (.int k c)).run P w = .ok (.bool b) w := by
    intro b' hd hb
    obtain ⟨v', e1, e2⟩ := intDo_sim (P := P) (γ := fun _ => .bool true) (t := t) (w := w) (ρ := fun _ => none) hd
    cases e2
    rw [hb]; exact e1
  have eH : Int.ofNat H = (H : Int) := rfl
  cases op <;> simp only [letC] at h <;> (try (cases h; done))
  case eql =>
    split at h <;> (try (cases h; done))
    rename_i hc
    rw [Bool.or_eq_true, ltI_eq, ltI_eq, decide_eq_true_eq, decide_eq_true_eq] at hc
    rw [Int.ofNat_eq_natCast] at hc
    cases h
    refine key (eqI n c) rfl ?_
    rw [eqI_eq, eq_comm, beq_eq_false_iff_ne]
    omega
  case neq =>
    split at h <;> (try (cases h; done))
    rename_i hc
    rw [Bool.or_eq_true, ltI_eq, ltI_eq, decide_eq_true_eq, decide_eq_true_eq] at hc
    rw [Int.ofNat_eq_natCast] at hc
    cases h
    refine key (notB (eqI n c)) rfl ?_
    rw [notB_eq, eqI_eq, eq_comm, Bool.not_eq_true', beq_eq_false_iff_ne]
    omega
  case lss =>
    split at h
    · rename_i hc
      rw [ltI_eq, decide_eq_false_iff_not] at hc
      cases h
      refine key (ltI n c) rfl ?_
      rw [ltI_eq, eq_comm, decide_eq_false_iff_not]
      omega
    · rename_i hc
      split at h <;> (try (cases h; done))
      rename_i hc2
      rw [ltI_eq, decide_eq_true_eq, eH] at hc2
      cases h
      refine key (ltI n c) rfl ?_
      rw [ltI_eq, eq_comm, decide_eq_true_eq]
      omega
  case leq =>
    split at h
    · rename_i hc
      rw [ltI_eq, decide_eq_true_eq] at hc
      cases h
      refine key (notB (ltI c n)) rfl ?_
      rw [notB_eq, ltI_eq, eq_comm, Bool.not_eq_false', decide_eq_true_eq]
      omega
    · rename_i hc
      split at h <;> (try (cases h; done))
      rename_i hc2
      rw [ltI_eq, decide_eq_false_iff_not, eH] at hc2
      cases h
      refine key (notB (ltI c n)) rfl ?_
      rw [notB_eq, ltI_eq, eq_comm, Bool.not_eq_true', decide_eq_false_iff_not]
      omega
  case gtr =>
    split at h
    · rename_i hc
      rw [ltI_eq, decide_eq_true_eq] at hc
      cases h
      refine key (ltI c n) rfl ?_
      rw [ltI_eq, eq_comm, decide_eq_true_eq]
      omega
    · rename_i hc
      split at h <;> (try (cases h; done))
      rename_i hc2
      rw [ltI_eq, decide_eq_false_iff_not, eH] at hc2
      cases h
      refine key (ltI c n) rfl ?_
      rw [ltI_eq, eq_comm, decide_eq_false_iff_not]
      omega
  case geq =>
    split at h
    · rename_i hc
      rw [ltI_eq, decide_eq_false_iff_not] at hc
      cases h
      refine key (notB (ltI n c)) rfl ?_
      rw [notB_eq, ltI_eq, eq_comm, Bool.not_eq_true', decide_eq_false_iff_not]
      omega
    · rename_i hc
      split at h <;> (try (cases h; done))
      rename_i hc2
      rw [ltI_eq, decide_eq_true_eq, eH] at hc2
      cases h
      refine key (notB (ltI n c)) rfl ?_
      rw [notB_eq, ltI_eq, eq_comm, Bool.not_eq_false', decide_eq_true_eq]
      omega
/-- The same, the number first. -/
theorem flip_sim {H : Nat} {op : BinOp} {k : IntKind} {n : Nat} {c : Int} {b : Bool} (h1 : 97 ≤ n) (h2 : n ≤ H) (h : letC H (flipOp op) c = some b) (t : Nat) (w : World) : (Go.binOp op t (.int k c) (.int k n)).run P w = .ok (.bool b) w := by
  have hs := letC_sim (P := P) (k := k) h1 h2 h t w
  have key : ∀ b1 : Bool, intDo op k c n = some (.bool b1) → intDo (flipOp op) k n c = some (.bool b1) → (Go.binOp op t (.int k c) (.int k n)).run P w = .ok (.bool b) w := by
    intro v hd hd2
    obtain ⟨v1, e1, e2⟩ := intDo_sim (P := P) (γ := fun _ => .bool true) (t := t) (w := w) (ρ := fun _ => none) hd2
    rw [hs] at e1
    have hv1 := congrArg (fun r => match r with | Result.ok v _ => v | _ => undef) e1
    simp only at hv1
    subst hv1
    obtain ⟨v2, f1, f2⟩ := intDo_sim (P := P) (γ := fun _ => .bool true) (t := t) (w := w) (ρ := fun _ => none) hd
    cases e2
    cases f2
    exact f1
  cases op <;> simp only [flipOp, letC] at h <;> (try (cases h; done))
  case eql => exact key (eqI c n) rfl (by show some (IV.bool (eqI n c)) = _; rw [eqI_eq, eqI_eq, Bool.beq_comm])
  case neq => exact key (notB (eqI c n)) rfl (by show some (IV.bool (notB (eqI n c))) = _; rw [eqI_eq, eqI_eq, Bool.beq_comm])
  case lss => exact key (ltI c n) rfl rfl
  case leq => exact key (notB (ltI n c)) rfl rfl
  case gtr => exact key (ltI n c) rfl rfl
  case geq => exact key (notB (ltI c n)) rfl rfl
theorem letLet_sim {op : BinOp} {k : IntKind} {n : Int} {i j : Nat} {v : IV} {ρ : Rho} (h : letLet op i j = some v) (t : Nat) (w : World) : i = j ∧ ∃ v', (Go.binOp op t (.int k n) (.int k n)).run P w = .ok v' w ∧ VR ρ γ v v' := by
  unfold letLet at h
  split at h <;> (try (cases h; done))
  split at h <;> (try (cases h; done))
  rename_i hij
  refine ⟨Nat.eq_of_beq_eq_true hij, ?_⟩
  have e : eqI n n = true := by rw [eqI_eq]; simp
  have l : ltI n n = false := by rw [ltI_eq]; simp
  cases op <;> simp only at h <;> (try (cases h; done)) <;> cases h <;> first
    | exact intDo_sim (P := P) (op := .eql) (by show some (IV.bool (eqI n n)) = _; rw [e])
    | exact intDo_sim (P := P) (op := .neq) (by show some (IV.bool (notB (eqI n n))) = _; rw [e]; rfl)
    | exact intDo_sim (P := P) (op := .lss) (by show some (IV.bool (ltI n n)) = _; rw [l])
    | exact intDo_sim (P := P) (op := .leq) (by show some (IV.bool (notB (ltI n n))) = _; rw [l]; rfl)
    | exact intDo_sim (P := P) (op := .gtr) (by show some (IV.bool (ltI n n)) = _; rw [l])
    | exact intDo_sim (P := P) (op := .geq) (by show some (IV.bool (notB (ltI n n))) = _; rw [l]; rfl)
/-- Texts with letters in them. -/
def SR (γ : Gam) (l : List Nat) (s : ByteArray) : Prop := s.data.toList.map UInt8.toNat = l.map (den γ) ∧ ∀ c ∈ l, CodeOk γ c
theorem SR.plain {γ : Gam} {s : ByteArray} {l : List Nat} (h : s.data.toList.map UInt8.toNat = l) : SR γ l s := by
  have hb : ∀ c ∈ l, c < 256 := by
    intro c hc
    rw [← h] at hc
    obtain ⟨b, _, rfl⟩ := List.mem_map.1 hc
    exact UInt8.toNat_lt b
  refine ⟨?_, fun c hc => .inl (hb c hc)⟩
  rw [h]
  conv => lhs; rw [← List.map_id l]
  exact List.map_congr_left (fun c hc => by unfold den; rw [if_pos (hb c hc)]; rfl)
theorem den_small {γ : Gam} {c : Nat} (h : c < 256) : den γ c = c := by unfold den; rw [if_pos h]
theorem map_den_small {γ : Gam} {l : List Nat} (h : ∀ c ∈ l, c < 256) : l.map (den γ) = l := by
  conv => rhs; rw [← List.map_id l]
  exact List.map_congr_left fun c hc => by rw [den_small (h c hc)]; rfl
theorem textOf_rel {ρ : Rho} {s : ByteArray} {l : List Nat} (h : s.data.toList.map UInt8.toNat = l.map (den γ)) (hc : ∀ c ∈ l, CodeOk γ c) : VR ρ γ (textOf l) (.string s) := by
  unfold textOf
  cases ha : allB (fun c => Nat.blt c 256) l with
  | false => exact .sstr _ _ h hc
  | true =>
    refine .str _ _ ?_
    rw [h]
    exact map_den_small fun x hx => by have := (allB_iff _ _).1 ha x hx; rw [Nat.blt_eq] at this; exact this
theorem den_let {γ : Gam} {c : Nat} (h : 256 ≤ c) (hl : LetOk γ (c - 256)) : 97 ≤ den γ c ∧ den γ c ≤ hiL (c - 256) := by
  obtain ⟨n, n1, n2, g1, _, _⟩ := hl
  unfold den denL
  rw [if_neg (by omega), g1]
  simp
  omega
theorem codeEq_sim {γ : Gam} {a b : Nat} {r : Bool} (ha : CodeOk γ a) (hb : CodeOk γ b) (h : codeEq a b = some r) : decide (den γ a = den γ b) = r := by
  unfold codeEq at h
  split at h
  · rename_i e
    cases h
    rw [Nat.eq_of_beq_eq_true e]
    simp
  · rename_i e
    have hne : a ≠ b := by intro e2; subst e2; simp at e
    split at h
    · rename_i h1
      have h1' : a < 256 := by simpa [Nat.blt_eq] using h1
      have da : den γ a = a := by unfold den; rw [if_pos h1']
      split at h
      · rename_i h2
        have h2' : b < 256 := by simpa [Nat.blt_eq] using h2
        have db : den γ b = b := by unfold den; rw [if_pos h2']
        cases h
        rw [da, db]
        exact decide_eq_false hne
      · rename_i h2
        have h2' : ¬ b < 256 := by intro hj; rw [← Nat.blt_eq] at hj; rw [hj] at h2; cases h2
        split at h <;> (try (cases h; done))
        rename_i h3
        rw [Bool.or_eq_true, Nat.blt_eq, Nat.blt_eq] at h3
        cases h
        rcases hb with hb | ⟨_, _, hb⟩
        · omega
        · have := den_let (by omega) hb
          have eS : Nat.sub b 256 = b - 256 := rfl
          rw [eS] at h3
          rw [da]
          exact decide_eq_false (by omega)
    · rename_i h1
      have h1' : ¬ a < 256 := by intro hj; rw [← Nat.blt_eq] at hj; rw [hj] at h1; cases h1
      split at h <;> (try (cases h; done))
      rename_i h2
      have h2' : b < 256 := by simpa [Nat.blt_eq] using h2
      have db : den γ b = b := by unfold den; rw [if_pos h2']
      split at h <;> (try (cases h; done))
      rename_i h3
      rw [Bool.or_eq_true, Nat.blt_eq, Nat.blt_eq] at h3
      cases h
      rcases ha with ha | ⟨_, _, ha⟩
      · omega
      · have := den_let (by omega) ha
        have eS : Nat.sub a 256 = a - 256 := rfl
        rw [eS] at h3
        rw [db]
        exact decide_eq_false (by omega)
theorem listEq3_sim {γ : Gam} : ∀ {a b : List Nat} {r : Bool}, (∀ c ∈ a, CodeOk γ c) → (∀ c ∈ b, CodeOk γ c) → listEq3 a b = some r → decide (a.map (den γ) = b.map (den γ)) = r
  | [], [], r, _, _, h => by cases h; rfl
  | [], _ :: _, r, _, _, h => by cases h; rfl
  | _ :: _, [], r, _, _, h => by cases h; rfl
  | a :: x, b :: y, r, ha, hb, h => by
    unfold listEq3 at h
    have ia : CodeOk γ a := ha a (by simp)
    have ib : CodeOk γ b := hb b (by simp)
    have ihx : ∀ r, listEq3 x y = some r → decide (x.map (den γ) = y.map (den γ)) = r := fun r h => listEq3_sim (fun c hc => ha c (by simp [hc])) (fun c hc => hb c (by simp [hc])) h
    split at h
    · rename_i e
      have e1 := of_decide_eq_true (codeEq_sim ia ib e)
      rw [← ihx r h]
      simp [e1]
    · rename_i e
      have e1 := of_decide_eq_false (codeEq_sim ia ib e)
      cases h
      exact decide_eq_false (fun e2 => e1 (List.cons.inj e2).1)
    · split at h <;> (try (cases h; done))
      rename_i e
      have e1 := of_decide_eq_false (ihx _ e)
      cases h
      exact decide_eq_false (fun e2 => e1 (List.cons.inj e2).2)
theorem sstrOp_sim {op : BinOp} {a b : List Nat} {x y : ByteArray} {v : IV} {w : World} {ρ : Rho} (hx : SR γ a x) (hy : SR γ b y) (h : sstrOp op a b = some v) :
    ∃ v', (Op.stringOp op x y).run P w = .ok v' w ∧ VR ρ γ v v' := by
  have la : x.size = a.length := by have := congrArg List.length hx.1; simpa using this
  have lb : y.size = b.length := by have := congrArg List.length hy.1; simpa using this
  have heq : ∀ r, listEq3 a b = some r → (x.toList == y.toList) = r := by
    intro r hr
    have := listEq3_sim hx.2 hy.2 hr
    rw [← this, ← hx.1, ← hy.1, toList_data, toList_data, Bool.eq_iff_iff]
    simp only [beq_iff_eq, decide_eq_true_eq]
    exact ⟨fun h => by rw [h], toNats_inj⟩
  cases op <;> simp only [sstrOp] at h <;> (try (cases h; done))
  case add =>
    cases hr : roomy a b with
    | false => rw [hr] at h; cases h
    | true =>
      rw [hr] at h
      cases h
      have hle := Nat.le_of_ble_eq_true hr
      unfold top64 at hle
      have hle2 : ¬ (((x.size + y.size : Nat) : Int) > IntKind.i64.max) := by
        have e3 : IntKind.i64.max = 9223372036854775807 := by decide
        omega
      refine ⟨.string (x ++ y), by simp only [Op.stringOp, if_neg hle2, Sem.run_pure], .sstr _ _ ?_ ?_⟩
      · rw [List.map_append, ← hx.1, ← hy.1]
        simp
      · intro c hc
        rcases List.mem_append.1 hc with hc | hc
        · exact hx.2 c hc
        · exact hy.2 c hc
  case eql =>
    cases hr : listEq3 a b with
    | none => rw [hr] at h; cases h
    | some r =>
      rw [hr] at h
      cases h
      exact ⟨.bool r, by simp only [Op.stringOp, Sem.run_pure]; rw [heq r hr], .bool _⟩
  case neq =>
    cases hr : listEq3 a b with
    | none => rw [hr] at h; cases h
    | some r =>
      rw [hr] at h
      cases h
      exact ⟨.bool (!r), by simp only [Op.stringOp, Sem.run_pure]; rw [heq r hr], .bool _⟩
theorem letKind_small {j : Nat} {k : IntKind} (h : letKind j = some k) : 1000 ≤ j := (letKind_some h).1
theorem letInt_inv {op : BinOp} {j : Nat} {k : IntKind} {c : Int} {v : IV} (h : letInt op j k c = some v) : letKind j = some k ∧ ∃ b, letC (hiL (j % 1000)) op c = some b ∧ v = .bool b := by
  unfold letInt at h
  split at h <;> (try (cases h; done))
  rename_i k' hk'
  split at h <;> (try (cases h; done))
  rename_i hk
  have := (kindEq_iff _ _).1 hk
  subst this
  refine ⟨hk', ?_⟩
  cases hc : letC (hiL (Nat.mod j 1000)) op c with
  | none => rw [hc] at h; cases h
  | some b => rw [hc] at h; cases h; exact ⟨b, rfl, rfl⟩

theorem binop_sim {ρ : Rho} {s : St} {w : World} (hr : Rel P γ ρ s w) {op : BinOp} {t : Nat} {x y v : IV} {x' y' : Value} (hx : VR ρ γ x x') (hy : VR ρ γ y y') (h : binop P op t x y = some v) :
    ∃ v', (Go.binOp op t x' y').run P w = .ok v' w ∧ VR ρ γ v v' := by
  have hx0 := hx
  cases hx with
  | int k a =>
    cases hy with
    | int k' b =>
      simp only [binop, intPair] at h
      cases hsft : isShift op with
      | true =>
        simp only [hsft] at h
        rw [shift_kind op hsft]
        exact intDo_sim h
      | false =>
        simp only [hsft] at h
        cases hk : kindEq k k' with
        | false => simp [hk] at h
        | true =>
          simp only [hk] at h
          have := (kindEq_iff _ _).1 hk
          subst this
          exact intDo_sim h
    | sym j hj hji hjs hjl =>
      simp only [binop] at h
      cases hlk : letKind j with
      | some kk =>
        simp only [hlk] at h
        obtain ⟨h1, b, h2, rfl⟩ := letInt_inv h
        obtain ⟨n, n1, n2, hg⟩ := let_val h1 hjl
        rw [hg]
        exact ⟨.bool b, flip_sim n1 n2 h2 t w, .bool _⟩
      | none =>
      simp only [hlk] at h
      unfold symAdd at h
      split at h <;> (try (cases h; done))
      split at h <;> (try (cases h; done))
      split at h <;> (try (cases h; done))
      rename_i hc
      simp only [Bool.and_eq_true, eqI_eq, beq_iff_eq, Nat.blt_eq] at hc
      obtain ⟨rfl, h3, h4⟩ := hc
      have h3' := Nat.le_of_ble_eq_true h3
      cases h
      obtain ⟨n, q1, q2, q3, q4⟩ := hjs h3' h4
      refine ⟨γ (j + 100), ?_, .sym (j + 100) (by rw [q2]; rfl) (fun _ => ⟨_, q2⟩) (fun _ h => by omega) (fun h _ => by omega)⟩
      rw [q1, q2]
      obtain ⟨v', e1, e2⟩ := intDo_sim (P := P) (γ := γ) (op := .add) (k := .i64) (a := 1) (b := n) (t := t) (w := w) (ρ := ρ) rfl
      have hw : IntKind.i64.wrap (1 + n) = n + 1 := by
        unfold IntKind.wrap
        simp [IntKind.signed, IntKind.bits]
        omega
      rw [wrapI_eq, addI_eq, hw] at e2
      cases e2
      exact e1
    | _ => simp [binop] at h
  | str s1 l1 h1 =>
    cases hy with
    | str s2 l2 h2 =>
      simp only [binop] at h
      obtain ⟨v', hv1, hv2⟩ := strOp_sim (P := P) (γ := γ) (w := w) (ρ := ρ) h1 h2 h
      refine ⟨v', ?_, hv2⟩
      have : Go.binOp op t (.string s1) (.string s2) = Op.stringOp op s1 s2 := by cases op <;> rfl
      rw [this]; exact hv1
    | sstr s2 l2 h2 hc2 =>
      simp only [binop] at h
      obtain ⟨v', hv1, hv2⟩ := sstrOp_sim (P := P) (γ := γ) (w := w) (ρ := ρ) (SR.plain h1) ⟨h2, hc2⟩ h
      refine ⟨v', ?_, hv2⟩
      have : Go.binOp op t (.string s1) (.string s2) = Op.stringOp op s1 s2 := by cases op <;> rfl
      rw [this]; exact hv1
    | _ => simp [binop] at h
  | sstr s1 l1 h1 hc1 =>
    cases hy with
    | str s2 l2 h2 =>
      simp only [binop] at h
      obtain ⟨v', hv1, hv2⟩ := sstrOp_sim (P := P) (γ := γ) (w := w) (ρ := ρ) ⟨h1, hc1⟩ (SR.plain h2) h
      refine ⟨v', ?_, hv2⟩
      have : Go.binOp op t (.string s1) (.string s2) = Op.stringOp op s1 s2 := by cases op <;> rfl
      rw [this]; exact hv1
    | sstr s2 l2 h2 hc2 =>
      simp only [binop] at h
      obtain ⟨v', hv1, hv2⟩ := sstrOp_sim (P := P) (γ := γ) (w := w) (ρ := ρ) ⟨h1, hc1⟩ ⟨h2, hc2⟩ h
      refine ⟨v', ?_, hv2⟩
      have : Go.binOp op t (.string s1) (.string s2) = Op.stringOp op s1 s2 := by cases op <;> rfl
      rw [this]; exact hv1
    | _ => simp [binop] at h
  | sym i hi0 hii his hil =>
    cases hy with
    | int k b =>
      simp only [binop] at h
      obtain ⟨h1, b, h2, rfl⟩ := letInt_inv h
      obtain ⟨n, n1, n2, hg⟩ := let_val h1 hil
      rw [hg]
      exact ⟨.bool b, letC_sim n1 n2 h2 t w, .bool _⟩
    | sym j hj hji hjs hjl =>
      simp only [binop] at h
      cases hlk : letKind i with
      | none => unfold letLet at h; rw [hlk] at h; cases h
      | some kk =>
        obtain ⟨n, n1, n2, hg⟩ := let_val hlk hil
        obtain ⟨rfl, hv⟩ := letLet_sim (P := P) (γ := γ) (ρ := ρ) (k := kk) (n := n) h t w
        rw [hg]
        exact hv
    | _ => simp [binop] at h
  | _ =>
    simp only [binop] at h
    exact eqDo_sim hr hx0 hy (by intro _ _ h; cases h) (by intro _ h; cases h) (by intro _ h; cases h) (by intro _ h; cases h) h

theorem unop_sim {ρ : Rho} {op : UnOp} {x v : IV} {x' : Value} {w : World} (hx : VR ρ γ x x') (h : unop op x = some v) : ∃ v', (Op.unary op x').run P w = .ok v' w ∧ VR ρ γ v v' := by
  cases op <;> simp only [unop] at h <;> (try (cases h; done))
  case neg =>
    cases hx <;> simp at h
    rename_i k n
    obtain ⟨v', h1, h2⟩ := intDo_sim (P := P) (γ := γ) (w := w) (ρ := ρ) (t := 0) h
    refine ⟨v', ?_, h2⟩
    simpa [Go.binOp, Op.unary] using h1
  case xor =>
    cases hx <;> simp at h
    rename_i k n
    obtain ⟨v', h1, h2⟩ := intDo_sim (P := P) (γ := γ) (w := w) (ρ := ρ) (t := 0) h
    refine ⟨v', ?_, h2⟩
    simpa [Go.binOp, Op.unary] using h1
  case not =>
    cases hx <;> simp at h
    subst h
    exact ⟨_, rfl, .bool _⟩
end Go.Eng

set_option linter.constructorNameAsVariable false
set_option linter.unusedVariables false
set_option linter.unusedSimpArgs false
namespace Go.Eng
theorem hiL_le (j : Nat) : hiL j ≤ 122 := by unfold hiL; split <;> omega
variable {P : Program} {γ : Gam}

/- runes -/
theorem nth_eq {α : Type} : ∀ (l : List α) (k : Nat), nth l k = l[k]?
  | [], k => by simp [nth]
  | x :: l, 0 => rfl
  | x :: l, k + 1 => by simp only [nth, List.getElem?_cons_succ]; exact nth_eq l k

theorem get_drop (s : ByteArray) (i k : Nat) : byteAt ((s.data.toList.map UInt8.toNat).drop i) k = (s.get! (i + k)).toNat := by
  unfold byteAt
  rw [nth_eq, List.getElem?_drop, List.getElem?_map]
  by_cases h : i + k < s.size
  · have h' : i + k < s.data.toList.length := by simpa using h
    rw [List.getElem?_eq_getElem h']
    have : s.get! (i + k) = s.data.toList[i + k] := by
      cases s with
      | mk d =>
        have hd : i + k < d.size := h
        simp [ByteArray.get!, hd]
    simp [this]
  · have h' : s.data.toList.length ≤ i + k := by simpa using h
    rw [List.getElem?_eq_none h']
    have : s.get! (i + k) = 0 := by
      cases s with
      | mk d =>
        have hd : ¬ i + k < d.size := h
        simp [ByteArray.get!, hd]; rfl
    simp [this]
theorem cont_drop (s : ByteArray) (i k : Nat) : isCont ((s.data.toList.map UInt8.toNat).drop i) k = (decide (i + k < s.size) && ((s.get! (i + k)).toNat / 64 == 2)) := by
  unfold isCont
  rw [nth_eq, List.getElem?_drop, List.getElem?_map]
  by_cases h : i + k < s.size
  · have h' : i + k < s.data.toList.length := by simpa using h
    rw [List.getElem?_eq_getElem h']
    have : s.get! (i + k) = s.data.toList[i + k] := by
      cases s with
      | mk d =>
        have hd : i + k < d.size := h
        simp [ByteArray.get!, hd]
    simp only [Option.map_some, this, h, decide_true, Bool.true_and]
    rw [Bool.eq_iff_iff]; simp
  · have h' : s.data.toList.length ≤ i + k := by simpa using h
    rw [List.getElem?_eq_none h']
    simp [h]

theorem decode_eq (s : ByteArray) (i : Nat) : decode ((s.data.toList.map UInt8.toNat).drop i) = Utf8.decode s i := by
  unfold decode Utf8.decode decodeMore
  simp only [get_drop, cont_drop]
  cases h : Nat.blt (s.get! (i + 0)).toNat 128 with
  | true =>
    have : (s.get! (i + 0)).toNat < 128 := by simpa [Nat.blt_eq] using h
    rw [if_pos this]
  | false =>
    have : ¬ (s.get! (i + 0)).toNat < 128 := by
      intro e
      have h2 : Nat.blt (s.get! (i + 0)).toNat 128 = true := by simpa [Nat.blt_eq] using e
      rw [h2] at h; cases h
    simp only [this, if_false]

theorem toNat_ofNat {n : Nat} (h : n < 256) : (UInt8.ofNat n).toNat = n := by
  simp [UInt8.toNat_ofNat']; omega

theorem encode_eq (r : Int) : (Utf8.encode r).data.toList.map UInt8.toNat = encode r := by
  unfold Utf8.encode encode
  have hc : (if Utf8.valid r then r.toNat else Utf8.runeError) < 0x110000 := by
    split
    · rename_i h
      unfold Utf8.valid at h
      simp only [Bool.or_eq_true, Bool.and_eq_true, decide_eq_true_eq] at h
      omega
    · decide
  generalize (if Utf8.valid r then r.toNat else Utf8.runeError) = c at hc
  simp only
  split
  · simp [toNat_ofNat (show c < 256 by omega)]
  · split
    · simp [UInt8.toNat_ofNat'] <;> omega --  + c / 64 < 256 by omega), toNat_ofNat (show 128 + c % 64 < 256 by omega)]
    · split
      · simp [UInt8.toNat_ofNat'] <;> omega --  + c / 4096 < 256 by omega), toNat_ofNat (show 128 + c / 64 % 64 < 256 by omega), toNat_ofNat (show 128 + c % 64 < 256 by omega)]
      · simp [UInt8.toNat_ofNat'] <;> omega --  + c / 262144 < 256 by omega), toNat_ofNat (show 128 + c / 4096 % 64 < 256 by omega), toNat_ofNat (show 128 + c / 64 % 64 < 256 by omega), toNat_ofNat (show 128 + c % 64 < 256 by omega)]

/- bytes -/
theorem bytesI_sim {ρ : Rho} : ∀ (l : List UInt8), VRs ρ γ (bytesI (l.map UInt8.toNat)) (l.map fun b => .int .u8 b.toNat)
  | [] => .nil
  | b :: l => .cons _ _ _ _ (.int _ _) (bytesI_sim l)
theorem length_bytesI : ∀ (l : List Nat), (bytesI l).length = l.length
  | [] => rfl
  | _ :: l => by simp [bytesI, length_bytesI l]

theorem bytesOfI_sim {ρ : Rho} : ∀ {l : List IV} {l' : List Value} {r : List Nat}, VRs ρ γ l l' → bytesOfI l = some r →
    l' = r.map (fun c => Value.int .u8 (Int.ofNat c)) ∧ (∀ c ∈ r, c < 256)
  | [], l', r, h, hr => by cases h; simp [bytesOfI] at hr; subst hr; simp
  | x :: l, l', r, h, hr => by
    cases h with
    | cons v v' _ l'' hv hs =>
      unfold bytesOfI at hr
      cases hb : byteI x with
      | none => simp [hb] at hr
      | some c =>
        simp only [hb] at hr
        cases hl : bytesOfI l with
        | none => simp [hl] at hr
        | some q =>
          simp only [hl] at hr; cases hr
          obtain ⟨h1, h2⟩ := bytesOfI_sim hs hl
          unfold byteI at hb
          split at hb <;> (try (cases hb; done))
          split at hb <;> (try (cases hb; done))
          rename_i hlt
          cases hb
          cases hv
          subst h1
          refine ⟨rfl, ?_⟩
          intro c' hc'
          cases hc' with
          | head => simpa [Nat.blt_eq] using hlt
          | tail _ hm => exact h2 c' hm

theorem isByte_eq {e : Nat} (h : isByte P e = true) : undI P e = some (.int .u8) ∧ size P e = some 1 := by
  unfold isByte at h
  split at h
  · rename_i hu
    split at h
    · rename_i hs; exact ⟨hu, hs⟩
    · cases h
  · cases h

/-- How a slice reads. -/
theorem VR.sl_inv {ρ : Rho} {b o n c : Nat} {x : Bool} {v' : Value} (h : VR ρ γ (.sl b o n c x) v') :
    ∃ p off c', ρ b = some p ∧ v' = .slice (some ⟨p.blk, off, none⟩) n c' ∧ (n = 0 ∨ off = p.shift + o) ∧ c ≤ c' ∧ (x = true → off = p.shift + o ∧ c' = c) ∧
      (x = false → n ≤ c ∧ (off = p.shift + o ∨ (c = 0 ∧ p.shift ≤ off)) ∧ off + c' * p.sz ≤ p.lim) := by
  cases h with
  | slx _ _ _ _ p h => exact ⟨p, _, c, h, rfl, .inr rfl, Nat.le_refl _, fun _ => ⟨rfl, rfl⟩, fun h => by cases h⟩
  | sli _ _ _ _ c' off p h hn hc ho hl => exact ⟨p, off, c', h, rfl, ho.elim .inr (fun h => .inl (by omega)), hc, (fun h => by cases h), fun _ => ⟨hn, ho, hl⟩⟩

/-- The cells of a slice. -/
theorem Rel.rdSl {ρ : Rho} {s : St} {w : World} (h : Rel P γ ρ s w) {b o n c : Nat} {x : Bool} {v' : Value} (hv : VR ρ γ (.sl b o n c x) v') {k : Nat} (hk : n = 0 → k = 0) {l : List IV} (hr : s.rd b o k = some l) :
    ∃ a c' l', v' = .slice (some a) n c' ∧ (loadCells a k).run P w = .ok l' w ∧ VRs ρ γ l l'.toList := by
  obtain ⟨p, off, c', hb, rfl, hoff, _⟩ := hv.sl_inv
  obtain ⟨arr, e, fr, h1, h2, h3⟩ := h.rd hb hr
  by_cases hz : n = 0
  · have hk0 := hk hz
    subst hk0
    obtain ⟨_, _, _, _, _, _, _, rfl⟩ := rd_some hr
    exact ⟨_, c', #[], rfl, rfl, .nil⟩
  · have : off = p.shift + o := hoff.resolve_left hz
    subst this
    exact ⟨_, c', _, rfl, run_loadCells h1 h2, h3⟩
end Go.Eng

set_option linter.constructorNameAsVariable false
set_option linter.unusedVariables false
set_option linter.unusedSimpArgs false
namespace Go.Eng
variable {P : Program} {γ : Gam}

theorem run_newRow (w : World) (e : TypeId) (arr : Array Value) : (newRow e arr).run P w = .ok ⟨w.heap.size, 0, none⟩ (pushed w (.cells arr e)) := by
  unfold newRow; simp only [Sem.run_bind, run_newObj, Result.andThen_ok, Sem.run_pure]; rfl

theorem freeze_eq {w : World} {b off n : Nat} {arr : Array Value} {e : Nat} {fr : Nat × Nat} (h : w.heap[b]? = some (.cells arr e fr)) (hn : n ≠ 0) :
    w.freeze ⟨b, off, none⟩ n = setRow w b (.cells arr e (if fr.1 == fr.2 then (off, off + n) else (min fr.1 off, max fr.2 (off + n)))) := by
  unfold World.freeze setRow
  rw [if_neg hn]
  congr 1
  apply Array.ext_getElem?
  intro i
  rw [Array.getElem?_modify, Array.getElem?_setIfInBounds]
  by_cases hi : b = i
  · subst hi
    have hlt := lt_of_get h
    have hg : w.heap[b] = .cells arr e fr := by simpa [Array.getElem?_eq_getElem hlt] using h
    obtain ⟨lo, hi⟩ := fr
    simp [hlt, hg]
  · simp [hi]

theorem setRow_pushed (w : World) (o o' : Obj) : setRow (pushed w o) w.heap.size o' = pushed w o' := by
  unfold setRow pushed
  congr 1
  apply Array.ext_getElem?
  intro i
  rw [Array.getElem?_setIfInBounds, Array.getElem?_push, Array.getElem?_push]
  by_cases hi : w.heap.size = i
  · subst hi; simp
  · simp [hi, Ne.symm hi]

theorem run_markStringish {w : World} {b off : Nat} {arr : Array Value} {e : Nat} {fr : Nat × Nat} (h : w.heap[b]? = some (.cells arr e fr)) :
    (markStringish ⟨b, off, none⟩).run P w = .ok () (setRow w b (.cells arr e (if fr.1 == fr.2 then (arr.size, arr.size + 1) else (min fr.1 arr.size, max fr.2 (arr.size + 1))))) := by
  unfold markStringish
  simp only [Sem.run_bind, run_shape, shape_eq h, Result.andThen_ok, run_freeze, freeze_eq h (by decide : (1 : Nat) ≠ 0)]

theorem toRow_sim {ρ : Rho} {s : St} {w : World} {e : Nat} {b : ByteArray} {X : List IV} (h : Rel P γ ρ s w) (hb : isByte P e = true) (hXl : X.length = b.size) (hX : ∀ ρ, VRs ρ γ X (b.data.toList.map fun c => Value.int .u8 c.toNat)) :
    Yields P γ ρ s w (Conv.stringToBytes e b) (.sl s.next 0 b.size b.size false) (s.new (rowOf X e 1)) := by
  obtain ⟨hu, hz⟩ := isByte_eq hb
  have hcap : ∃ cap, b.size ≤ cap ∧ (choose (.appendCap b.size 0 e)).run P w = .ok cap (drawn w) :=
    ⟨b.size + w.tape w.drawn (.appendCap b.size 0 e) % (2 ^ 63 - b.size), Nat.le_add_right _ _, by simp only [run_choose, Question.forced, Bool.false_eq_true, if_false]; rfl⟩
  obtain ⟨cap, hle, hch⟩ := hcap
  have hd := h.drawn
  generalize hw : drawn w = wd at hd hch
  have hdg : Goes ρ s w ρ s wd := hw ▸ Goes.drawn ρ s w
  -- the new block
  let elems : Array Value := b.data.map fun c => .int .u8 c.toNat
  let arr : Array Value := elems ++ Array.replicate (cap - b.size) (.int .u8 0)
  have hasz : arr.size = cap := by
    show (b.data.map _ ++ Array.replicate _ _).size = cap
    have : b.data.size = b.size := rfl
    simp; omega
  have hrun : (Conv.stringToBytes e b).run P w = .ok (.slice (some ⟨wd.heap.size, 0, none⟩) b.size cap) (pushed wd (.cells arr e (arr.size, arr.size + 1))) := by
    unfold Conv.stringToBytes
    simp only [Sem.run_bind, hch, Result.andThen_ok, run_newRow]
    rw [run_markStringish (pushed_self wd _)]
    simp only [Result.andThen_ok, Sem.run_pure, beq_self_eq_true, if_true, setRow_pushed]
    rfl
  let p : Pl := ⟨wd.heap.size, 0, cap, 1⟩
  have hle' := hd.le_with p
  obtain ⟨h1, h2⟩ := hd.new (p := p) rfl (x := rowOf X e 1) (o := .cells arr e (arr.size, arr.size + 1)) (by
    refine .cells _ _ _ _ _ _ _ (by rw [hXl]; show 0 + b.size ≤ cap; omega) (by show cap ≤ arr.size; omega) ?_ ?_ (fun hne => absurd rfl hne) (fun h0 => by cases h0) hz
    · intro j hj
      rw [hXl] at hj
      have hbl : X.length = b.size := hXl
      rw [get_wrC, dif_pos (by omega)]
      have hv := hX (ρ.with s.next p)
      have hk : (X)[j - 0]? = some ((X)[j - 0]'(by omega)) := List.getElem?_eq_getElem (by omega)
      obtain ⟨v', hv1, hv2⟩ := hv.get hk
      refine ⟨v', ?_, hv2⟩
      show arr[0 + j]? = _
      have hj2 : j < elems.size := by show j < (b.data.map _).size; have : b.data.size = b.size := rfl; simp; omega
      rw [Nat.zero_add, Array.getElem?_append_left hj2, ← hv1]
      show (b.data.map _)[j]? = _
      rw [Nat.sub_zero, Array.getElem?_map, List.getElem?_map, Array.getElem?_toList]
    · intro j hj1 hj2 hj3
      have : p.lim = cap := rfl
      rw [hasz] at hj3
      omega)
  refine ⟨_, _, _, hrun, hdg.trans h2, h1, ?_⟩
  have hvl := VR.sli (ρ := ρ.with s.next p) (γ := γ) s.next 0 b.size b.size cap 0 p (Rho.with_self _ _ _) (Nat.le_refl _) hle (.inl rfl) (by show 0 + cap * 1 ≤ cap; omega)
  exact hvl

theorem toBytes_sim {ρ : Rho} {s s' : St} {w : World} {e : Nat} {b : ByteArray} {v : IV} (h : Rel P γ ρ s w) (hr : toBytes P e (b.data.toList.map UInt8.toNat) s = .ok v s') :
    isByte P e = true ∧ Yields P γ ρ s w (Conv.stringToBytes e b) v s' := by
  unfold toBytes at hr
  cases hb : isByte P e with
  | false => rw [hb] at hr; cases hr
  | true =>
    rw [hb] at hr
    refine ⟨rfl, ?_⟩
    simp only at hr
    injection hr with hv hs
    subst hv hs
    have hl : (b.data.toList.map UInt8.toNat).length = b.size := by simp
    rw [hl]
    exact toRow_sim h hb (by rw [length_bytesI, hl]) (fun ρ => bytesI_sim b.data.toList)
theorem codeI_sim {ρ : Rho} {c : Nat} {x : UInt8} (hc : CodeOk γ c) (h : x.toNat = den γ c) : VR ρ γ (codeI c) (.int .u8 x.toNat) := by
  unfold codeI
  cases hb : Nat.blt c 256 with
  | true =>
    have hlt : c < 256 := by simpa [Nat.blt_eq] using hb
    unfold den at h
    rw [if_pos hlt] at h
    rw [h]
    exact .int _ _
  | false =>
    have hlt : ¬ c < 256 := by intro hj; rw [← Nat.blt_eq] at hj; rw [hj] at hb; cases hb
    rcases hc with hc | ⟨_, h2, hl⟩
    · exact absurd hc hlt
    · obtain ⟨n, n1, n2, g1, g2, g3⟩ := hl
      have e : 1000 + (c - 256) = Nat.add 744 c := by show _ = 744 + c; omega
      rw [e] at g1
      have hn : x.toNat = n := by
        rw [h]
        unfold den denL
        rw [if_neg hlt, e, g1]
        simp
      rw [hn, ← g1]
      refine .sym _ (by rw [g1]; rfl) (fun h => ?_) (fun h h' => ?_) (fun _ _ => ?_)
      · have : Nat.add 744 c = 744 + c := rfl
        omega
      · have : Nat.add 744 c = 744 + c := rfl
        omega
      · have e2 : Nat.add 744 c % 1000 = c - 256 := by have : Nat.add 744 c = 744 + c := rfl; omega
        rw [e2]
        exact ⟨n, n1, n2, by rw [e]; exact g1, g2, g3⟩
theorem bytesS_sim {ρ : Rho} : ∀ {l : List Nat} {bs : List UInt8}, bs.map UInt8.toNat = l.map (den γ) → (∀ c ∈ l, CodeOk γ c) → VRs ρ γ (bytesS l) (bs.map fun c => Value.int .u8 c.toNat)
  | [], [], _, _ => .nil
  | [], _ :: _, h, _ => by simp at h
  | _ :: _, [], h, _ => by simp at h
  | c :: l, x :: bs, h, hc => by
    simp only [List.map_cons, List.cons.injEq] at h
    exact .cons _ _ _ _ (codeI_sim (hc c (by simp)) h.1) (bytesS_sim h.2 (fun d hd => hc d (by simp [hd])))
theorem length_bytesS : ∀ (l : List Nat), (bytesS l).length = l.length
  | [] => rfl
  | _ :: l => by simp [bytesS, length_bytesS l]
theorem toBytesS_sim {ρ : Rho} {s s' : St} {w : World} {e : Nat} {b : ByteArray} {l : List Nat} {v : IV} (h : Rel P γ ρ s w) (hs : SR γ l b) (hr : toBytesS P e l s = .ok v s') :
    isByte P e = true ∧ Yields P γ ρ s w (Conv.stringToBytes e b) v s' := by
  unfold toBytesS at hr
  cases hb : isByte P e with
  | false => rw [hb] at hr; cases hr
  | true =>
    rw [hb] at hr
    refine ⟨rfl, ?_⟩
    simp only at hr
    injection hr with hv hs'
    subst hv hs'
    have hl : l.length = b.size := by have := congrArg List.length hs.1; simpa using this.symm
    rw [hl]
    exact toRow_sim h hb (by rw [length_bytesS, hl]) (fun ρ => bytesS_sim hs.1 hs.2)

theorem strish_sim {ρ : Rho} {s s' : St} {w : World} {b o n c : Nat} {ex : Bool} {x' : Value} {v : IV} (h : Rel P γ ρ s w) (hx : VR ρ γ (.sl b o n c ex) x') (hr : strish s b (.sl b o n c ex) = .ok v s') :
    v = .sl b o n c ex ∧ ∃ a n' c' w', x' = .slice (some a) n' c' ∧ (markStringish a).run P w = .ok () w' ∧ Goes ρ s w ρ s' w' ∧ Rel P γ ρ s' w' := by
  obtain ⟨p, off, c', hb, rfl, hoff, _⟩ := hx.sl_inv
  unfold strish at hr
  split at hr
  · rename_i l len e hg
    injection hr with hv hs
    subst hv hs
    obtain ⟨arr, fr, h1, h2⟩ := h.row hb hg
    cases h2 with
    | cells _ _ _ _ _ _ _ hl' ha hc hf hs htg hz =>
      obtain ⟨_, hs2⟩ := hs (by decide)
      have hfr := hs2 rfl
      refine ⟨rfl, _, _, _, _, rfl, run_markStringish h1, ?_⟩
      rw [if_pos (by simp [hfr])]
      have hput := h.put (x := .cells l len e 0 1) (o := .cells arr e (arr.size, arr.size + 1)) hb (by rw [hg]; exact fun h => h)
        (.cells _ _ _ _ _ _ _ hl' ha hc (fun j hj1 hj2 hj3 => by have : p.lim ≤ arr.size := ha; omega) (fun hne => absurd rfl hne) (fun h0 => by cases h0) hz)
      exact ⟨hput.2, hput.1⟩
  · cases hr

theorem bytesToString_loop {w : World} : ∀ (r : List Nat) (acc : ByteArray),
    (forIn (r.map fun c => Value.int .u8 (Int.ofNat c)) acc fun c (s : ByteArray) => (do
      match c with
      | .int .u8 n => pure (ForInStep.yield (s.push (UInt8.ofNat n.toNat)))
      | _ => stuck "bytesToString: byte expected" : Sem (ForInStep ByteArray))).run P w = .ok (r.foldl (fun s c => s.push (UInt8.ofNat c)) acc) w := by
  intro r
  induction r with
  | nil => intro acc; rfl
  | cons c r ih => intro acc; simp only [List.map_cons, List.forIn_cons, Sem.run_bind, Sem.run_pure, Result.andThen_ok, List.foldl_cons]; exact ih _

theorem foldl_push : ∀ (r : List Nat) (acc : ByteArray), (∀ c ∈ r, c < 256) → (r.foldl (fun s c => s.push (UInt8.ofNat c)) acc).data.toList.map UInt8.toNat = acc.data.toList.map UInt8.toNat ++ r
  | [], acc, _ => by simp
  | c :: r, acc, h => by
    rw [List.foldl_cons, foldl_push r _ (fun x hx => h x (by simp [hx]))]
    have : (acc.push (UInt8.ofNat c)).data = acc.data.push (UInt8.ofNat c) := rfl
    rw [this]
    simp [toNat_ofNat (h c (by simp))]

theorem code_facts {j c : Nat} (h1 : 1000 ≤ j) (h2 : j < 2000) (h : c = j - 744) : 256 ≤ c ∧ c < 1256 ∧ ¬ c < 256 ∧ 1000 + (c - 256) = j ∧ 2000 + (c - 256) = 2000 + j % 1000 ∧ 3000 + (c - 256) = 3000 + j % 1000 ∧ 1000 + j % 1000 = j ∧ j < 4000 := by omega
theorem code_mod {j c : Nat} (h1 : 1000 ≤ j) (h2 : j < 2000) (h : c = j - 744) : j % 1000 = c - 256 := by omega
theorem codesOf_sim {ρ : Rho} : ∀ {l : List IV} {l' : List Value} {r : List Nat}, VRs ρ γ l l' → codesOf l = some r →
    ∃ bs : List Nat, l' = bs.map (fun c => Value.int .u8 (Int.ofNat c)) ∧ (∀ c ∈ bs, c < 256) ∧ bs = r.map (den γ) ∧ ∀ c ∈ r, CodeOk γ c
  | [], l', r, h, hr => by cases h; cases hr; exact ⟨[], rfl, by simp, rfl, by simp⟩
  | x :: l, l', r, h, hr => by
    cases h with
    | cons v v' _ l'' hv hs =>
      unfold codesOf at hr
      cases hb : codeOf x with
      | none => simp [hb] at hr
      | some c =>
        simp only [hb] at hr
        cases hl : codesOf l with
        | none => simp [hl] at hr
        | some q =>
          simp only [hl] at hr; cases hr
          obtain ⟨bs, h1, h2, h3, h4⟩ := codesOf_sim hs hl
          have key : ∃ d : Nat, v' = .int .u8 (Int.ofNat d) ∧ d < 256 ∧ d = den γ c ∧ CodeOk γ c := by
            unfold codeOf at hb
            split at hb <;> (try (cases hb; done))
            · split at hb <;> (try (cases hb; done))
              rename_i hlt
              rw [Nat.blt_eq] at hlt
              cases hb
              cases hv
              exact ⟨_, rfl, hlt, by unfold den; rw [if_pos hlt], .inl hlt⟩
            · rename_i j
              cases hj : Bool.and (Nat.ble 1000 j) (Nat.blt j 2000) with
              | false => rw [hj] at hb; exact absurd hb (by simp)
              | true =>
              rw [hj] at hb
              have hj1 : 1000 ≤ j := Nat.le_of_ble_eq_true ((Bool.and_eq_true _ _).mp hj).1
              have hj2 : j < 2000 := by have := ((Bool.and_eq_true _ _).mp hj).2; rw [Nat.blt_eq] at this; exact this
              have hcj : Nat.sub j 744 = c := Option.some.inj hb
              have hcj2 : c = j - 744 := hcj.symm
              clear hcj hb
              cases hv with
              | sym _ hk hki hks hkl =>
                obtain ⟨f1, f2, f3, f4, f5, f6, f7, f8⟩ := code_facts hj1 hj2 hcj2
                obtain ⟨n, n1, n2, g1, g2, g3⟩ := hkl hj1 f8
                rw [f7] at g1
                have f9 : j % 1000 = c - 256 := code_mod hj1 hj2 hcj2
                have h256 : n < 256 := Nat.lt_of_le_of_lt (Nat.le_trans n2 (hiL_le _)) (show 122 < 256 by decide)
                refine ⟨n, g1, h256, ?_, .inr ⟨f1, f2, n, n1, (f9 ▸ n2), ?_, ?_, ?_⟩⟩
                · unfold den denL
                  rw [if_neg f3, f4, g1]
                  simp
                · rw [f4]; exact g1
                · rw [f5]; exact g2
                · rw [f6]; exact g3
          obtain ⟨d, rfl, d1, d2, d3⟩ := key
          refine ⟨d :: bs, by rw [h1]; rfl, ?_, by rw [h3, d2]; rfl, ?_⟩
          · intro x hx
            rcases List.mem_cons.1 hx with rfl | hx
            · exact d1
            · exact h2 x hx
          · intro x hx
            rcases List.mem_cons.1 hx with rfl | hx
            · exact d3
            · exact h4 x hx
theorem ofBytes_sim {ρ : Rho} {s s' : St} {w : World} {e : Nat} {x v : IV} {x' : Value} (h : Rel P γ ρ s w) (hx : VR ρ γ x x') (hr : ofBytes P e x s = .ok v s') :
    isByte P e = true ∧ Yields P γ ρ s w (Conv.bytesToString x') v s' := by
  unfold ofBytes at hr
  cases hb : isByte P e with
  | false => rw [hb] at hr; cases hr
  | true =>
    rw [hb] at hr
    refine ⟨rfl, ?_⟩
    cases x <;> simp only at hr <;> (try (cases hr; done))
    · cases hx
      cases hr
      exact Yields.same h rfl (.str _ _ rfl)
    · rename_i b o n c ex
      unfold strOfBytes at hr
      cases hrd : s.rd b o n with
      | none => rw [hrd] at hr; cases hr
      | some l =>
        rw [hrd] at hr
        simp only at hr
        cases hbs : bytesOfI l with
        | none =>
          rw [hbs] at hr
          simp only at hr
          cases hcs : codesOf l with
          | none => rw [hcs] at hr; cases hr
          | some r =>
            rw [hcs] at hr
            simp only at hr
            cases hr
            obtain ⟨a, c', l', rfl, h1, h2⟩ := h.rdSl hx (fun h => h) hrd
            obtain ⟨bs, h3, h4, h5, h6⟩ := codesOf_sim h2 hcs
            refine Yields.same h ?_ (.sstr (bs.foldl (fun s c => s.push (UInt8.ofNat c)) .empty) r ?_ h6)
            · unfold Conv.bytesToString
              simp only [Sem.run_bind, h1, Result.andThen_ok]
              rw [← Array.forIn_toList, h3]
              have := bytesToString_loop (P := P) (w := w) bs .empty
              refine Eq.trans (congrArg (fun q => Result.andThen q _) this) ?_
              rfl
            · rw [foldl_push bs _ h4, ← h5]; simp
        | some r =>
          rw [hbs] at hr
          simp only at hr
          cases hr
          obtain ⟨a, c', l', rfl, h1, h2⟩ := h.rdSl hx (fun h => h) hrd
          obtain ⟨h3, h4⟩ := bytesOfI_sim h2 hbs
          refine Yields.same h ?_ (.str (r.foldl (fun s c => s.push (UInt8.ofNat c)) .empty) r ?_)
          · unfold Conv.bytesToString
            simp only [Sem.run_bind, h1, Result.andThen_ok]
            rw [← Array.forIn_toList, h3]
            have := bytesToString_loop (P := P) (w := w) r .empty
            refine Eq.trans (congrArg (fun q => Result.andThen q _) this) ?_
            rfl
          · rw [foldl_push r _ h4]; simp
end Go.Eng
