/- A part of the proof: an interpreter of the program, shown right once, and the laws that it computes. -/
import Derived.Test.YtphdmkiedglfmaaGreatEng8
set_option linter.constructorNameAsVariable false
set_option linter.unusedVariables false
set_option linter.unusedSimpArgs false
namespace Go.Eng
variable {P : Program} {γ : Gam}

theorem isLet_int {γ : Gam} {k : Nat} (hl : 1000 ≤ k → k < 4000 → LetOk γ (k % 1000)) (h : isLet k = true) : ∃ t n, γ k = .int t n := by
  unfold isLet at h
  split at h <;> (try (cases h; done))
  rename_i h1
  have h1' := Nat.le_of_ble_eq_true h1
  have h2 : k < 4000 := by rw [Nat.blt_eq] at h; exact h
  obtain ⟨n, _, _, g1, g2, g3⟩ := hl h1' h2
  have hk : 1000 + k % 1000 = k ∨ 2000 + k % 1000 = k ∨ 3000 + k % 1000 = k := by omega
  rcases hk with e | e | e
  · rw [e] at g1; exact ⟨_, _, g1⟩
  · rw [e] at g2; exact ⟨_, _, g2⟩
  · rw [e] at g3; exact ⟨_, _, g3⟩
theorem eqGuard_sim {ρ : Rho} {op : BinOp} {t : Nat} {x y : Operand} {a b : IV} {a' b' : Value} {w : World} (ha : VR ρ γ a a') (hb : VR ρ γ b b') (h : eqSafe P op t x y a b = true) :
    (eqGuard op t x y a' b').run P w = .ok () w := by
  unfold eqGuard
  have other : ∀ (c : Bool), c = true → ((if c = true then pure () else (pure () : Sem Unit)).run P w = .ok () w) := fun c hc => by simp
  cases op <;> first
    | rfl
    | (cases ha <;> cases hb <;> first
        | rfl
        | (simp [eqSafe] at h; done)
        | (simp only [eqSafe] at h
           cases x <;> cases y <;> first
             | rfl
             | (simp at h; done))
        | (simp only [eqSafe] at h
           have h' : P.eqGuardType P.depth t = false := by simpa using h
           simp [h'])
        | (simp only [eqSafe] at h
           rename_i hl _ _ _
           obtain ⟨t0, n0, e⟩ := isLet_int hl h
           rw [e]
           rfl)
        | (simp only [eqSafe] at h
           rename_i hl _
           obtain ⟨t0, n0, e⟩ := isLet_int hl h
           rw [e]
           rfl)
        | (simp only [eqSafe] at h
           split at h <;> (try (cases h; done))
           rename_i hl1 _ _ _ _ _ hl2 _ _ h1
           obtain ⟨t0, n0, e⟩ := isLet_int hl2 h
           rw [e]
           obtain ⟨t1, n1, e1⟩ := isLet_int hl1 h1
           rw [e1]
           rfl))

theorem eqDo_sim {ρ : Rho} {s : St} {w : World} (hr : Rel P γ ρ s w) {op : BinOp} {t : Nat} {x y v : IV} {x' y' : Value} (hx : VR ρ γ x x') (hy : VR ρ γ y y') (hi : ∀ k n, x ≠ .int k n) (hs : ∀ l, x ≠ .str l) (hq : ∀ k, x ≠ .sym k) (hss : ∀ l, x ≠ .sstr l)
    (h : eqDo P op t x y = some v) : ∃ v', (Go.binOp op t x' y').run P w = .ok v' w ∧ VR ρ γ v v' := by
  unfold eqDo at h
  cases op <;> simp only at h <;> (try (cases h; done))
  case eql =>
    cases hq' : eqv P 10000 t x y with
    | none => simp [hq'] at h
    | some b =>
      simp only [hq'] at h; cases h
      have := eqv_sim hr 10000 hx hy hq'
      refine ⟨.bool b, ?_, .bool b⟩
      have e : Go.binOp .eql t x' y' = (do pure (.bool (← Op.equal t x' y'))) := by
        cases hx <;> cases hy <;> first
          | rfl
          | exact absurd rfl (hi _ _)
          | exact absurd rfl (hs _)
          | exact absurd rfl (hq _)
          | exact absurd rfl (hss _)
      rw [e]
      simp only [Sem.run_bind, Op.equal, Op.maxDepth, this, Result.andThen_ok, Sem.run_pure]
  case neq =>
    cases hq' : eqv P 10000 t x y with
    | none => simp [hq'] at h
    | some b =>
      simp only [hq'] at h; cases h
      have := eqv_sim hr 10000 hx hy hq'
      refine ⟨.bool (!b), ?_, .bool _⟩
      have e : Go.binOp .neq t x' y' = (do pure (.bool (!(← Op.equal t x' y')))) := by
        cases hx <;> cases hy <;> first
          | rfl
          | exact absurd rfl (hi _ _)
          | exact absurd rfl (hs _)
          | exact absurd rfl (hq _)
          | exact absurd rfl (hss _)
      rw [e]
      simp only [Sem.run_bind, Op.equal, Op.maxDepth, this, Result.andThen_ok, Sem.run_pure]

theorem shift_kind (op : BinOp) (hop : isShift op = true) (t : Nat) (k k' : IntKind) (a b : Int) : Go.binOp op t (.int k a) (.int k' b) = Go.binOp op t (.int k a) (.int k b) := by
  cases op <;> simp [isShift] at hop <;> rfl

/- letters -/
theorem letKind_some {j : Nat} {k : IntKind} (h : letKind j = some k) : 1000 ≤ j ∧ j < 4000 ∧ ((j < 2000 ∧ k = .u8) ∨ (2000 ≤ j ∧ j < 3000 ∧ k = .i64) ∨ (3000 ≤ j ∧ k = .i32)) := by
  unfold letKind at h
  split at h <;> (try (cases h; done))
  rename_i h1
  have h1' : ¬ j < 1000 := by intro hj; rw [← Nat.blt_eq] at hj; rw [hj] at h1; cases h1
  split at h
  · rename_i h2
    have h2' : j < 2000 := by simpa [Nat.blt_eq] using h2
    cases h
    exact ⟨by omega, by omega, .inl ⟨h2', rfl⟩⟩
  · rename_i h2
    have h2' : ¬ j < 2000 := by intro hj; rw [← Nat.blt_eq] at hj; rw [hj] at h2; cases h2
    split at h
    · rename_i h3
      have h3' : j < 3000 := by simpa [Nat.blt_eq] using h3
      cases h
      exact ⟨by omega, by omega, .inr (.inl ⟨by omega, h3', rfl⟩)⟩
    · rename_i h3
      have h3' : ¬ j < 3000 := by intro hj; rw [← Nat.blt_eq] at hj; rw [hj] at h3; cases h3
      split at h <;> (try (cases h; done))
      rename_i h4
      have h4' : j < 4000 := by simpa [Nat.blt_eq] using h4
      cases h
      exact ⟨by omega, h4', .inr (.inr ⟨by omega, rfl⟩)⟩
/-- What a letter's symbol stands for. -/
theorem let_val {γ : Gam} {j : Nat} {k : IntKind} (h : letKind j = some k) (hl : 1000 ≤ j → j < 4000 → LetOk γ (j % 1000)) : ∃ n : Nat, 97 ≤ n ∧ n ≤ hiL (j % 1000) ∧ γ j = .int k n := by
  obtain ⟨h1, h2, h3⟩ := letKind_some h
  obtain ⟨n, n1, n2, g1, g2, g3⟩ := hl h1 h2
  refine ⟨n, n1, n2, ?_⟩
  rcases h3 with ⟨h3, rfl⟩ | ⟨h3, h4, rfl⟩ | ⟨h3, rfl⟩
  · rw [show 1000 + j % 1000 = j by omega] at g1; exact g1
  · rw [show 2000 + j % 1000 = j by omega] at g2; exact g2
  · rw [show 3000 + j % 1000 = j by omega] at g3; exact g3
theorem letC_sim {L H : Nat} {op : BinOp} {k : IntKind} {n : Nat} {c : Int} {b : Bool} (h1 : L ≤ n) (h2 : n ≤ H) (h : letC L H op c = some b) (t : Nat) (w : World) : (Go.binOp op t (.int k n) (.int k c)).run P w = .ok (.bool b) w := by
  have key : ∀ b', intDo op k n c = some (.bool b') → b = b' → (Go.binOp op t (.int k n) (.int k c)).run P w = .ok (.bool b) w := by
    intro b' hd hb
    obtain ⟨v', e1, e2⟩ := intDo_sim (P := P) (γ := fun _ => .bool true) (t := t) (w := w) (ρ := fun _ => none) hd
    cases e2
    rw [hb]; exact e1
  have eL : Int.ofNat L = (L : Int) := rfl
  have eH : Int.ofNat H = (H : Int) := rfl
  cases op <;> simp only [letC, eL] at h <;> (try (cases h; done))
  case eql =>
    split at h <;> (try (cases h; done))
    rename_i hc
    rw [Bool.or_eq_true, ltI_eq, ltI_eq, decide_eq_true_eq, decide_eq_true_eq] at hc
    rw [Int.ofNat_eq_natCast] at hc
    cases h
    refine key (eqI n c) rfl ?_
    rw [eqI_eq, eq_comm, beq_eq_false_iff_ne]
    omega
  case neq =>
    split at h <;> (try (cases h; done))
    rename_i hc
    rw [Bool.or_eq_true, ltI_eq, ltI_eq, decide_eq_true_eq, decide_eq_true_eq] at hc
    rw [Int.ofNat_eq_natCast] at hc
    cases h
    refine key (notB (eqI n c)) rfl ?_
    rw [notB_eq, eqI_eq, eq_comm, Bool.not_eq_true', beq_eq_false_iff_ne]
    omega
  case lss =>
    split at h
    · rename_i hc
      rw [ltI_eq, decide_eq_false_iff_not] at hc
      cases h
      refine key (ltI n c) rfl ?_
      rw [ltI_eq, eq_comm, decide_eq_false_iff_not]
      omega
    · rename_i hc
      split at h <;> (try (cases h; done))
      rename_i hc2
      rw [ltI_eq, decide_eq_true_eq, eH] at hc2
      cases h
      refine key (ltI n c) rfl ?_
      rw [ltI_eq, eq_comm, decide_eq_true_eq]
      omega
  case leq =>
    split at h
    · rename_i hc
      rw [ltI_eq, decide_eq_true_eq] at hc
      cases h
      refine key (notB (ltI c n)) rfl ?_
      rw [notB_eq, ltI_eq, eq_comm, Bool.not_eq_false', decide_eq_true_eq]
      omega
    · rename_i hc
      split at h <;> (try (cases h; done))
      rename_i hc2
      rw [ltI_eq, decide_eq_false_iff_not, eH] at hc2
      cases h
      refine key (notB (ltI c n)) rfl ?_
      rw [notB_eq, ltI_eq, eq_comm, Bool.not_eq_true', decide_eq_false_iff_not]
      omega
  case gtr =>
    split at h
    · rename_i hc
      rw [ltI_eq, decide_eq_true_eq] at hc
      cases h
      refine key (ltI c n) rfl ?_
      rw [ltI_eq, eq_comm, decide_eq_true_eq]
      omega
    · rename_i hc
      split at h <;> (try (cases h; done))
      rename_i hc2
      rw [ltI_eq, decide_eq_false_iff_not, eH] at hc2
      cases h
      refine key (ltI c n) rfl ?_
      rw [ltI_eq, eq_comm, decide_eq_false_iff_not]
      omega
  case geq =>
    split at h
    · rename_i hc
      rw [ltI_eq, decide_eq_false_iff_not] at hc
      cases h
      refine key (notB (ltI n c)) rfl ?_
      rw [notB_eq, ltI_eq, eq_comm, Bool.not_eq_true', decide_eq_false_iff_not]
      omega
    · rename_i hc
      split at h <;> (try (cases h; done))
      rename_i hc2
      rw [ltI_eq, decide_eq_true_eq, eH] at hc2
      cases h
      refine key (notB (ltI n c)) rfl ?_
      rw [notB_eq, ltI_eq, eq_comm, Bool.not_eq_false', decide_eq_true_eq]
      omega
/-- The same, the number first. -/
theorem flip_sim {L H : Nat} {op : BinOp} {k : IntKind} {n : Nat} {c : Int} {b : Bool} (h1 : L ≤ n) (h2 : n ≤ H) (h : letC L H (flipOp op) c = some b) (t : Nat) (w : World) : (Go.binOp op t (.int k c) (.int k n)).run P w = .ok (.bool b) w := by
  have hs := letC_sim (P := P) (k := k) h1 h2 h t w
  have key : ∀ b1 : Bool, intDo op k c n = some (.bool b1) → intDo (flipOp op) k n c = some (.bool b1) → (Go.binOp op t (.int k c) (.int k n)).run P w = .ok (.bool b) w := by
    intro v hd hd2
    obtain ⟨v1, e1, e2⟩ := intDo_sim (P := P) (γ := fun _ => .bool true) (t := t) (w := w) (ρ := fun _ => none) hd2
    rw [hs] at e1
    have hv1 := congrArg (fun r => match r with | Result.ok v _ => v | _ => undef) e1
    simp only at hv1
    subst hv1
    obtain ⟨v2, f1, f2⟩ := intDo_sim (P := P) (γ := fun _ => .bool true) (t := t) (w := w) (ρ := fun _ => none) hd
    cases e2
    cases f2
    exact f1
  cases op <;> simp only [flipOp, letC] at h <;> (try (cases h; done))
  case eql => exact key (eqI c n) rfl (by show some (IV.bool (eqI n c)) = _; rw [eqI_eq, eqI_eq, Bool.beq_comm])
  case neq => exact key (notB (eqI c n)) rfl (by show some (IV.bool (notB (eqI n c))) = _; rw [eqI_eq, eqI_eq, Bool.beq_comm])
  case lss => exact key (ltI c n) rfl rfl
  case leq => exact key (notB (ltI n c)) rfl rfl
  case gtr => exact key (ltI n c) rfl rfl
  case geq => exact key (notB (ltI c n)) rfl rfl
theorem letLet_sim {op : BinOp} {k : IntKind} {n : Int} {i j : Nat} {v : IV} {ρ : Rho} (h : letLet op i j = some v) (t : Nat) (w : World) : i = j ∧ ∃ v', (Go.binOp op t (.int k n) (.int k n)).run P w = .ok v' w ∧ VR ρ γ v v' := by
  unfold letLet at h
  split at h <;> (try (cases h; done))
  split at h <;> (try (cases h; done))
  rename_i hij
  refine ⟨Nat.eq_of_beq_eq_true hij, ?_⟩
  have e : eqI n n = true := by rw [eqI_eq]; simp
  have l : ltI n n = false := by rw [ltI_eq]; simp
  cases op <;> simp only at h <;> (try (cases h; done)) <;> cases h <;> first
    | exact intDo_sim (P := P) (op := .eql) (by show some (IV.bool (eqI n n)) = _; rw [e])
    | exact intDo_sim (P := P) (op := .neq) (by show some (IV.bool (notB (eqI n n))) = _; rw [e]; rfl)
    | exact intDo_sim (P := P) (op := .lss) (by show some (IV.bool (ltI n n)) = _; rw [l])
    | exact intDo_sim (P := P) (op := .leq) (by show some (IV.bool (notB (ltI n n))) = _; rw [l]; rfl)
    | exact intDo_sim (P := P) (op := .gtr) (by show some (IV.bool (ltI n n)) = _; rw [l])
    | exact intDo_sim (P := P) (op := .geq) (by show some (IV.bool (notB (ltI n n))) = _; rw [l]; rfl)
/-- Texts with letters in them. -/
def SR (γ : Gam) (l : List Nat) (s : ByteArray) : Prop := s.data.toList.map UInt8.toNat = l.map (den γ) ∧ ∀ c ∈ l, CodeOk γ c
theorem SR.plain {γ : Gam} {s : ByteArray} {l : List Nat} (h : s.data.toList.map UInt8.toNat = l) : SR γ l s := by
  have hb : ∀ c ∈ l, c < 256 := by
    intro c hc
    rw [← h] at hc
    obtain ⟨b, _, rfl⟩ := List.mem_map.1 hc
    exact UInt8.toNat_lt b
  refine ⟨?_, fun c hc => .inl (hb c hc)⟩
  rw [h]
  conv => lhs; rw [← List.map_id l]
  exact List.map_congr_left (fun c hc => by unfold den; rw [if_pos (hb c hc)]; rfl)
theorem den_small {γ : Gam} {c : Nat} (h : c < 256) : den γ c = c := by unfold den; rw [if_pos h]
theorem map_den_small {γ : Gam} {l : List Nat} (h : ∀ c ∈ l, c < 256) : l.map (den γ) = l := by
  conv => rhs; rw [← List.map_id l]
  exact List.map_congr_left fun c hc => by rw [den_small (h c hc)]; rfl
theorem textOf_rel {ρ : Rho} {s : ByteArray} {l : List Nat} (h : s.data.toList.map UInt8.toNat = l.map (den γ)) (hc : ∀ c ∈ l, CodeOk γ c) : VR ρ γ (textOf l) (.string s) := by
  unfold textOf
  cases ha : allB (fun c => Nat.blt c 256) l with
  | false => exact .sstr _ _ h hc
  | true =>
    refine .str _ _ ?_
    rw [h]
    exact map_den_small fun x hx => by have := (allB_iff _ _).1 ha x hx; rw [Nat.blt_eq] at this; exact this
theorem den_let {γ : Gam} {c : Nat} (h : 256 ≤ c) (hl : LetOk γ (c - 256)) : 97 ≤ den γ c ∧ den γ c ≤ hiL (c - 256) := by
  obtain ⟨n, n1, n2, g1, _, _⟩ := hl
  unfold den denL
  rw [if_neg (by omega), g1]
  simp
  omega
theorem codeEq_sim {γ : Gam} {a b : Nat} {r : Bool} (ha : CodeOk γ a) (hb : CodeOk γ b) (h : codeEq a b = some r) : decide (den γ a = den γ b) = r := by
  unfold codeEq at h
  split at h
  · rename_i e
    cases h
    rw [Nat.eq_of_beq_eq_true e]
    simp
  · rename_i e
    have hne : a ≠ b := by intro e2; subst e2; simp at e
    split at h
    · rename_i h1
      have h1' : a < 256 := by simpa [Nat.blt_eq] using h1
      have da : den γ a = a := by unfold den; rw [if_pos h1']
      split at h
      · rename_i h2
        have h2' : b < 256 := by simpa [Nat.blt_eq] using h2
        have db : den γ b = b := by unfold den; rw [if_pos h2']
        cases h
        rw [da, db]
        exact decide_eq_false hne
      · rename_i h2
        have h2' : ¬ b < 256 := by intro hj; rw [← Nat.blt_eq] at hj; rw [hj] at h2; cases h2
        split at h <;> (try (cases h; done))
        rename_i h3
        rw [Bool.or_eq_true, Nat.blt_eq, Nat.blt_eq] at h3
        cases h
        rcases hb with hb | ⟨_, _, hb⟩
        · omega
        · have := den_let (by omega) hb
          have eS : Nat.sub b 256 = b - 256 := rfl
          rw [eS] at h3
          rw [da]
          exact decide_eq_false (by omega)
    · rename_i h1
      have h1' : ¬ a < 256 := by intro hj; rw [← Nat.blt_eq] at hj; rw [hj] at h1; cases h1
      split at h <;> (try (cases h; done))
      rename_i h2
      have h2' : b < 256 := by simpa [Nat.blt_eq] using h2
      have db : den γ b = b := by unfold den; rw [if_pos h2']
      split at h <;> (try (cases h; done))
      rename_i h3
      rw [Bool.or_eq_true, Nat.blt_eq, Nat.blt_eq] at h3
      cases h
      rcases ha with ha | ⟨_, _, ha⟩
      · omega
      · have := den_let (by omega) ha
        have eS : Nat.sub a 256 = a - 256 := rfl
        rw [eS] at h3
        rw [db]
        exact decide_eq_false (by omega)
theorem listEq3_sim {γ : Gam} : ∀ {a b : List Nat} {r : Bool}, (∀ c ∈ a, CodeOk γ c) → (∀ c ∈ b, CodeOk γ c) → listEq3 a b = some r → decide (a.map (den γ) = b.map (den γ)) = r
  | [], [], r, _, _, h => by cases h; rfl
  | [], _ :: _, r, _, _, h => by cases h; rfl
  | _ :: _, [], r, _, _, h => by cases h; rfl
  | a :: x, b :: y, r, ha, hb, h => by
    unfold listEq3 at h
    have ia : CodeOk γ a := ha a (by simp)
    have ib : CodeOk γ b := hb b (by simp)
    have ihx : ∀ r, listEq3 x y = some r → decide (x.map (den γ) = y.map (den γ)) = r := fun r h => listEq3_sim (fun c hc => ha c (by simp [hc])) (fun c hc => hb c (by simp [hc])) h
    split at h
    · rename_i e
      have e1 := of_decide_eq_true (codeEq_sim ia ib e)
      rw [← ihx r h]
      simp [e1]
    · rename_i e
      have e1 := of_decide_eq_false (codeEq_sim ia ib e)
      cases h
      exact decide_eq_false (fun e2 => e1 (List.cons.inj e2).1)
    · split at h <;> (try (cases h; done))
      rename_i e
      have e1 := of_decide_eq_false (ihx _ e)
      cases h
      exact decide_eq_false (fun e2 => e1 (List.cons.inj e2).2)
theorem sstrOp_sim {op : BinOp} {a b : List Nat} {x y : ByteArray} {v : IV} {w : World} {ρ : Rho} (hx : SR γ a x) (hy : SR γ b y) (h : sstrOp op a b = some v) :
    ∃ v', (Op.stringOp op x y).run P w = .ok v' w ∧ VR ρ γ v v' := by
  have la : x.size = a.length := by have := congrArg List.length hx.1; simpa using this
  have lb : y.size = b.length := by have := congrArg List.length hy.1; simpa using this
  have heq : ∀ r, listEq3 a b = some r → (x.toList == y.toList) = r := by
    intro r hr
    have := listEq3_sim hx.2 hy.2 hr
    rw [← this, ← hx.1, ← hy.1, toList_data, toList_data, Bool.eq_iff_iff]
    simp only [beq_iff_eq, decide_eq_true_eq]
    exact ⟨fun h => by rw [h], toNats_inj⟩
  cases op <;> simp only [sstrOp] at h <;> (try (cases h; done))
  case add =>
    cases hr : roomy a b with
    | false => rw [hr] at h; cases h
    | true =>
      rw [hr] at h
      cases h
      have hle := Nat.le_of_ble_eq_true hr
      unfold top64 at hle
      have hle2 : ¬ (((x.size + y.size : Nat) : Int) > IntKind.i64.max) := by
        have e3 : IntKind.i64.max = 9223372036854775807 := by decide
        omega
      refine ⟨.string (x ++ y), by simp only [Op.stringOp, if_neg hle2, Sem.run_pure], .sstr _ _ ?_ ?_⟩
      · rw [List.map_append, ← hx.1, ← hy.1]
        simp
      · intro c hc
        rcases List.mem_append.1 hc with hc | hc
        · exact hx.2 c hc
        · exact hy.2 c hc
  case eql =>
    cases hr : listEq3 a b with
    | none => rw [hr] at h; cases h
    | some r =>
      rw [hr] at h
      cases h
      exact ⟨.bool r, by simp only [Op.stringOp, Sem.run_pure]; rw [heq r hr], .bool _⟩
  case neq =>
    cases hr : listEq3 a b with
    | none => rw [hr] at h; cases h
    | some r =>
      rw [hr] at h
      cases h
      exact ⟨.bool (!r), by simp only [Op.stringOp, Sem.run_pure]; rw [heq r hr], .bool _⟩
theorem letKind_small {j : Nat} {k : IntKind} (h : letKind j = some k) : 1000 ≤ j := (letKind_some h).1
theorem letInt_inv {op : BinOp} {j : Nat} {k : IntKind} {c : Int} {v : IV} (h : letInt op j k c = some v) : letKind j = some k ∧ ∃ b, letC 97 (hiL (j % 1000)) op c = some b ∧ v = .bool b := by
  unfold letInt at h
  split at h <;> (try (cases h; done))
  rename_i k' hk'
  split at h <;> (try (cases h; done))
  rename_i hk
  have := (kindEq_iff _ _).1 hk
  subst this
  refine ⟨hk', ?_⟩
  cases hc : letC 97 (hiL (Nat.mod j 1000)) op c with
  | none => rw [hc] at h; cases h
  | some b => rw [hc] at h; cases h; exact ⟨b, rfl, rfl⟩

theorem lo_enc (q lo hi : Nat) (h1 : lo < 1000) (h2 : hi < 1000) : rngLo (encR q lo hi) = lo := by
  show (10000000 + q * 1000000 + lo * 1000 + hi - 10000000) / 1000 % 1000 = lo
  omega
theorem hi_enc (q lo hi : Nat) (h1 : lo < 1000) (h2 : hi < 1000) : rngHi (encR q lo hi) = hi := by
  show (10000000 + q * 1000000 + lo * 1000 + hi) % 1000 = hi
  omega
theorem rng_at {γ : Gam} {q lo hi n lo' hi' n' : Nat} (h : ∀ lo' hi' n', lo' ≤ n' → n' ≤ hi' → hi' < 1000 → lo' + n = lo + n' → hi' + n = hi + n' → γ (encR q lo' hi') = .int .i64 (n' : Int))
    (h1 : lo' ≤ n') (h2 : n' ≤ hi') (h3 : hi' < 1000) (h4 : lo' + n = lo + n') (h5 : hi' + n = hi + n') : RngOk γ (encR q lo' hi') ∧ γ (encR q lo' hi') = .int .i64 (n' : Int) :=
  ⟨⟨q, lo', hi', n', rfl, h1, h2, h3, fun a b c e1 e2 e3 e4 e5 => h a b c e1 e2 e3 (by omega) (by omega)⟩, h lo' hi' n' h1 h2 h3 h4 h5⟩
theorem rng_val {γ : Gam} {j : Nat} (h : RngOk γ j) : ∃ n : Nat, rngLo j ≤ n ∧ n ≤ rngHi j ∧ γ j = .int .i64 n := by
  obtain ⟨q, lo, hi, n, rfl, h1, h2, h3, h4⟩ := h
  rw [lo_enc q lo hi (by omega) h3, hi_enc q lo hi (by omega) h3]
  exact ⟨n, h1, h2, h4 lo hi n h1 h2 h3 rfl rfl⟩
theorem rng_ge (q lo hi : Nat) : 10000000 ≤ encR q lo hi := by unfold encR; omega
theorem rng_sym {ρ : Rho} {j n : Nat} (hj : 10000000 ≤ j) (h : RngOk γ j) (hg : γ j = .int .i64 (n : Int)) : VR ρ γ (.sym j) (.int .i64 (n : Int)) := by
  rw [← hg]
  exact .sym _ (by rw [hg]; rfl) (fun h => by omega) (fun _ h => by omega) (fun _ h => by omega) (fun _ => h)
theorem rngSub_sim {ρ : Rho} {j : Nat} {c : Int} {v : IV} (hr : RngOk γ j) (h : rngSub j c = some v) (t : Nat) (w : World) : ∃ v', (Go.binOp .sub t (γ j) (.int .i64 c)).run P w = .ok v' w ∧ VR ρ γ v v' := by
  unfold rngSub at h
  split at h <;> (try (cases h; done))
  rename_i m
  split at h <;> (try (cases h; done))
  rename_i hm
  have hm' := Nat.le_of_ble_eq_true hm
  cases h
  rw [show Nat.sub j (Nat.mul 1001 m) = j - 1001 * m from rfl]
  obtain ⟨q, lo, hi, n, rfl, h1, h2, h3, h4⟩ := hr
  rw [lo_enc q lo hi (by omega) h3] at hm'
  have e : encR q lo hi - 1001 * m = encR q (lo - m) (hi - m) := by unfold encR; omega
  rw [e]
  obtain ⟨r1, r2⟩ := rng_at h4 (lo' := lo - m) (hi' := hi - m) (n' := n - m) (by omega) (by omega) (by omega) (by omega) (by omega)
  refine ⟨_, ?_, rng_sym (rng_ge _ _ _) r1 r2⟩
  rw [h4 lo hi n h1 h2 h3 rfl rfl]
  obtain ⟨v', f1, f2⟩ := intDo_sim (P := P) (γ := fun _ => .bool true) (op := .sub) (k := .i64) (a := (n : Int)) (b := (Int.ofNat m)) (t := t) (w := w) (ρ := fun _ => none) rfl
  have hw : IntKind.i64.wrap (Int.sub (n : Int) (Int.ofNat m)) = ((n - m : Nat) : Int) := by
    rw [show Int.sub (n : Int) (Int.ofNat m) = ((n - m : Nat) : Int) from by show (n : Int) - (m : Int) = _; omega]
    unfold IntKind.wrap
    simp [IntKind.signed, IntKind.bits]
    omega
  rw [wrapI_eq, hw] at f2
  cases f2
  exact f1
theorem rngAdd_sim {ρ : Rho} {j : Nat} {c : Int} {v : IV} (hr : RngOk γ j) (h : rngAdd j c = some v) (t : Nat) (w : World) :
    (∃ v', (Go.binOp .add t (γ j) (.int .i64 c)).run P w = .ok v' w ∧ VR ρ γ v v') ∧ ∃ v', (Go.binOp .add t (.int .i64 c) (γ j)).run P w = .ok v' w ∧ VR ρ γ v v' := by
  unfold rngAdd at h
  split at h <;> (try (cases h; done))
  rename_i m
  split at h <;> (try (cases h; done))
  rename_i hm
  rw [Nat.blt_eq] at hm
  cases h
  rw [show Nat.add j (Nat.mul 1001 m) = j + 1001 * m from rfl]
  obtain ⟨q, lo, hi, n, rfl, h1, h2, h3, h4⟩ := hr
  rw [hi_enc q lo hi (by omega) h3] at hm
  have hm : hi + m < 1000 := hm
  have e : encR q lo hi + 1001 * m = encR q (lo + m) (hi + m) := by unfold encR; omega
  rw [e]
  obtain ⟨r1, r2⟩ := rng_at h4 (lo' := lo + m) (hi' := hi + m) (n' := n + m) (by omega) (by omega) (by omega) (by omega) (by omega)
  have hg := h4 lo hi n h1 h2 h3 rfl rfl
  have hw : IntKind.i64.wrap ((n + m : Nat) : Int) = ((n + m : Nat) : Int) := by
    unfold IntKind.wrap
    simp [IntKind.signed, IntKind.bits]
    omega
  refine ⟨⟨_, ?_, rng_sym (rng_ge _ _ _) r1 r2⟩, ⟨_, ?_, rng_sym (rng_ge _ _ _) r1 r2⟩⟩
  · rw [hg]
    obtain ⟨v', f1, f2⟩ := intDo_sim (P := P) (γ := fun _ => .bool true) (op := .add) (k := .i64) (a := (n : Int)) (b := (Int.ofNat m)) (t := t) (w := w) (ρ := fun _ => none) rfl
    rw [wrapI_eq, addI_eq, show (n : Int) + Int.ofNat m = ((n + m : Nat) : Int) from by show (n : Int) + (m : Int) = _; omega, hw] at f2
    cases f2
    exact f1
  · rw [hg]
    obtain ⟨v', f1, f2⟩ := intDo_sim (P := P) (γ := fun _ => .bool true) (op := .add) (k := .i64) (a := (Int.ofNat m)) (b := (n : Int)) (t := t) (w := w) (ρ := fun _ => none) rfl
    rw [wrapI_eq, addI_eq, show Int.ofNat m + (n : Int) = ((n + m : Nat) : Int) from by show (m : Int) + (n : Int) = _; omega, hw] at f2
    cases f2
    exact f1
theorem rngL_sim {ρ : Rho} {op : BinOp} {j : Nat} {k : IntKind} {c : Int} {v : IV} (hj : 10000000 ≤ j) (hr : RngOk γ j) (h : rngL op j k c = some v) (t : Nat) (w : World) : ∃ v', (Go.binOp op t (γ j) (.int k c)).run P w = .ok v' w ∧ VR ρ γ v v' := by
  unfold rngL at h
  split at h <;> (try (cases h; done))
  split at h
  · exact rngSub_sim hr h t w
  · exact (rngAdd_sim hr h t w).1
  · obtain ⟨n, n1, n2, hg⟩ := rng_val hr
    cases hc : letC (rngLo j) (rngHi j) op c with
    | none => rw [hc] at h; cases h
    | some b =>
      rw [hc] at h
      cases h
      rw [hg]
      exact ⟨.bool b, letC_sim n1 n2 hc t w, .bool _⟩
theorem rngR_sim {ρ : Rho} {op : BinOp} {j : Nat} {k : IntKind} {c : Int} {v : IV} (hr : RngOk γ j) (h : rngR op j k c = some v) (t : Nat) (w : World) : ∃ v', (Go.binOp op t (.int k c) (γ j)).run P w = .ok v' w ∧ VR ρ γ v v' := by
  unfold rngR at h
  split at h <;> (try (cases h; done))
  split at h
  · exact (rngAdd_sim hr h t w).2
  obtain ⟨n, n1, n2, hg⟩ := rng_val hr
  cases hc : letC (rngLo j) (rngHi j) (flipOp op) c with
  | none => rw [hc] at h; cases h
  | some b =>
    rw [hc] at h
    cases h
    rw [hg]
    exact ⟨.bool b, flip_sim n1 n2 hc t w, .bool _⟩
theorem binop_sim {ρ : Rho} {s : St} {w : World} (hr : Rel P γ ρ s w) {op : BinOp} {t : Nat} {x y v : IV} {x' y' : Value} (hx : VR ρ γ x x') (hy : VR ρ γ y y') (h : binop P op t x y = some v) :
    ∃ v', (Go.binOp op t x' y').run P w = .ok v' w ∧ VR ρ γ v v' := by
  have hx0 := hx
  cases hx with
  | int k a =>
    cases hy with
    | int k' b =>
      simp only [binop, intPair] at h
      cases hsft : isShift op with
      | true =>
        simp only [hsft] at h
        rw [shift_kind op hsft]
        exact intDo_sim h
      | false =>
        simp only [hsft] at h
        cases hk : kindEq k k' with
        | false => simp [hk] at h
        | true =>
          simp only [hk] at h
          have := (kindEq_iff _ _).1 hk
          subst this
          exact intDo_sim h
    | sym j hj hji hjs hjl hjr =>
      simp only [binop] at h
      cases hlk : letKind j with
      | some kk =>
        simp only [hlk] at h
        obtain ⟨h1, b, h2, rfl⟩ := letInt_inv h
        obtain ⟨n, n1, n2, hg⟩ := let_val h1 hjl
        rw [hg]
        exact ⟨.bool b, flip_sim n1 n2 h2 t w, .bool _⟩
      | none =>
      simp only [hlk] at h
      cases hrg : rngIs j with
      | true =>
        simp only [hrg] at h
        exact rngR_sim (hjr (Nat.le_of_ble_eq_true hrg)) h t w
      | false =>
      simp only [hrg] at h
      unfold symAdd at h
      split at h <;> (try (cases h; done))
      split at h <;> (try (cases h; done))
      split at h <;> (try (cases h; done))
      rename_i hc
      simp only [Bool.and_eq_true, eqI_eq, beq_iff_eq, Nat.blt_eq] at hc
      obtain ⟨rfl, h3, h4⟩ := hc
      have h3' := Nat.le_of_ble_eq_true h3
      cases h
      obtain ⟨n, q1, q2, q3, q4⟩ := hjs h3' h4
      refine ⟨γ (j + 100), ?_, .sym (j + 100) (by rw [q2]; rfl) (fun _ => ⟨_, q2⟩) (fun _ h => by omega) (fun h _ => by omega) (fun h => by omega)⟩
      rw [q1, q2]
      obtain ⟨v', e1, e2⟩ := intDo_sim (P := P) (γ := γ) (op := .add) (k := .i64) (a := 1) (b := n) (t := t) (w := w) (ρ := ρ) rfl
      have hw : IntKind.i64.wrap (1 + n) = n + 1 := by
        unfold IntKind.wrap
        simp [IntKind.signed, IntKind.bits]
        omega
      rw [wrapI_eq, addI_eq, hw] at e2
      cases e2
      exact e1
    | _ => simp [binop] at h
  | str s1 l1 h1 =>
    cases hy with
    | str s2 l2 h2 =>
      simp only [binop] at h
      obtain ⟨v', hv1, hv2⟩ := strOp_sim (P := P) (γ := γ) (w := w) (ρ := ρ) h1 h2 h
      refine ⟨v', ?_, hv2⟩
      have : Go.binOp op t (.string s1) (.string s2) = Op.stringOp op s1 s2 := by cases op <;> rfl
      rw [this]; exact hv1
    | sstr s2 l2 h2 hc2 =>
      simp only [binop] at h
      obtain ⟨v', hv1, hv2⟩ := sstrOp_sim (P := P) (γ := γ) (w := w) (ρ := ρ) (SR.plain h1) ⟨h2, hc2⟩ h
      refine ⟨v', ?_, hv2⟩
      have : Go.binOp op t (.string s1) (.string s2) = Op.stringOp op s1 s2 := by cases op <;> rfl
      rw [this]; exact hv1
    | _ => simp [binop] at h
  | sstr s1 l1 h1 hc1 =>
    cases hy with
    | str s2 l2 h2 =>
      simp only [binop] at h
      obtain ⟨v', hv1, hv2⟩ := sstrOp_sim (P := P) (γ := γ) (w := w) (ρ := ρ) ⟨h1, hc1⟩ (SR.plain h2) h
      refine ⟨v', ?_, hv2⟩
      have : Go.binOp op t (.string s1) (.string s2) = Op.stringOp op s1 s2 := by cases op <;> rfl
      rw [this]; exact hv1
    | sstr s2 l2 h2 hc2 =>
      simp only [binop] at h
      obtain ⟨v', hv1, hv2⟩ := sstrOp_sim (P := P) (γ := γ) (w := w) (ρ := ρ) ⟨h1, hc1⟩ ⟨h2, hc2⟩ h
      refine ⟨v', ?_, hv2⟩
      have : Go.binOp op t (.string s1) (.string s2) = Op.stringOp op s1 s2 := by cases op <;> rfl
      rw [this]; exact hv1
    | _ => simp [binop] at h
  | sym i hi0 hii his hil hir =>
    cases hy with
    | int k b =>
      simp only [binop] at h
      cases hrg : rngIs i with
      | true =>
        simp only [hrg] at h
        have hj := Nat.le_of_ble_eq_true hrg
        exact rngL_sim hj (hir hj) h t w
      | false =>
      simp only [hrg] at h
      obtain ⟨h1, b, h2, rfl⟩ := letInt_inv h
      obtain ⟨n, n1, n2, hg⟩ := let_val h1 hil
      rw [hg]
      exact ⟨.bool b, letC_sim n1 n2 h2 t w, .bool _⟩
    | sym j hj hji hjs hjl hjr =>
      simp only [binop] at h
      cases hlk : letKind i with
      | none => unfold letLet at h; rw [hlk] at h; cases h
      | some kk =>
        obtain ⟨n, n1, n2, hg⟩ := let_val hlk hil
        obtain ⟨rfl, hv⟩ := letLet_sim (P := P) (γ := γ) (ρ := ρ) (k := kk) (n := n) h t w
        rw [hg]
        exact hv
    | _ => simp [binop] at h
  | _ =>
    simp only [binop] at h
    exact eqDo_sim hr hx0 hy (by intro _ _ h; cases h) (by intro _ h; cases h) (by intro _ h; cases h) (by intro _ h; cases h) h

theorem unop_sim {ρ : Rho} {op : UnOp} {x v : IV} {x' : Value} {w : World} (hx : VR ρ γ x x') (h : unop op x = some v) : ∃ v', (Op.unary op x').run P w = .ok v' w ∧ VR ρ γ v v' := by
  cases op <;> simp only [unop] at h <;> (try (cases h; done))
  case neg =>
    cases hx <;> simp at h
    rename_i k n
    obtain ⟨v', h1, h2⟩ := intDo_sim (P := P) (γ := γ) (w := w) (ρ := ρ) (t := 0) h
    refine ⟨v', ?_, h2⟩
    simpa [Go.binOp, Op.unary] using h1
  case xor =>
    cases hx <;> simp at h
    rename_i k n
    obtain ⟨v', h1, h2⟩ := intDo_sim (P := P) (γ := γ) (w := w) (ρ := ρ) (t := 0) h
    refine ⟨v', ?_, h2⟩
    simpa [Go.binOp, Op.unary] using h1
  case not =>
    cases hx <;> simp at h
    subst h
    exact ⟨_, rfl, .bool _⟩
end Go.Eng
