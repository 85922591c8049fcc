/- A part of the proof: an interpreter of the program, shown right once, and the laws that it computes. -/
import Derived.Test.YtfckbfheadoohaaGreatDoorEng9
set_option linter.constructorNameAsVariable false
set_option linter.unusedVariables false
set_option linter.unusedSimpArgs false
namespace Go.Eng
variable {P : Program} {γ : Gam}

theorem run_seenAt {w : World} {b off : Nat} {arr : Array Value} {e : Nat} {fr : Nat × Nat} (h : w.heap[b]? = some (.cells arr e fr)) : (Conv.seenAt ⟨b, off, none⟩).run P w = .ok ⟨b, off, none⟩ w := by
  unfold Conv.seenAt viewAt
  simp only [Sem.run_bind, run_shape, shape_eq h, Result.andThen_ok, Option.isSome_some, if_true, Sem.run_pure]
theorem run_cellsIn {w : World} {b : Nat} {arr : Array Value} {e : Nat} {fr : Nat × Nat} (h : w.heap[b]? = some (.cells arr e fr)) : (cellsIn b).run P w = .ok (some arr.size) w := by
  unfold cellsIn
  simp only [Sem.run_bind, run_shape, shape_eq h, Result.andThen_ok, Sem.run_pure]

theorem cellsOf_eq {e n : Nat} (h : size P e = some n) : P.cellsOf e = n := by
  obtain ⟨i, hi, hn⟩ := size_eq h
  unfold Program.cellsOf; simp [hi, hn]
theorem depth_succ (P : Program) : ∃ d, P.depth = d + 1 := ⟨2 * (P.types.size + Made.depth) + 1, rfl⟩

theorem unsafe_sim {ρ : Rho} {s s' : St} {w : World} {e src dst : Nat} {x v : IV} {x' : Value} (h : Rel P γ ρ s w) (hs : P.underlying src = some (.pointer e)) (hd : P.underlying dst = some .unsafePointer)
    (hx : VR ρ γ x x') (hr : toUnsafe P e x s = .ok v s') : Yields P γ ρ s w (Conv.unsafePointer src dst x') v s' := by
  unfold toUnsafe at hr
  cases x <;> simp only at hr <;> (try (cases hr; done))
  · cases hx; cases hr
    refine Yields.same h ?_ .nilptr
    unfold Conv.unsafePointer
    simp only [Sem.run_bind, run_underlying hs, run_underlying hd, Result.andThen_ok, Sem.run_pure]
  · rename_i b o
    cases hx
    rename_i p hb
    split at hr
    · rename_i k hz
      unfold insideOf at hr
      split at hr
      · rename_i c len e' fz tag hg
        split at hr
        · rename_i hlt
          cases hr
          have hlt' : o < len := by simpa [Nat.blt_eq] using hlt
          obtain ⟨arr, fr, h1, h2⟩ := h.row hb hg
          cases h2 with
          | cells _ _ _ _ _ _ _ hl' ha hc hf hs' htg hz' =>
            refine Yields.same h ?_ (.ptr b o p hb)
            unfold Conv.unsafePointer
            have hno : ¬ (p.shift + o ≥ arr.size) := by omega
            simp only [Sem.run_bind, run_underlying hs, run_underlying hd, Result.andThen_ok, run_seenAt h1, run_cellsIn h1, run_sizeOf hz, Sem.run_pure]
            simp [hno]
        · cases hr
      · cases hr
    · cases hr

theorem ofUnsafe_sim {ρ : Rho} {s s' : St} {w : World} {e src dst : Nat} {x v : IV} {x' : Value} (h : Rel P γ ρ s w) (hs : P.underlying src = some .unsafePointer) (hd : P.underlying dst = some (.pointer e))
    (hx : VR ρ γ x x') (hr : ofUnsafe P e x s = .ok v s') : Yields P γ ρ s w (Conv.unsafePointer src dst x') v s' := by
  unfold ofUnsafe at hr
  split at hr <;> (try (cases hr; done))
  · cases hx; cases hr
    refine Yields.same h ?_ .nilptr
    unfold Conv.unsafePointer
    simp only [Sem.run_bind, run_underlying hs, run_underlying hd, Result.andThen_ok, Sem.run_pure]
  · rename_i b
    cases hx
    rename_i p hb
    split at hr <;> (try (cases hr; done))
    rename_i n hz
    unfold wholeOf at hr
    split at hr <;> (try (cases hr; done))
    rename_i c len e' fz hg
    split at hr <;> (try (cases hr; done))
    rename_i hee
    split at hr <;> (try (cases hr; done))
    rename_i hln
    cases hr
    have he := Nat.eq_of_beq_eq_true hee
    have hln' := Nat.eq_of_beq_eq_true hln
    subst he
    obtain ⟨arr, fr, h1, h2⟩ := h.row hb hg
    cases h2 with
    | cells _ _ _ _ _ _ _ hl' ha hc hf hs' htg hz' =>
      have hsh := htg rfl
      refine Yields.same h ?_ (.ptr b 0 p hb)
      have hcells := cellsOf_eq hz
      have hvar : (Conv.unsafePointer src dst (.pointer (some ⟨p.blk, p.shift + 0, none⟩))).run P w = .ok (.pointer (some ⟨p.blk, p.shift + 0, none⟩)) w := by
        unfold Conv.unsafePointer
        simp only [Sem.run_bind, run_underlying hs, run_underlying hd, Result.andThen_ok, run_seenAt h1, run_sizeOf hz, Sem.run_pure]
        unfold variablesAt
        simp only [Sem.run_bind, run_program, run_shape, shape_eq h1, Result.andThen_ok, Sem.run_pure]
        obtain ⟨d, hdep⟩ := depth_succ P
        have hlies : liesAt P P.depth e (arr.size / P.cellsOf e) (p.shift + 0) e 1 = true := by
          rw [hdep]
          unfold liesAt
          rw [hdep]
          unfold rowAt
          have hdiv : 1 ≤ arr.size / (n + 1) := (Nat.le_div_iff_mul_le (by omega)).2 (by omega)
          have hsame : sameLayout P (d + 1) e e = true := by unfold sameLayout; simp
          simp only [hcells, hsh, Nat.add_eq_zero_iff, Nat.one_ne_zero, and_false, if_false, Nat.zero_div, Nat.zero_mod, Nat.zero_add, hsame, beq_self_eq_true, Bool.true_and, Bool.and_true]
          simp [hdiv]
        have hlies' : liesAt P P.depth e (arr.size / P.cellsOf e) p.shift e 1 = true := hlies
        simp [hlies']
      exact hvar

theorem wrap_letter (k : IntKind) (n : Nat) (h1 : 97 ≤ n) (h2 : n ≤ 122) (hk : k = .u8 ∨ k = .i64 ∨ k = .i32) : k.wrap (n : Int) = n := by
  rcases hk with rfl | rfl | rfl <;> unfold IntKind.wrap <;> simp [IntKind.signed, IntKind.bits] <;> omega
theorem letConv_sim {ρ : Rho} {j : Nat} {k : IntKind} {v : IV} (h : letConv j k = some v) (hl : 1000 ≤ j → j < 4000 → LetOk γ (j % 1000)) :
    ∃ (k0 : IntKind) (n : Nat), γ j = .int k0 n ∧ VR ρ γ v (.int k (k.wrap n)) := by
  unfold letConv at h
  split at h <;> (try (cases h; done))
  rename_i k0 hk0
  obtain ⟨n, n1, n2, g0⟩ := let_val hk0 hl
  obtain ⟨h1, h2, _⟩ := letKind_some hk0
  have hm := Nat.mod_lt j (show 0 < 1000 by decide)
  obtain ⟨n', m1, m2, g1, g2, g3⟩ := hl h1 h2
  have hn : n' = n := by
    obtain ⟨_, _, h3⟩ := letKind_some hk0
    rcases h3 with ⟨h3, rfl⟩ | ⟨h3, h4, rfl⟩ | ⟨h3, rfl⟩
    · rw [show 1000 + j % 1000 = j by omega, g0] at g1
      injection g1 with _ q; omega
    · rw [show 2000 + j % 1000 = j by omega, g0] at g2
      injection g2 with _ q; omega
    · rw [show 3000 + j % 1000 = j by omega, g0] at g3
      injection g3 with _ q; omega
  subst hn
  have mk : ∀ (b : Nat) (k1 : IntKind), (b = 1000 ∨ b = 2000 ∨ b = 3000) → (k1 = .u8 ∨ k1 = .i64 ∨ k1 = .i32) → γ (b + j % 1000) = .int k1 n' → VR ρ γ (.sym (b + j % 1000)) (.int k1 (k1.wrap n')) := by
    intro b k1 hb hk1 g
    rw [wrap_letter k1 n' n1 (Nat.le_trans n2 (hiL_le _)) hk1, ← g]
    refine .sym _ (by rw [g]; rfl) (fun h => ?_) (fun h h' => ?_) (fun _ _ => ?_)
    · rcases hb with rfl | rfl | rfl <;> omega
    · rcases hb with rfl | rfl | rfl <;> omega
    · have e : (b + j % 1000) % 1000 = j % 1000 := by rcases hb with rfl | rfl | rfl <;> omega
      rw [e]
      exact ⟨n', m1, m2, g1, g2, g3⟩
  refine ⟨k0, n', g0, ?_⟩
  cases k <;> simp only at h <;> (try (cases h; done))
  case u8 => have e := Option.some.inj h; subst e; exact mk 1000 .u8 (.inl rfl) (.inl rfl) g1
  case i64 => have e := Option.some.inj h; subst e; exact mk 2000 .i64 (.inr (.inl rfl)) (.inr (.inl rfl)) g2
  case i32 => have e := Option.some.inj h; subst e; exact mk 3000 .i32 (.inr (.inr rfl)) (.inr (.inr rfl)) g3
theorem conv_sim {ρ : Rho} {s s' : St} {w : World} {src dst : Nat} {us ud : TypeDesc} {x v : IV} {x' : Value} (h : Rel P γ ρ s w) (hs : undI P src = some us) (hd : undI P dst = some ud) (hx : VR ρ γ x x')
    (hr : convAt P src dst us ud x s = .ok v s') : Yields P γ ρ s w (convert src dst x') v s' := by
  have hs' := undI_eq hs
  have hd' := undI_eq hd
  have hrun : ∀ {m : Sem Value}, (∀ w, (convert src dst x').run P w = m.run P w) → Yields P γ ρ s w m v s' → Yields P γ ρ s w (convert src dst x') v s' := by
    intro m hm ⟨v', w', ρ', h1, h2⟩
    exact ⟨v', w', ρ', (hm w).trans h1, h2⟩
  unfold convAt at hr
  split at hr
  · split at hr <;> (try (cases hr; done))
    · cases hx; cases hr
      refine Yields.same h ?_ (.int _ _)
      unfold convert
      simp only [Sem.run_bind, run_underlying hs', run_underlying hd', Result.andThen_ok, Conv.intToInt, Sem.run_pure, wrapI_eq]
    · rename_i k _ j
      cases hc : letConv j k with
      | none => rw [hc] at hr; cases hr
      | some v1 =>
        rw [hc] at hr
        cases hr
        cases hx with
        | sym _ hj hji hjs hjl =>
          obtain ⟨k0, n, g0, hv⟩ := letConv_sim (ρ := ρ) hc hjl
          rw [g0]
          refine Yields.same h ?_ hv
          unfold convert
          simp only [Sem.run_bind, run_underlying hs', run_underlying hd', Result.andThen_ok, Conv.intToInt, Sem.run_pure]
  · split at hr
    · cases hx; cases hr
      refine Yields.same h ?_ (.str (Utf8.encode _) _ (encode_eq _))
      unfold convert
      simp only [Sem.run_bind, run_underlying hs', run_underlying hd', Result.andThen_ok, Conv.intToString, Sem.run_pure]
    · cases hr
      have hx0 := hx
      cases hx
      refine Yields.same h ?_ hx0
      unfold convert
      simp only [Sem.run_bind, run_underlying hs', run_underlying hd', Result.andThen_ok, Sem.run_pure]
    · cases hr
      have hx0 := hx
      cases hx
      refine Yields.same h ?_ hx0
      unfold convert
      simp only [Sem.run_bind, run_underlying hs', run_underlying hd', Result.andThen_ok, Sem.run_pure]
    · rename_i hni hns hnss
      split at hr <;> (try (cases hr; done))
      rename_i e
      obtain ⟨hb, hy⟩ := ofBytes_sim h hx hr
      obtain ⟨hu, _⟩ := isByte_eq hb
      refine hrun ?_ hy
      intro w
      have : ∀ y : Value, VR ρ γ x y → (convert src dst y).run P w = (Conv.bytesToString y).run P w := by
        intro y hy
        unfold convert
        simp only [Sem.run_bind, run_underlying hs', run_underlying hd', Result.andThen_ok]
        cases hy <;> first
          | exact absurd rfl (hni _ _)
          | exact absurd rfl (hns _)
          | exact absurd rfl (hnss _)
          | (simp only [Sem.run_bind, run_underlying (undI_eq hu), Result.andThen_ok]; done)
          | (simp [ofBytes, hb] at hr; done)
      exact this x' hx
  · split at hr
    · cases hx with
      | str b l hl =>
        subst hl
        obtain ⟨hb, hy⟩ := toBytes_sim h hr
        obtain ⟨hu, _⟩ := isByte_eq hb
        refine hrun ?_ hy
        intro w
        unfold convert
        simp only [Sem.run_bind, run_underlying hs', run_underlying hd', Result.andThen_ok, run_underlying (undI_eq hu)]
    · cases hx with
      | sstr b l hl hlc =>
        obtain ⟨hb, hy⟩ := toBytesS_sim h ⟨hl, hlc⟩ hr
        obtain ⟨hu, _⟩ := isByte_eq hb
        refine hrun ?_ hy
        intro w
        unfold convert
        simp only [Sem.run_bind, run_underlying hs', run_underlying hd', Result.andThen_ok, run_underlying (undI_eq hu)]
    · rename_i hns hnss
      split at hr <;> (try (cases hr; done))
      cases x <;> simp only [sameBytes] at hr <;> (try (cases hr; done))
      rename_i b o n c ex
      split at hr <;> (try (cases hr; done))
      rename_i heq
      split at hr <;> (try (cases hr; done))
      rename_i hb
      obtain ⟨hu, _⟩ := isByte_eq hb
      obtain ⟨rfl, a, n', c', w', rfl, h1, h2, h3⟩ := strish_sim h hx hr
      have he : src = dst := Nat.eq_of_beq_eq_true heq
      subst he
      have hsame := hs'.symm.trans hd'
      cases hsame
      refine ⟨_, w', ρ, ?_, h2, h3, hx⟩
      unfold convert
      simp only [Sem.run_bind, run_underlying hs', run_underlying hd', Result.andThen_ok, run_underlying (undI_eq hu), beq_self_eq_true, h1, Sem.run_pure]
  · split at hr <;> (try (cases hr; done))
    refine hrun ?_ (unsafe_sim h hs' hd' hx hr)
    intro w
    unfold convert
    simp only [Sem.run_bind, run_underlying hs', run_underlying hd', Result.andThen_ok]
  · split at hr <;> (try (cases hr; done))
    refine hrun ?_ (ofUnsafe_sim h hs' hd' hx hr)
    intro w
    unfold convert
    simp only [Sem.run_bind, run_underlying hs', run_underlying hd', Result.andThen_ok]
  · cases hr
end Go.Eng
