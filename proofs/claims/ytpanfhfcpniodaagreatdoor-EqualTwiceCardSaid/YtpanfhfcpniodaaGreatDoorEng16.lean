/- A part of the proof: an interpreter of the program, shown right once, and the laws that it computes. -/
import Derived.Test.YtpanfhfcpniodaaGreatDoorEng15
set_option linter.constructorNameAsVariable false
set_option linter.unusedVariables false
set_option linter.unusedSimpArgs false
namespace Go.Eng
variable {P : Program} {γ : Gam}

theorem sliceT_eq {t e : Nat} (h : sliceT P t = some e) : P.underlying t = some (.slice e) := by
  unfold sliceT at h
  split at h
  · rename_i hu; cases h; exact undI_eq hu
  · cases h
theorem mapT_eq {t k e : Nat} (h : mapT P t = some (k, e)) : P.underlying t = some (.map k e) := by
  unfold mapT at h
  split at h
  · rename_i hu; cases h; exact undI_eq hu
  · cases h
theorem bytesT_eq {e : Nat} {i : TypeInfo} (h : infoI P e = some i) : bytesT P e = i.bytes := by unfold bytesT; rw [h]
theorem info_of_size {e n : Nat} (h : size P e = some n) : ∃ i, infoI P e = some i ∧ i.size = n := by
  unfold size at h
  cases hi : infoI P e with
  | none => simp [hi] at h
  | some i => simp [hi] at h; exact ⟨i, rfl, h⟩

theorem wrap_small {n : Nat} (h : n ≤ top64) : IntKind.i64.wrap (Int.ofNat n) = Int.ofNat n := by
  rw [← wrap64I_eq]
  show Bool.rec (motive := fun _ => Int) _ (Int.ofNat n) (Nat.ble n top64) = _
  rw [Nat.ble_eq_true_of_le h]

theorem makeSlice_sim {ρ : Rho} {s s' : St} {w : World} {t e n : Nat} {z l c v : IV} {l' c' : Value} (h : Rel P γ ρ s w) (ht : sliceT P t = some e) (hz : zero P e = some z) (hn : size P e = some (n + 1)) (hzl : z.cells.length = n + 1)
    (hl : VR ρ γ l l') (hc : VR ρ γ c c') (hr : makeSl' e (bytesT P e) z.cells l c s = .ok v s') : Yields P γ ρ s w (Instr.makeSlice t l' c') v s' := by
  unfold makeSl' at hr
  cases hln : l.nat with
  | none => simp [hln] at hr
  | some ln =>
    cases hcn : c.nat with
    | none => simp [hln, hcn] at hr
    | some cn =>
      simp only [hln, hcn] at hr
      obtain ⟨kl, rfl⟩ := nat_inv hl hln
      obtain ⟨kc, rfl⟩ := nat_inv hc hcn
      unfold makeSl at hr
      cases hb : Nat.ble ln cn && small cn (bytesT P e) && Nat.ble cn top64 with
      | false => simp [hb] at hr
      | true =>
        simp only [hb] at hr
        injection hr with hv hs
        subst hv hs
        simp only [Bool.and_eq_true] at hb
        have h1 := Nat.le_of_ble_eq_true hb.1.1
        have h2 := Nat.le_of_ble_eq_true hb.2
        have h3 := Nat.le_of_ble_eq_true hb.1.2
        obtain ⟨i, hi, hin⟩ := info_of_size hn
        rw [bytesT_eq hi] at h3
        obtain ⟨zv, hzv, hzrun⟩ := run_zeroValue hz
        have hzr := (VR.ofValue (ρ := ρ) (γ := γ) hzv).cells
        have hzs : zv.cells.size = n + 1 := by have := hzr.length; simp at this; omega
        have hlarge : ∀ m : Nat, m ≤ cn → ¬ ((i.bytes : Int) * (Int.ofNat m) > 2 ^ 48) := by
          intro m hm
          have hmul : i.bytes * m ≤ 2 ^ 48 := by
            have : i.bytes * m ≤ (4 * cn + 4000) * i.bytes := by
              rw [Nat.mul_comm]; exact Nat.mul_le_mul_right _ (by omega)
            omega
          have : (i.bytes : Int) * (Int.ofNat m) = ((i.bytes * m : Nat) : Int) := by simp
          rw [this]
          have e48 : (2 : Int) ^ 48 = ((2 ^ 48 : Nat) : Int) := by decide
          rw [e48]
          omega
        have hrow : VRs ρ γ (rep cn z.cells) ((Array.range (cn * (n + 1))).map (zv.cells[· % zv.cells.size]!)).toList := rep_sim hzr (by rw [hzs])
        have key : ∀ zs : Array Value, (cn * (n + 1) = 0 ∧ zs = #[] ∨ zs = zv.cells) → VRs ρ γ (rep cn z.cells) ((Array.range (cn * (n + 1))).map (zs[· % zs.size]!)).toList := by
          intro zs hzs'
          rcases hzs' with ⟨h0, rfl⟩ | rfl
          · have : rep cn z.cells = [] := List.length_eq_zero_iff.1 (by rw [length_rep, hzl, h0])
            rw [this, h0]; simpa using VRs.nil
          · exact hrow
        have fin : ∀ zs : Array Value, (cn * (n + 1) = 0 ∧ zs = #[] ∨ zs = zv.cells) → Yields P γ ρ s w (do pure (.slice (some (← newRow e ((Array.range (cn * (n + 1))).map (zs[· % zs.size]!)))) ln cn)) (.sl s.next 0 ln cn true) (s.new (rowOf (rep cn z.cells) e 0)) :=
          fun zs hzs' => newRow_val h (key zs hzs') hn rfl
        have hcn0 : ¬ (Int.ofNat cn < 0) := by simp
        have hln0 : ¬ (Int.ofNat ln < 0) := by simp
        have hlc : ¬ (Int.ofNat ln > Int.ofNat cn) := by simpa using h1
        have hbad : (decide (Int.ofNat cn < 0) || decide ((i.bytes : Int) * Int.ofNat cn > 2 ^ 48) || decide (Int.ofNat ln < 0) || decide (Int.ofNat ln > Int.ofNat cn)) = false := by
          simp only [Bool.or_eq_false_iff, decide_eq_false_iff_not]
          exact ⟨⟨⟨hcn0, hlarge cn (Nat.le_refl _)⟩, hln0⟩, hlc⟩
        have run : ∀ w, (Instr.makeSlice t (.int kl (Int.ofNat ln)) (.int kc (Int.ofNat cn))).run P w = (do
            let zs ← (if cn * (n + 1) = 0 then pure #[] else do pure (← zeroValue e).cells : Sem (Array Value))
            pure (.slice (some (← newRow e ((Array.range (cn * (n + 1))).map (zs[· % zs.size]!)))) ln cn) : Sem Value).run P w := by
          intro w
          unfold Instr.makeSlice
          simp only [Sem.run_bind, run_underlying (sliceT_eq ht), Result.andThen_ok, asInt, run_typeInfo (infoI_eq hi), run_asIntOf, Sem.run_pure, wrap_small h2, wrap_small (Nat.le_trans h1 h2), hbad, Bool.false_eq_true, if_false]
          simp only [Sem.run_bind, run_askRoom, Result.andThen_ok, run_sizeOf hn]
          have e1 : (Int.ofNat cn).toNat = cn := rfl
          have e2 : (Int.ofNat ln).toNat = ln := rfl
          simp only [e1, e2]
          split
          · rfl
          · simp only [Sem.run_bind, hzrun, Result.andThen_ok, Sem.run_pure]
        have base : Yields P γ ρ s w (do
            let zs ← (if cn * (n + 1) = 0 then pure #[] else do pure (← zeroValue e).cells : Sem (Array Value))
            pure (.slice (some (← newRow e ((Array.range (cn * (n + 1))).map (zs[· % zs.size]!)))) ln cn) : Sem Value) (.sl s.next 0 ln cn true) (s.new (rowOf (rep cn z.cells) e 0)) := by
          by_cases h0 : cn * (n + 1) = 0
          · obtain ⟨v', w', ρ', hr1, hr2⟩ := fin #[] (.inl ⟨h0, rfl⟩)
            refine ⟨v', w', ρ', ?_, hr2⟩
            rw [Sem.run_bind, if_pos h0]
            exact hr1
          · obtain ⟨v', w', ρ', hr1, hr2⟩ := fin zv.cells (.inr rfl)
            refine ⟨v', w', ρ', ?_, hr2⟩
            rw [Sem.run_bind, if_neg h0]
            simp only [Sem.run_bind, hzrun, Result.andThen_ok, Sem.run_pure]
            simpa only [Sem.run_bind, Sem.run_pure] using hr1
        obtain ⟨v', w', ρ', hr1, hr2⟩ := base
        exact ⟨v', w', ρ', (run w).trans hr1, hr2⟩

/- addresses -/
theorem fieldT_eq {t f : Nat} {fd : Field} (h : fieldT P t f = some fd) : ∃ fs, P.underlying t = some (.struct fs) ∧ fs[f]? = some fd := by
  unfold fieldT at h
  split at h
  · rename_i fs hu; exact ⟨fs, undI_eq hu, h⟩
  · cases h
theorem fieldAddr_sim {ρ : Rho} {s s' : St} {w : World} {t f n : Nat} {fd : Field} {x v : IV} {x' : Value} (h : Rel P γ ρ s w) (hf : fieldT P t f = some fd) (hn : size P fd.type = some (n + 1)) (hx : VR ρ γ x x') (hr : addrV fd.offset x s = .ok v s') :
    Yields P γ ρ s w (Instr.fieldAt t x' f) v s' := by
  cases hx <;> (try (simp [addrV, IV.onPtr] at hr; done))
  rename_i b o p hb
  change R.ok (.ptr b (o + fd.offset)) s = .ok v s' at hr
  cases hr
  obtain ⟨fs, hu, hfd⟩ := fieldT_eq hf
  refine Yields.same h ?_ (.ptr b (o + fd.offset) p hb)
  unfold Instr.fieldAt Instr.sureAddr fieldPlace
  simp only [Sem.run_bind, run_underlying hu, Result.andThen_ok, hfd, Sem.run_pure, run_sizeOf hn]
  rw [if_neg (by omega), add_none]
  simp only [Sem.run_pure, Result.andThen_ok, Nat.add_assoc]
theorem field_sim {ρ : Rho} {s s' : St} {w : World} {t f : Nat} {fd : Field} {x v : IV} {x' : Value} (h : Rel P γ ρ s w) (hf : fieldT P t f = some fd) (hx : VR ρ γ x x') (hr : partV P fd.type fd.offset x s = .ok v s') :
    Yields P γ ρ s w (Instr.field t x' f) v s' := by
  cases hx <;> (try (simp [partV] at hr; done))
  rename_i l a hl
  obtain ⟨fs, hu, hfd⟩ := fieldT_eq hf
  simp only [partV] at hr
  cases hp : Eng.part P fd.type l fd.offset with
  | none => rw [hp] at hr; cases hr
  | some q =>
    rw [hp] at hr
    change R.ok q s = .ok v s' at hr
    cases hr
    obtain ⟨v', h1, h2⟩ := part_sim (P := P) (w := w) hl hp
    refine Yields.same h ?_ h2
    unfold Instr.field
    simp only [Sem.run_bind, run_underlying hu, Result.andThen_ok, hfd, asAgg, Sem.run_pure, h1]

theorem index_range {i n : Nat} (h : i < n) : (0 : Int) ≤ Int.ofNat i ∧ Int.ofNat i < (n : Int) := ⟨Int.natCast_nonneg i, Int.ofNat_lt.2 h⟩

theorem atSl_sim {ρ : Rho} {s s' : St} {w : World} {t e sz : Nat} {x i v : IV} {x' i' : Value} (h : Rel P γ ρ s w) (hu : undI P t = some (.slice e)) (hn : size P e = some sz) (hx : VR ρ γ x x') (hi : VR ρ γ i i') (hr : atSl sz x i s = .ok v s') :
    Yields P γ ρ s w (Instr.indexAt t x' i') v s' := by
  cases hi <;> (try (simp [atSl, IV.onInt] at hr; done))
  rename_i k m
  cases m with
  | negSucc m => simp [atSl, IV.onInt] at hr
  | ofNat m =>
    have hx0 := hx
    cases x <;> (try (simp [atSl, IV.onInt, IV.onSl] at hr; done))
    rename_i b o n c ex
    change Bool.rec (motive := fun _ => R) .no (.ok (.ptr b (o + m * sz)) s) (Nat.ble (m + 1) n) = .ok v s' at hr
    cases hb : Nat.ble (m + 1) n with
    | false => rw [hb] at hr; cases hr
    | true =>
      rw [hb] at hr; cases hr
      have hlt := Nat.le_of_ble_eq_true hb
      obtain ⟨p, off, c', hb, rfl, hoff, _⟩ := hx.sl_inv
      have : off = p.shift + o := hoff.resolve_left (by omega)
      subst this
      refine Yields.same h ?_ (.ptr b (o + m * sz) p hb)
      unfold Instr.indexAt
      simp only [Sem.run_bind, run_asIntOf, run_underlying (undI_eq hu), Result.andThen_ok, Sem.run_pure]
      rw [if_pos (index_range hlt)]
      simp only [Sem.run_bind, run_sizeOf hn, Result.andThen_ok, Sem.run_pure, add_none]
      simp [Nat.add_assoc]

theorem atArr_sim {ρ : Rho} {s s' : St} {w : World} {t n e sz : Nat} {x i v : IV} {x' i' : Value} (h : Rel P γ ρ s w) (hu : undI P t = some (.array n e)) (hn : size P e = some sz) (hx : VR ρ γ x x') (hi : VR ρ γ i i') (hr : atArr n sz x i.nat s = .ok v s') :
    Yields P γ ρ s w (Instr.indexAt t x' i') v s' := by
  cases hin : i.nat with
  | none => simp [atArr, hin] at hr
  | some m =>
    obtain ⟨k, rfl⟩ := nat_inv hi hin
    rw [hin] at hr
    cases hx <;> (try (simp [atArr] at hr; done))
    rename_i b o p hb
    simp only [atArr] at hr
    cases hbl : Nat.blt m n with
    | false => rw [hbl] at hr; cases hr
    | true =>
      rw [hbl] at hr; cases hr
      have hlt : m < n := by simpa [Nat.blt_eq] using hbl
      refine Yields.same h ?_ (.ptr b (o + m * sz) p hb)
      unfold Instr.indexAt
      simp only [Sem.run_bind, run_asIntOf, run_underlying (undI_eq hu), Result.andThen_ok, Instr.sureAddr, Sem.run_pure]
      rw [if_pos (index_range hlt)]
      simp only [Sem.run_bind, run_sizeOf hn, Result.andThen_ok, Sem.run_pure, add_none]
      simp [Nat.add_assoc]

theorem atStr_sim {ρ : Rho} {s s' : St} {w : World} {t : Nat} {x i v : IV} {x' i' : Value} (h : Rel P γ ρ s w) (hu : undI P t = some .string) (hx : VR ρ γ x x') (hi : VR ρ γ i i') (hr : atStr x i.nat s = .ok v s') :
    Yields P γ ρ s w (Instr.index t x' i') v s' := by
  cases hin : i.nat with
  | none => simp [atStr, hin] at hr
  | some m =>
    obtain ⟨k, rfl⟩ := nat_inv hi hin
    rw [hin] at hr
    cases hx <;> (try (simp [atStr] at hr; done))
    · rename_i bs l hl
      simp only [atStr] at hr
      rw [nth_eq] at hr
      cases hg : l[m]? with
      | none => rw [hg] at hr; cases hr
      | some c =>
        rw [hg] at hr; cases hr
        subst hl
        rw [List.getElem?_map] at hg
        cases hq : bs.data.toList[m]? with
        | none => rw [hq] at hg; cases hg
        | some b =>
          rw [hq] at hg; cases hg
          have hlt : m < bs.size := by
            have := (List.getElem?_eq_some_iff.1 hq).1
            simpa using this
          refine Yields.same h (v' := .int .u8 b.toNat) ?_ (.int _ _)
          unfold Instr.index
          simp only [Sem.run_bind, run_asIntOf, run_underlying (undI_eq hu), Result.andThen_ok]
          have h0 : (0 : Int) ≤ Int.ofNat m := Int.natCast_nonneg m
          simp only [if_pos h0]
          have hbm : bs[(Int.ofNat m).toNat]? = some b := by
            show bs[m]? = some b
            rw [getElem?_pos bs m hlt]
            have : bs.data.toList[m]? = some bs[m] := by
              have hlt' : m < bs.data.toList.length := by simpa using hlt
              rw [List.getElem?_eq_getElem hlt']
              rfl
            rw [hq] at this
            exact this.symm
          rw [hbm]
          rfl
    · rename_i bs l hl hcs
      simp only [atStr] at hr
      rw [nth_eq] at hr
      cases hg : l[m]? with
      | none => rw [hg] at hr; cases hr
      | some c =>
        rw [hg] at hr; cases hr
        have hg2 : (l.map (den γ))[m]? = some (den γ c) := by rw [List.getElem?_map, hg]; rfl
        rw [← hl, List.getElem?_map] at hg2
        cases hq : bs.data.toList[m]? with
        | none => rw [hq] at hg2; cases hg2
        | some b =>
          rw [hq] at hg2
          have hbn : b.toNat = den γ c := Option.some.inj hg2
          have hlt : m < bs.size := by
            have := (List.getElem?_eq_some_iff.1 hq).1
            simpa using this
          refine Yields.same h (v' := .int .u8 b.toNat) ?_ (codeI_sim (hcs c (List.mem_of_getElem? hg)) hbn)
          unfold Instr.index
          simp only [Sem.run_bind, run_asIntOf, run_underlying (undI_eq hu), Result.andThen_ok]
          have h0 : (0 : Int) ≤ Int.ofNat m := Int.natCast_nonneg m
          simp only [if_pos h0]
          have hbm : bs[(Int.ofNat m).toNat]? = some b := by
            show bs[m]? = some b
            rw [getElem?_pos bs m hlt]
            have : bs.data.toList[m]? = some bs[m] := by
              have hlt' : m < bs.data.toList.length := by simpa using hlt
              rw [List.getElem?_eq_getElem hlt']
              rfl
            rw [hq] at this
            exact this.symm
          rw [hbm]
          rfl

theorem atAgg_sim {ρ : Rho} {s s' : St} {w : World} {t n e sz : Nat} {x i v : IV} {x' i' : Value} (h : Rel P γ ρ s w) (hu : undI P t = some (.array n e)) (hn : size P e = some sz) (hx : VR ρ γ x x') (hi : VR ρ γ i i') (hr : atAgg P n e sz x i.nat s = .ok v s') :
    Yields P γ ρ s w (Instr.index t x' i') v s' := by
  cases hin : i.nat with
  | none => simp [atAgg, hin] at hr
  | some m =>
    obtain ⟨k, rfl⟩ := nat_inv hi hin
    rw [hin] at hr
    cases hx <;> (try (simp [atAgg] at hr; done))
    rename_i l a hl
    simp only [atAgg] at hr
    cases hbl : Nat.blt m n with
    | false => rw [hbl] at hr; cases hr
    | true =>
      rw [hbl] at hr
      have hlt : m < n := by simpa [Nat.blt_eq] using hbl
      cases hp : Eng.part P e l (m * sz) with
      | none => simp only [Nat.mul_eq] at hr; rw [hp] at hr; cases hr
      | some q =>
        simp only [Nat.mul_eq] at hr
        rw [hp] at hr
        change R.ok q s = .ok v s' at hr
        cases hr
        obtain ⟨v', h1, h2⟩ := part_sim (P := P) (w := w) hl hp
        refine Yields.same h ?_ h2
        unfold Instr.index
        simp only [Sem.run_bind, run_asIntOf, run_underlying (undI_eq hu), Result.andThen_ok]
        rw [if_pos (index_range hlt)]
        simp only [Sem.run_bind, run_sizeOf hn, Result.andThen_ok]
        exact h1
end Go.Eng
