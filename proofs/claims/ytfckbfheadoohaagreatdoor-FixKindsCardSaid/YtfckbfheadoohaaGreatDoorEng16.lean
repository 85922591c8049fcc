/- A part of the proof: an interpreter of the program, shown right once, and the laws that it computes. -/
import Derived.Test.YtfckbfheadoohaaGreatDoorEng13
set_option linter.constructorNameAsVariable false
set_option linter.unusedVariables false
set_option linter.unusedSimpArgs false
namespace Go.Eng
variable {P : Program} {γ : Gam}

theorem sliceT_eq {t e : Nat} (h : sliceT P t = some e) : P.underlying t = some (.slice e) := by
  unfold sliceT at h
  split at h
  · rename_i hu; cases h; exact undI_eq hu
  · cases h
theorem mapT_eq {t k e : Nat} (h : mapT P t = some (k, e)) : P.underlying t = some (.map k e) := by
  unfold mapT at h
  split at h
  · rename_i hu; cases h; exact undI_eq hu
  · cases h
theorem bytesT_eq {e : Nat} {i : TypeInfo} (h : infoI P e = some i) : bytesT P e = i.bytes := by unfold bytesT; rw [h]
theorem info_of_size {e n : Nat} (h : size P e = some n) : ∃ i, infoI P e = some i ∧ i.size = n := by
  unfold size at h
  cases hi : infoI P e with
  | none => simp [hi] at h
  | some i => simp [hi] at h; exact ⟨i, rfl, h⟩

theorem wrap_small {n : Nat} (h : n ≤ top64) : IntKind.i64.wrap (Int.ofNat n) = Int.ofNat n := by
  rw [← wrap64I_eq]
  show Bool.rec (motive := fun _ => Int) _ (Int.ofNat n) (Nat.ble n top64) = _
  rw [Nat.ble_eq_true_of_le h]

theorem makeSlice_sim {ρ : Rho} {s s' : St} {w : World} {t e n : Nat} {z l c v : IV} {l' c' : Value} (h : Rel P γ ρ s w) (ht : sliceT P t = some e) (hz : zero P e = some z) (hn : size P e = some (n + 1)) (hzl : z.cells.length = n + 1)
    (hl : VR ρ γ l l') (hc : VR ρ γ c c') (hr : makeSl' e (bytesT P e) z.cells l c s = .ok v s') : Yields P γ ρ s w (Instr.makeSlice t l' c') v s' := by
  unfold makeSl' at hr
  cases hln : l.nat with
  | none => simp [hln] at hr
  | some ln =>
    cases hcn : c.nat with
    | none => simp [hln, hcn] at hr
    | some cn =>
      simp only [hln, hcn] at hr
      obtain ⟨kl, rfl⟩ := nat_inv hl hln
      obtain ⟨kc, rfl⟩ := nat_inv hc hcn
      unfold makeSl at hr
      cases hb : Nat.ble ln cn && small cn (bytesT P e) && Nat.ble cn top64 with
      | false => simp [hb] at hr
      | true =>
        simp only [hb] at hr
        injection hr with hv hs
        subst hv hs
        simp only [Bool.and_eq_true] at hb
        have h1 := Nat.le_of_ble_eq_true hb.1.1
        have h2 := Nat.le_of_ble_eq_true hb.2
        have h3 := Nat.le_of_ble_eq_true hb.1.2
        obtain ⟨i, hi, hin⟩ := info_of_size hn
        rw [bytesT_eq hi] at h3
        obtain ⟨zv, hzv, hzrun⟩ := run_zeroValue hz
        have hzr := (VR.ofValue (ρ := ρ) (γ := γ) hzv).cells
        have hzs : zv.cells.size = n + 1 := by have := hzr.length; simp at this; omega
        have hlarge : ∀ m : Nat, m ≤ cn → ¬ ((i.bytes : Int) * (Int.ofNat m) > 2 ^ 48) := by
          intro m hm
          have hmul : i.bytes * m ≤ 2 ^ 48 := by
            have : i.bytes * m ≤ (4 * cn + 4000) * i.bytes := by
              rw [Nat.mul_comm]; exact Nat.mul_le_mul_right _ (by omega)
            omega
          have : (i.bytes : Int) * (Int.ofNat m) = ((i.bytes * m : Nat) : Int) := by simp
          rw [this]
          have e48 : (2 : Int) ^ 48 = ((2 ^ 48 : Nat) : Int) := by decide
          rw [e48]
          omega
        have hrow : VRs ρ γ (rep cn z.cells) ((Array.range (cn * (n + 1))).map (zv.cells[· % zv.cells.size]!)).toList := rep_sim hzr (by rw [hzs])
        have key : ∀ zs : Array Value, (cn * (n + 1) = 0 ∧ zs = #[] ∨ zs = zv.cells) → VRs ρ γ (rep cn z.cells) ((Array.range (cn * (n + 1))).map (zs[· % zs.size]!)).toList := by
          intro zs hzs'
          rcases hzs' with ⟨h0, rfl⟩ | rfl
          · have : rep cn z.cells = [] := List.length_eq_zero_iff.1 (by rw [length_rep, hzl, h0])
            rw [this, h0]; simpa using VRs.nil
          · exact hrow
        have fin : ∀ zs : Array Value, (cn * (n + 1) = 0 ∧ zs = #[] ∨ zs = zv.cells) → Yields P γ ρ s w (do pure (.slice (some (← newRow e ((Array.range (cn * (n + 1))).map (zs[· % zs.size]!)))) ln cn)) (.sl s.next 0 ln cn true) (s.new (rowOf (rep cn z.cells) e 0)) :=
          fun zs hzs' => newRow_val h (key zs hzs') hn rfl
        have hcn0 : ¬ (Int.ofNat cn < 0) := by simp
        have hln0 : ¬ (Int.ofNat ln < 0) := by simp
        have hlc : ¬ (Int.ofNat ln > Int.ofNat cn) := by simpa using h1
        have hbad : (decide (Int.ofNat cn < 0) || decide ((i.bytes : Int) * Int.ofNat cn > 2 ^ 48) || decide (Int.ofNat ln < 0) || decide (Int.ofNat ln > Int.ofNat cn)) = false := by
          simp only [Bool.or_eq_false_iff, decide_eq_false_iff_not]
          exact ⟨⟨⟨hcn0, hlarge cn (Nat.le_refl _)⟩, hln0⟩, hlc⟩
        have run : ∀ w, (Instr.makeSlice t (.int kl (Int.ofNat ln)) (.int kc (Int.ofNat cn))).run P w = (do
            let zs ← (if cn * (n + 1) = 0 then pure #[] else do pure (← zeroValue e).cells : Sem (Array Value))
            pure (.slice (some (← newRow e ((Array.range (cn * (n + 1))).map (zs[· % zs.size]!)))) ln cn) : Sem Value).run P w := by
          intro w
          unfold Instr.makeSlice
          simp only [Sem.run_bind, run_underlying (sliceT_eq ht), Result.andThen_ok, asInt, run_typeInfo (infoI_eq hi), run_asIntOf, Sem.run_pure, wrap_small h2, wrap_small (Nat.le_trans h1 h2), hbad, Bool.false_eq_true, if_false]
          simp only [Sem.run_bind, run_askRoom, Result.andThen_ok, run_sizeOf hn]
          have e1 : (Int.ofNat cn).toNat = cn := rfl
          have e2 : (Int.ofNat ln).toNat = ln := rfl
          simp only [e1, e2]
          split
          · rfl
          · simp only [Sem.run_bind, hzrun, Result.andThen_ok, Sem.run_pure]
        have base : Yields P γ ρ s w (do
            let zs ← (if cn * (n + 1) = 0 then pure #[] else do pure (← zeroValue e).cells : Sem (Array Value))
            pure (.slice (some (← newRow e ((Array.range (cn * (n + 1))).map (zs[· % zs.size]!)))) ln cn) : Sem Value) (.sl s.next 0 ln cn true) (s.new (rowOf (rep cn z.cells) e 0)) := by
          by_cases h0 : cn * (n + 1) = 0
          · obtain ⟨v', w', ρ', hr1, hr2⟩ := fin #[] (.inl ⟨h0, rfl⟩)
            refine ⟨v', w', ρ', ?_, hr2⟩
            rw [Sem.run_bind, if_pos h0]
            exact hr1
          · obtain ⟨v', w', ρ', hr1, hr2⟩ := fin zv.cells (.inr rfl)
            refine ⟨v', w', ρ', ?_, hr2⟩
            rw [Sem.run_bind, if_neg h0]
            simp only [Sem.run_bind, hzrun, Result.andThen_ok, Sem.run_pure]
            simpa only [Sem.run_bind, Sem.run_pure] using hr1
        obtain ⟨v', w', ρ', hr1, hr2⟩ := base
        exact ⟨v', w', ρ', (run w).trans hr1, hr2⟩

/- addresses -/
theorem fieldT_eq {t f : Nat} {fd : Field} (h : fieldT P t f = some fd) : ∃ fs, P.underlying t = some (.struct fs) ∧ fs[f]? = some fd := by
  unfold fieldT at h
  split at h
  · rename_i fs hu; exact ⟨fs, undI_eq hu, h⟩
  · cases h
theorem fieldAddr_sim {ρ : Rho} {s s' : St} {w : World} {t f n : Nat} {fd : Field} {x v : IV} {x' : Value} (h : Rel P γ ρ s w) (hf : fieldT P t f = some fd) (hn : size P fd.type = some (n + 1)) (hx : VR ρ γ x x') (hr : addrV fd.offset x s = .ok v s') :
    Yields P γ ρ s w (Instr.fieldAt t x' f) v s' := by
  cases hx <;> (try (simp [addrV, IV.onPtr] at hr; done))
  rename_i b o p hb
  change R.ok (.ptr b (o + fd.offset)) s = .ok v s' at hr
  cases hr
  obtain ⟨fs, hu, hfd⟩ := fieldT_eq hf
  refine Yields.same h ?_ (.ptr b (o + fd.offset) p hb)
  unfold Instr.fieldAt Instr.sureAddr fieldPlace
  simp only [Sem.run_bind, run_underlying hu, Result.andThen_ok, hfd, Sem.run_pure, run_sizeOf hn]
  rw [if_neg (by omega), add_none]
  simp only [Sem.run_pure, Result.andThen_ok, Nat.add_assoc]
theorem field_sim {ρ : Rho} {s s' : St} {w : World} {t f : Nat} {fd : Field} {x v : IV} {x' : Value} (h : Rel P γ ρ s w) (hf : fieldT P t f = some fd) (hx : VR ρ γ x x') (hr : partV P fd.type fd.offset x s = .ok v s') :
    Yields P γ ρ s w (Instr.field t x' f) v s' := by
  cases hx <;> (try (simp [partV] at hr; done))
  rename_i l a hl
  obtain ⟨fs, hu, hfd⟩ := fieldT_eq hf
  simp only [partV] at hr
  cases hp : Eng.part P fd.type l fd.offset with
  | none => rw [hp] at hr; cases hr
  | some q =>
    rw [hp] at hr
    change R.ok q s = .ok v s' at hr
    cases hr
    obtain ⟨v', h1, h2⟩ := part_sim (P := P) (w := w) hl hp
    refine Yields.same h ?_ h2
    unfold Instr.field
    simp only [Sem.run_bind, run_underlying hu, Result.andThen_ok, hfd, asAgg, Sem.run_pure, h1]

theorem index_range {i n : Nat} (h : i < n) : (0 : Int) ≤ Int.ofNat i ∧ Int.ofNat i < (n : Int) := ⟨Int.natCast_nonneg i, Int.ofNat_lt.2 h⟩

theorem atSl_sim {ρ : Rho} {s s' : St} {w : World} {t e sz : Nat} {x i v : IV} {x' i' : Value} (h : Rel P γ ρ s w) (hu : undI P t = some (.slice e)) (hn : size P e = some sz) (hx : VR ρ γ x x') (hi : VR ρ γ i i') (hr : atSl sz x i s = .ok v s') :
    Yields P γ ρ s w (Instr.indexAt t x' i') v s' := by
  cases hi <;> (try (simp [atSl, IV.onInt] at hr; done))
  rename_i k m
  cases m with
  | negSucc m => simp [atSl, IV.onInt] at hr
  | ofNat m =>
    have hx0 := hx
    cases x <;> (try (simp [atSl, IV.onInt, IV.onSl] at hr; done))
    rename_i b o n c ex
    change Bool.rec (motive := fun _ => R) .no (.ok (.ptr b (o + m * sz)) s) (Nat.ble (m + 1) n) = .ok v s' at hr
    cases hb : Nat.ble (m + 1) n with
    | false => rw [hb] at hr; cases hr
    | true =>
      rw [hb] at hr; cases hr
      have hlt := Nat.le_of_ble_eq_true hb
      obtain ⟨p, off, c', hb, rfl, hoff, _⟩ := hx.sl_inv
      have : off = p.shift + o := hoff.resolve_left (by omega)
      subst this
      refine Yields.same h ?_ (.ptr b (o + m * sz) p hb)
      unfold Instr.indexAt
      simp only [Sem.run_bind, run_asIntOf, run_underlying (undI_eq hu), Result.andThen_ok, Sem.run_pure]
      rw [if_pos (index_range hlt)]
      simp only [Sem.run_bind, run_sizeOf hn, Result.andThen_ok, Sem.run_pure, add_none]
      simp [Nat.add_assoc]

theorem atArr_sim {ρ : Rho} {s s' : St} {w : World} {t n e sz : Nat} {x i v : IV} {x' i' : Value} (h : Rel P γ ρ s w) (hu : undI P t = some (.array n e)) (hn : size P e = some sz) (hx : VR ρ γ x x') (hi : VR ρ γ i i') (hr : atArr n sz x i.nat s = .ok v s') :
    Yields P γ ρ s w (Instr.indexAt t x' i') v s' := by
  cases hin : i.nat with
  | none => simp [atArr, hin] at hr
  | some m =>
    obtain ⟨k, rfl⟩ := nat_inv hi hin
    rw [hin] at hr
    cases hx <;> (try (simp [atArr] at hr; done))
    rename_i b o p hb
    simp only [atArr] at hr
    cases hbl : Nat.blt m n with
    | false => rw [hbl] at hr; cases hr
    | true =>
      rw [hbl] at hr; cases hr
      have hlt : m < n := by simpa [Nat.blt_eq] using hbl
      refine Yields.same h ?_ (.ptr b (o + m * sz) p hb)
      unfold Instr.indexAt
      simp only [Sem.run_bind, run_asIntOf, run_underlying (undI_eq hu), Result.andThen_ok, Instr.sureAddr, Sem.run_pure]
      rw [if_pos (index_range hlt)]
      simp only [Sem.run_bind, run_sizeOf hn, Result.andThen_ok, Sem.run_pure, add_none]
      simp [Nat.add_assoc]

theorem atStr_sim {ρ : Rho} {s s' : St} {w : World} {t : Nat} {x i v : IV} {x' i' : Value} (h : Rel P γ ρ s w) (hu : undI P t = some .string) (hx : VR ρ γ x x') (hi : VR ρ γ i i') (hr : atStr x i.nat s = .ok v s') :
    Yields P γ ρ s w (Instr.index t x' i') v s' := by
  cases hin : i.nat with
  | none => simp [atStr, hin] at hr
  | some m =>
    obtain ⟨k, rfl⟩ := nat_inv hi hin
    rw [hin] at hr
    cases hx <;> (try (simp [atStr] at hr; done))
    · rename_i bs l hl
      simp only [atStr] at hr
      rw [nth_eq] at hr
      cases hg : l[m]? with
      | none => rw [hg] at hr; cases hr
      | some c =>
        rw [hg] at hr; cases hr
        subst hl
        rw [List.getElem?_map] at hg
        cases hq : bs.data.toList[m]? with
        | none => rw [hq] at hg; cases hg
        | some b =>
          rw [hq] at hg; cases hg
          have hlt : m < bs.size := by
            have := (List.getElem?_eq_some_iff.1 hq).1
            simpa using this
          refine Yields.same h (v' := .int .u8 b.toNat) ?_ (.int _ _)
          unfold Instr.index
          simp only [Sem.run_bind, run_asIntOf, run_underlying (undI_eq hu), Result.andThen_ok]
          have h0 : (0 : Int) ≤ Int.ofNat m := Int.natCast_nonneg m
          simp only [if_pos h0]
          have hbm : bs[(Int.ofNat m).toNat]? = some b := by
            show bs[m]? = some b
            rw [getElem?_pos bs m hlt]
            have : bs.data.toList[m]? = some bs[m] := by
              have hlt' : m < bs.data.toList.length := by simpa using hlt
              rw [List.getElem?_eq_getElem hlt']
              rfl
            rw [hq] at this
            exact this.symm
          rw [hbm]
          rfl
    · rename_i bs l hl hcs
      simp only [atStr] at hr
      rw [nth_eq] at hr
      cases hg : l[m]? with
      | none => rw [hg] at hr; cases hr
      | some c =>
        rw [hg] at hr; cases hr
        have hg2 : (l.map (den γ))[m]? = some (den γ c) := by rw [List.getElem?_map, hg]; rfl
        rw [← hl, List.getElem?_map] at hg2
        cases hq : bs.data.toList[m]? with
        | none => rw [hq] at hg2; cases hg2
        | some b =>
          rw [hq] at hg2
          have hbn : b.toNat = den γ c := Option.some.inj hg2
          have hlt : m < bs.size := by
            have := (List.getElem?_eq_some_iff.1 hq).1
            simpa using this
          refine Yields.same h (v' := .int .u8 b.toNat) ?_ (codeI_sim (hcs c (List.mem_of_getElem? hg)) hbn)
          unfold Instr.index
          simp only [Sem.run_bind, run_asIntOf, run_underlying (undI_eq hu), Result.andThen_ok]
          have h0 : (0 : Int) ≤ Int.ofNat m := Int.natCast_nonneg m
          simp only [if_pos h0]
          have hbm : bs[(Int.ofNat m).toNat]? = some b := by
            show bs[m]? = some b
            rw [getElem?_pos bs m hlt]
            have : bs.data.toList[m]? = some bs[m] := by
              have hlt' : m < bs.data.toList.length := by simpa using hlt
              rw [List.getElem?_eq_getElem hlt']
              rfl
            rw [hq] at this
            exact this.symm
          rw [hbm]
          rfl

theorem atAgg_sim {ρ : Rho} {s s' : St} {w : World} {t n e sz : Nat} {x i v : IV} {x' i' : Value} (h : Rel P γ ρ s w) (hu : undI P t = some (.array n e)) (hn : size P e = some sz) (hx : VR ρ γ x x') (hi : VR ρ γ i i') (hr : atAgg P n e sz x i.nat s = .ok v s') :
    Yields P γ ρ s w (Instr.index t x' i') v s' := by
  cases hin : i.nat with
  | none => simp [atAgg, hin] at hr
  | some m =>
    obtain ⟨k, rfl⟩ := nat_inv hi hin
    rw [hin] at hr
    cases hx <;> (try (simp [atAgg] at hr; done))
    rename_i l a hl
    simp only [atAgg] at hr
    cases hbl : Nat.blt m n with
    | false => rw [hbl] at hr; cases hr
    | true =>
      rw [hbl] at hr
      have hlt : m < n := by simpa [Nat.blt_eq] using hbl
      cases hp : Eng.part P e l (m * sz) with
      | none => simp only [Nat.mul_eq] at hr; rw [hp] at hr; cases hr
      | some q =>
        simp only [Nat.mul_eq] at hr
        rw [hp] at hr
        change R.ok q s = .ok v s' at hr
        cases hr
        obtain ⟨v', h1, h2⟩ := part_sim (P := P) (w := w) hl hp
        refine Yields.same h ?_ h2
        unfold Instr.index
        simp only [Sem.run_bind, run_asIntOf, run_underlying (undI_eq hu), Result.andThen_ok]
        rw [if_pos (index_range hlt)]
        simp only [Sem.run_bind, run_sizeOf hn, Result.andThen_ok]
        exact h1
end Go.Eng

set_option linter.constructorNameAsVariable false
set_option linter.unusedVariables false
set_option linter.unusedSimpArgs false
namespace Go.Eng
variable {P : Program} {γ : Gam}

theorem zero_rel {ρ : Rho} {t : Nat} {z : IV} (h : zero P t = some z) : ∃ v, (∀ w, (zeroValue t).run P w = .ok v w) ∧ VR ρ γ z v := by
  obtain ⟨v, hv, hrun⟩ := run_zeroValue h
  exact ⟨v, hrun, VR.ofValue hv⟩

theorem pair_rel {ρ : Rho} {a : IV} {a' : Value} {b : Bool} (h : VR ρ γ a a') : VR ρ γ (.tup [a, .bool b]) (.tuple #[a', .bool b]) :=
  .tup _ _ (.cons _ _ _ _ h (.cons _ _ _ _ (.bool b) .nil))

theorem holds_rel {ρ : Rho} {a : IV} {a' : Value} {ok : Bool} (h : VR ρ γ a a') : VR ρ γ (holdsI ok a) (if ok = true then .tuple #[a', .bool true] else a') := by
  cases ok
  · exact h
  · exact pair_rel h

theorem assertI_sim {ρ : Rho} {s : St} {w : World} {t xt : Nat} {ok : Bool} {want : Array (String × TypeId)} {x v : IV} {x' : Value} (h : Rel P γ ρ s w) (hu : undI P t = some (.interface want)) (hx : VR ρ γ x x') (hr : assertI P t ok want x = some v) :
    Yields P γ ρ s w (Instr.typeAssert x' xt t ok) v s := by
  unfold assertI at hr
  have fails : ∀ {q : IV}, failsI P t ok = some q → ∃ z', ok = true ∧ (∀ w, (zeroValue t).run P w = .ok z' w) ∧ VR ρ γ q (.tuple #[z', .bool false]) := by
    intro q hq
    unfold failsI at hq
    cases ok with
    | false => cases hq
    | true =>
      cases hz : zero P t with
      | none => simp [hz] at hq
      | some z =>
        simp [hz] at hq; subst hq
        obtain ⟨z', h1, h2⟩ := zero_rel (ρ := ρ) (γ := γ) hz
        exact ⟨z', rfl, h1, pair_rel h2⟩
  cases hx <;> simp only at hr <;> (try (cases hr; done))
  · obtain ⟨z', rfl, h1, h2⟩ := fails hr
    refine Yields.same h ?_ h2
    unfold Instr.typeAssert
    simp only [Sem.run_bind, run_underlying (undI_eq hu), Result.andThen_ok, if_true, h1, Sem.run_pure]
  · rename_i d y y' hy
    unfold meets at hr
    cases hi : infoI P d with
    | none => simp [hi] at hr
    | some i =>
      simp only [hi] at hr
      cases hm : Instr.missingMethod want i.methods with
      | none =>
        simp only [hm] at hr; cases hr
        refine Yields.same h ?_ (holds_rel (.iface d y y' hy))
        unfold Instr.typeAssert
        simp only [Sem.run_bind, run_underlying (undI_eq hu), Result.andThen_ok, run_typeInfo (infoI_eq hi), hm, Sem.run_pure]
      | some q =>
        simp only [hm] at hr
        obtain ⟨z', rfl, h1, h2⟩ := fails hr
        refine Yields.same h ?_ h2
        unfold Instr.typeAssert
        simp only [Sem.run_bind, run_underlying (undI_eq hu), Result.andThen_ok, run_typeInfo (infoI_eq hi), hm, if_true, h1, Sem.run_pure]

theorem assertC_sim {ρ : Rho} {s : St} {w : World} {t xt : Nat} {ok : Bool} {u : TypeDesc} {x v : IV} {x' : Value} (h : Rel P γ ρ s w) (hu : undI P t = some u) (hni : ∀ ms, u ≠ .interface ms) (hx : VR ρ γ x x') (hr : assertC P t ok x = some v) :
    Yields P γ ρ s w (Instr.typeAssert x' xt t ok) v s := by
  unfold assertC at hr
  have fails : ∀ {q : IV}, failsI P t ok = some q → ∃ z', ok = true ∧ (∀ w, (zeroValue t).run P w = .ok z' w) ∧ VR ρ γ q (.tuple #[z', .bool false]) := by
    intro q hq
    unfold failsI at hq
    cases ok with
    | false => cases hq
    | true =>
      cases hz : zero P t with
      | none => simp [hz] at hq
      | some z =>
        simp [hz] at hq; subst hq
        obtain ⟨z', h1, h2⟩ := zero_rel (ρ := ρ) (γ := γ) hz
        exact ⟨z', rfl, h1, pair_rel h2⟩
  cases hx <;> simp only at hr <;> (try (cases hr; done))
  · obtain ⟨z', rfl, h1, h2⟩ := fails hr
    refine Yields.same h ?_ h2
    unfold Instr.typeAssert
    simp only [Sem.run_bind, run_underlying (undI_eq hu), Result.andThen_ok]
    cases u <;> first
      | exact absurd rfl (hni _)
      | simp only [if_true, Sem.run_bind, h1, Result.andThen_ok, Sem.run_pure]
  · rename_i d y y' hy
    cases hb : Nat.beq d t with
    | true =>
      have := Nat.eq_of_beq_eq_true hb
      subst this
      simp only [hb] at hr; cases hr
      refine Yields.same h ?_ (holds_rel hy)
      unfold Instr.typeAssert
      simp only [Sem.run_bind, run_underlying (undI_eq hu), Result.andThen_ok]
      cases u <;> first
        | exact absurd rfl (hni _)
        | simp only [if_true, Sem.run_pure]
    | false =>
      simp only [hb] at hr
      have hne : ¬ d = t := fun e => by subst e; simp at hb
      obtain ⟨z', rfl, h1, h2⟩ := fails hr
      refine Yields.same h ?_ h2
      unfold Instr.typeAssert
      simp only [Sem.run_bind, run_underlying (undI_eq hu), Result.andThen_ok]
      cases u <;> first
        | exact absurd rfl (hni _)
        | simp only [if_neg hne, if_true, Sem.run_bind, h1, Result.andThen_ok, Sem.run_pure]

theorem extract_sim {ρ : Rho} {s s' : St} {w : World} {i : Nat} {x v : IV} {x' : Value} (h : Rel P γ ρ s w) (hx : VR ρ γ x x') (hr : extrV i x s = .ok v s') : Yields P γ ρ s w (Instr.extract x' i) v s' := by
  cases hx <;> (try (simp [extrV] at hr; done))
  rename_i l a hl
  simp only [extrV] at hr
  cases hn : Eng.nth l i with
  | none => rw [hn] at hr; cases hr
  | some q =>
    rw [hn] at hr
    change R.ok q s = .ok v s' at hr
    cases hr
    obtain ⟨v', h1, h2⟩ := hl.nth hn
    refine Yields.same h ?_ h2
    unfold Instr.extract
    have : a[i]? = some v' := by simpa using h1
    simp only [this, Sem.run_pure]

/- builtins -/
theorem argT_eq {ts : Array TypeId} {i : Nat} {d : TypeDesc} (h : argT P ts i = some d) : ∃ t, ts[i]? = some t ∧ P.underlying t = some d := by
  unfold argT at h
  split at h
  · rename_i t ht; exact ⟨t, ht, undI_eq h⟩
  · cases h

theorem lenStr_sim {ρ : Rho} {s s' : St} {w : World} {ts : Array TypeId} {rt : TypeId} {x v : IV} {x' : Value} (h : Rel P γ ρ s w) (hd : argT P ts 0 = some .string) (hx : VR ρ γ x x') (hr : lenStr x s = .ok v s') :
    Yields P γ ρ s w (Builtin.len_ ts rt #[x']) v s' := by
  obtain ⟨t, ht, hu⟩ := argT_eq hd
  cases hx <;> (try (simp [lenStr] at hr; done))
  · rename_i bs l hl
    simp only [lenStr] at hr; cases hr
    refine Yields.same h (v' := goInt bs.size) ?_ ?_
    · unfold Builtin.len_
      simp only [ht, List.getElem?_toArray, List.getElem?_cons_zero, Sem.run_bind, run_underlying hu, Result.andThen_ok, Sem.run_pure]
    · subst hl
      have : (bs.data.toList.map UInt8.toNat).length = bs.size := by simp
      rw [this]; exact .int _ _
  · rename_i bs l hl hcs
    simp only [lenStr] at hr; cases hr
    refine Yields.same h (v' := goInt bs.size) ?_ ?_
    · unfold Builtin.len_
      simp only [ht, List.getElem?_toArray, List.getElem?_cons_zero, Sem.run_bind, run_underlying hu, Result.andThen_ok, Sem.run_pure]
    · have : l.length = bs.size := by have := congrArg List.length hl; simpa using this.symm
      rw [this]; exact .int _ _

theorem lenSl_sim {ρ : Rho} {s s' : St} {w : World} {ts : Array TypeId} {rt : TypeId} {x v : IV} {x' : Value} (h : Rel P γ ρ s w) (hd : ∃ e, argT P ts 0 = some (.slice e)) (hx : VR ρ γ x x') (hr : lenSl x s = .ok v s') :
    Yields P γ ρ s w (Builtin.len_ ts rt #[x']) v s' := by
  obtain ⟨e, hd⟩ := hd
  obtain ⟨t, ht, hu⟩ := argT_eq hd
  cases hx <;> (try (simp [lenSl] at hr; done)) <;>
  · simp only [lenSl] at hr; cases hr
    refine Yields.same h ?_ (.int _ _)
    unfold Builtin.len_
    simp only [ht, List.getElem?_toArray, List.getElem?_cons_zero, Sem.run_bind, run_underlying hu, Result.andThen_ok, Sem.run_pure]
    rfl

theorem minI_eq (a b : Int) : minI a b = if b < a then b else a := by
  unfold minI; rw [ltI_eq]; by_cases h : b < a <;> simp [h]
theorem maxI_eq (a b : Int) : maxI a b = if b > a then b else a := by
  unfold maxI; rw [ltI_eq]; by_cases h : a < b <;> simp [h]
theorem min_sim {ρ : Rho} {s s' : St} {w : World} {ts : Array TypeId} {rt : TypeId} {x y v : IV} {x' y' : Value} (h : Rel P γ ρ s w) (hx : VR ρ γ x x') (hy : VR ρ γ y y') (hr : doMinMax minI x y s = .ok v s') : Yields P γ ρ s w (Builtin.min_ ts rt #[x', y']) v s' := by
  cases hx <;> (try (simp [doMinMax] at hr; done))
  cases hy <;> (try (simp [doMinMax] at hr; done))
  rename_i k a k' b
  simp only [doMinMax] at hr
  cases hk : kindEq k k' with
  | false => rw [hk] at hr; cases hr
  | true =>
    rw [hk] at hr; cases hr
    rw [minI_eq]
    exact Yields.same h rfl (.int _ _)
theorem max_sim {ρ : Rho} {s s' : St} {w : World} {ts : Array TypeId} {rt : TypeId} {x y v : IV} {x' y' : Value} (h : Rel P γ ρ s w) (hx : VR ρ γ x x') (hy : VR ρ γ y y') (hr : doMinMax maxI x y s = .ok v s') : Yields P γ ρ s w (Builtin.max_ ts rt #[x', y']) v s' := by
  cases hx <;> (try (simp [doMinMax] at hr; done))
  cases hy <;> (try (simp [doMinMax] at hr; done))
  rename_i k a k' b
  simp only [doMinMax] at hr
  cases hk : kindEq k k' with
  | false => rw [hk] at hr; cases hr
  | true =>
    rw [hk] at hr; cases hr
    rw [maxI_eq]
    exact Yields.same h rfl (.int _ _)

theorem cap_sim {ρ : Rho} {s s' : St} {w : World} {ts : Array TypeId} {rt : TypeId} {x v : IV} {x' : Value} (h : Rel P γ ρ s w) (hd : ∃ e, argT P ts 0 = some (.slice e)) (hx : VR ρ γ x x') (hr : capOf x s = .ok v s') : Yields P γ ρ s w (Builtin.cap_ ts rt #[x']) v s' := by
  obtain ⟨e, hd1⟩ := hd
  obtain ⟨t, ht, hu⟩ := argT_eq hd1
  cases hx <;> (try (simp [capOf] at hr; done))
  · simp only [capOf] at hr; cases hr
    refine Yields.same h ?_ (.int _ _)
    unfold Builtin.cap_
    simp only [ht, List.getElem?_toArray, List.getElem?_cons_zero, Sem.run_bind, run_underlying hu, Result.andThen_ok, Sem.run_pure]
    rfl
  · simp only [capOf] at hr; cases hr
    refine Yields.same h ?_ (.int _ _)
    unfold Builtin.cap_
    simp only [ht, List.getElem?_toArray, List.getElem?_cons_zero, Sem.run_bind, run_underlying hu, Result.andThen_ok, Sem.run_pure]
    rfl

theorem data_sim {ρ : Rho} {s s' : St} {w : World} {ts : Array TypeId} {rt : TypeId} {x v : IV} {x' : Value} (h : Rel P γ ρ s w) (hx : VR ρ γ x x') (hr : doData x s = .ok v s') : Yields P γ ρ s w (Builtin.unsafeSliceData_ ts rt #[x']) v s' := by
  unfold doData at hr
  split at hr <;> (try (cases hr; done))
  · cases hx; cases hr
    exact Yields.same h rfl .nilptr
  · rename_i b o n c ex
    cases hr
    obtain ⟨p, off, c', hb, rfl, hoff, hcc, hex1, hex2⟩ := hx.sl_inv
    have : off = p.shift + o := by
      cases ex with
      | true => exact (hex1 rfl).1
      | false => exact (hex2 rfl).2.1.resolve_right (fun h => by omega)
    subst this
    refine Yields.same h ?_ (.ptr b o p hb)
    have hc0 : c' ≠ 0 := by omega
    have e : Builtin.unsafeSliceData_ ts rt #[.slice (some ⟨p.blk, p.shift + o, none⟩) n c'] = if c' ≠ 0 then pure (.pointer (some ⟨p.blk, p.shift + o, none⟩)) else _ := rfl
    rw [e, if_pos hc0]
    rfl

/- texts, sign by sign -/
theorem range_sim {ρ : Rho} {s s' : St} {w : World} {t : Nat} {x v : IV} {x' : Value} (h : Rel P γ ρ s w) (ht : isStrT P t = true) (hx : VR ρ γ x x') (hr : rangeV x s = .ok v s') : Yields P γ ρ s w (Instr.range t x') v s' := by
  have hu : P.underlying t = some .string := by
    unfold isStrT at ht
    split at ht
    · rename_i hu; exact undI_eq hu
    · cases ht
  have key : ∀ (bs : ByteArray) (l : List Nat), SR γ l bs → Yields P γ ρ s w (Instr.range t (.string bs)) (.ptr s.next 0) (s.new (.siter l 0)) := by
    intro bs l hl
    let p : Pl := ⟨w.heap.size, 0, 0, 0⟩
    obtain ⟨h1, h2⟩ := h.new (p := p) rfl (x := .siter l 0) (o := .stringIter bs 0) (.siter l 0 bs (by simpa using hl.1) hl.2 (Nat.zero_le _) rfl)
    refine ⟨.pointer (some ⟨w.heap.size, 0, none⟩), _, _, ?_, h2, h1, ?_⟩
    · unfold Instr.range
      simp only [Sem.run_bind, run_underlying hu, Result.andThen_ok, Sem.run_pure, run_newObj]
      exact rfl
    · exact VR.ptr (ρ := ρ.with s.next p) (γ := γ) s.next 0 p (Rho.with_self _ _ _)
  cases hx <;> (try (simp [rangeV] at hr; done))
  · rename_i bs l hl
    simp only [rangeV] at hr
    injection hr with hv hs
    subst hv hs
    exact key bs _ (SR.plain hl)
  · rename_i bs l hl hc
    simp only [rangeV] at hr
    injection hr with hv hs
    subst hv hs
    exact key bs l ⟨hl, hc⟩

theorem run_getObj {w : World} {r : Nat} {o : Obj} (h : w.heap[r]? = some o) (hc : ∀ a e f, o ≠ .cells a e f) : (getObj r).run P w = .ok o w := by
  unfold getObj
  simp only [Sem.run, h]

theorem run_setObj {w : World} {r : Nat} {o o' : Obj} (h : w.heap[r]? = some o) (hc : ∀ a e f, o ≠ .cells a e f) : (setObj r o').run P w = .ok () (setRow w r o') := by
  unfold setObj
  simp only [Sem.run, h]
  cases o <;> first
    | exact absurd rfl (hc _ _ _)
    | rfl

/-- A sign of one byte. -/
theorem decode_one {c : Nat} (h : c < 128) (l : List Nat) : decode (c :: l) = (c, 1) := by
  have h0 : byteAt (c :: l) 0 = c := rfl
  unfold decode
  rw [h0]
  have : Nat.blt c 128 = true := by rw [Nat.blt_eq]; exact h
  rw [this]
theorem next_sim {ρ : Rho} {s s' : St} {w : World} {rt : TypeId} {x v : IV} {x' : Value} (h : Rel P γ ρ s w) (hx : VR ρ γ x x') (hr : nextV x s = .ok v s') : Yields P γ ρ s w (Instr.next x' true rt) v s' := by
  cases hx <;> (try (simp [nextV] at hr; done))
  rename_i b o p hb
  simp only [nextV] at hr
  cases o with
  | succ o => cases hr
  | zero =>
    simp only at hr
    cases hg : s.get b with
    | siter l pos =>
      rw [hg] at hr
      obtain ⟨ob, h1, h2⟩ := h.live b p hb (by rw [hg]; exact fun h => h)
      rw [hg] at h2
      cases h2 with
      | siter _ _ bs hl hlc hp hs0 =>
        have hget : (getObj p.blk).run P w = .ok (.stringIter bs pos) w := run_getObj h1 (by intro _ _ _ h; cases h)
        rw [hs0]
        cases l with
        | nil =>
          simp only [nextIn] at hr; cases hr
          have hge : ¬ pos < bs.size := by
            intro hlt
            have : ((bs.data.toList.map UInt8.toNat).drop pos).length = 0 := by rw [hl]; rfl
            simp at this; omega
          refine Yields.same h (v' := .tuple #[.bool false]) ?_ (.tup _ _ (.cons _ _ _ _ (.bool _) .nil))
          unfold Instr.next
          simp only [Sem.run_bind, hget, Result.andThen_ok, if_neg hge, Sem.run_pure]
        | cons c l =>
          simp only [nextIn] at hr
          have hlt : pos < bs.size := by
            rcases Nat.lt_or_ge pos bs.size with hlt | hge
            · exact hlt
            · have : (bs.data.toList.map UInt8.toNat).drop pos = [] := List.drop_eq_nil_of_le (by simpa using hge)
              rw [hl] at this; cases this
          have hlen : (bs.data.toList.map UInt8.toNat).length = bs.size := by
            simp only [List.length_map, Array.length_toList]
            rfl
          -- a sign d of n bytes, the rest r
          have fin : ∀ (d n : Nat) (r : List Nat) (sv : IV), Utf8.decode bs pos = (d, n) → (bs.data.toList.map UInt8.toNat).drop (pos + n) = r.map (den γ) → (∀ c ∈ r, CodeOk γ c) → n ≤ bs.size - pos →
              VR ρ γ sv (.int .i32 (Int.ofNat d)) → Yields P γ ρ s w (Instr.next (.pointer (some ⟨p.blk, 0 + 0, none⟩)) true rt) (.tup [.bool true, .int .i64 (Int.ofNat pos), sv]) (s.put b (.siter r (pos + n))) := by
            intro d n r sv hdec hdr hrc hn hsv
            have hput := h.put (x := .siter r (pos + n)) (o := .stringIter bs (pos + n)) hb (by rw [hg]; exact fun h => h)
              (.siter _ _ _ hdr hrc (by omega) hs0)
            refine ⟨.tuple #[.bool true, goInt pos, .int .i32 (Int.ofNat d)], _, _, ?_, hput.2, hput.1, ?_⟩
            · unfold Instr.next
              simp only [Sem.run_bind, hget, Result.andThen_ok, if_pos hlt, hdec]
              simp only [Sem.run_bind, run_setObj h1 (by intro _ _ _ h; cases h), Result.andThen_ok, Sem.run_pure]
              rfl
            · exact .tup _ _ (.cons _ _ _ _ (.bool _) (.cons _ _ _ _ (.int _ _) (.cons _ _ _ _ hsv .nil)))
          have hdec0 : Utf8.decode bs pos = decode (den γ c :: l.map (den γ)) := by rw [← decode_eq, hl]; rfl
          have hdr1 : (bs.data.toList.map UInt8.toNat).drop (pos + 1) = l.map (den γ) := by rw [← List.drop_drop, hl]; rfl
          unfold nextC at hr
          split at hr
          · rename_i hc
            have hc' : c < 128 := by rw [Nat.blt_eq] at hc; exact hc
            injection hr with hv hs
            subst hv hs
            refine fin c 1 l _ ?_ hdr1 (fun c hc => hlc c (by simp [hc])) (by omega) (.int _ _)
            rw [hdec0, den_small (by omega), decode_one hc']
          · split at hr
            · rename_i hc
              have hc' : 256 ≤ c := by
                rcases Nat.lt_or_ge c 256 with h | h
                · exact absurd hc (by simp [Nat.blt_eq, h])
                · exact h
              have hco : CodeOk γ c := hlc c (by simp)
              rcases hco with h | ⟨_, hc2, n, n1, n2, g1, g2, g3⟩
              · omega
              · injection hr with hv hs
                subst hv hs
                have n3 := hiL_le (c - 256)
                have hden : den γ c = n := by unfold den denL; rw [if_neg (by omega), g1]; simp
                have hk : Nat.add 3000 (Nat.sub c 256) = 3000 + (c - 256) := rfl
                refine fin n 1 l _ ?_ hdr1 (fun c hc => hlc c (by simp [hc])) (by omega) ?_
                · rw [hdec0, hden, decode_one (by omega)]
                · rw [hk]
                  have hm : (3000 + (c - 256)) % 1000 = c - 256 := by omega
                  have := VR.sym (ρ := ρ) (γ := γ) (3000 + (c - 256)) (by rw [g3]; rfl) (by omega) (by omega) (by rw [hm]; exact fun _ _ => ⟨n, n1, n2, g1, g2, g3⟩)
                  rw [g3] at this
                  exact this
            · split at hr <;> (try (cases hr; done))
              rename_i hall
              have hall' : ∀ x ∈ l, x < 256 := fun x hx => by have := (allB_iff _ _).1 hall x hx; rw [Nat.blt_eq] at this; exact this
              rename_i hc _
              have hc' : c < 256 := by simpa [Nat.blt_eq] using hc
              have hcl : ∀ x ∈ c :: l, x < 256 := by
                intro x hx
                rcases List.mem_cons.1 hx with rfl | hx
                · exact hc'
                · exact hall' x hx
              have hmap : (den γ c :: l.map (den γ)) = c :: l := map_den_small (l := c :: l) hcl
              cases hd : dropN (decode (c :: l)).2 (c :: l) with
              | none => rw [hd] at hr; cases hr
              | some rest =>
                rw [hd] at hr
                simp only [nextR] at hr
                injection hr with hv hs
                subst hv hs
                obtain ⟨hle, rfl⟩ := dropN_eq hd
                refine fin _ _ _ _ (by rw [hdec0, hmap]) ?_ ?_ ?_ (.int _ _)
                · rw [map_den_small (fun x hx => hcl x (List.mem_of_mem_drop hx)), ← List.drop_drop, hl]
                  show List.drop _ (den γ c :: l.map (den γ)) = _
                  rw [hmap]
                · exact fun x hx => .inl (hcl x (List.mem_of_mem_drop hx))
                · have : ((bs.data.toList.map UInt8.toNat).drop pos).length = (c :: l).length := by rw [hl]; simp
                  rw [List.length_drop, hlen] at this
                  omega
    | _ => rw [hg] at hr; cases hr
end Go.Eng

set_option linter.constructorNameAsVariable false
set_option linter.unusedVariables false
set_option linter.unusedSimpArgs false
namespace Go.Eng
variable {P : Program} {γ : Gam}

theorem growBy_le : ∀ (r newLen c : Nat), Builtin.growBy newLen r c ≤ max c (newLen + (newLen + 768) / 4)
  | 0, newLen, c => by unfold Builtin.growBy; omega
  | r + 1, newLen, c => by
    unfold Builtin.growBy
    split
    · omega
    · have := growBy_le r newLen (c + (c + 768) / 4); omega
theorem nextcap_le {need c : Nat} (h : c < need) : Builtin.nextslicecap need c ≤ 4 * need + 4000 := by
  unfold Builtin.nextslicecap
  split
  · omega
  · split
    · omega
    · have := growBy_le 4 need c; omega

theorem room_inv {e need : Nat} (h : roomOk P e need = true) : ∃ i k, infoI P e = some i ∧ i.bytes = k + 1 ∧ (4 * need + 4000) * (k + 1) ≤ 2 ^ 48 := by
  unfold roomOk at h
  cases hb : bytesT P e with
  | zero => simp [hb] at h
  | succ k =>
    simp only [hb] at h
    unfold bytesT at hb
    cases hi : infoI P e with
    | none => simp [hi] at hb
    | some i => simp [hi] at hb; exact ⟨i, k, rfl, hb, Nat.le_of_ble_eq_true h⟩

/-- What is appended, or copied. -/
theorem source_sim {ρ : Rho} {s : St} {w : World} {sz m : Nat} {y : IV} {y' : Value} {new : List IV} (h : Rel P γ ρ s w) (hy : VR ρ γ y y') (hr : sourceOf s sz y = .mk new m) :
    new.length = m * sz ∧ (∀ w', w'.heap = w.heap → (Builtin.lenOf y').run P w' = .ok m w') ∧ ∃ new', (∀ w', w'.heap = w.heap → (Builtin.firstCells sz m y').run P w' = .ok new' w') ∧ VRs ρ γ new new'.toList := by
  unfold sourceOf at hr
  cases y <;> simp only at hr <;> (try (cases hr; done))
  · rename_i l
    split at hr
    · cases hr
      cases hy with
      | str bs _ hl =>
        subst hl
        have hlen : (bs.data.toList.map UInt8.toNat).length = bs.size := by simp
        rw [length_bytesI, hlen]
        refine ⟨by simp, fun w' _ => rfl, (bs.extract 0 bs.size).data.map fun b => .int .u8 b.toNat, fun w' _ => rfl, ?_⟩
        have : (bs.extract 0 bs.size) = bs := by
          apply ByteArray.ext
          rw [ByteArray.data_extract]
          have : bs.size = bs.data.size := rfl
          rw [this]; simp
        rw [this, Array.toList_map]
        exact bytesI_sim _
    · cases hr
  · cases hr
    cases hy
    exact ⟨by simp, fun w' _ => rfl, #[], fun w' _ => rfl, .nil⟩
  · rename_i b o n c ex
    unfold srcOf at hr
    cases hrd : s.rd b o (n * sz) with
    | none => simp only [Nat.mul_eq] at hr; rw [hrd] at hr; cases hr
    | some l =>
      simp only [Nat.mul_eq] at hr
      rw [hrd] at hr
      simp only at hr
      cases hr
      obtain ⟨c1, len, e1, fz, str, hg, hle, rfl⟩ := rd_some hrd
      obtain ⟨p, off, c', hb, rfl, hoff, _⟩ := hy.sl_inv
      refine ⟨length_rdC _ _ _, fun w' _ => rfl, ?_⟩
      obtain ⟨arr, e2, fr, h1, h2, h3⟩ := h.rd hb hrd
      by_cases hz : m = 0
      · subst hz
        refine ⟨#[], fun w' hw => ?_, ?_⟩
        · show (loadCells _ (0 * sz)).run P w' = _
          rw [Nat.zero_mul]; rfl
        · rw [Nat.zero_mul]; exact .nil
      · have := hoff.resolve_left hz
        subst this
        exact ⟨_, fun w' hw => run_loadCells (by rw [hw]; exact h1) h2, h3⟩

theorem get_growRow (c : PT IV) (len o n sz m : Nat) (new : List IV) (hnew : new.length = m * sz) (j : Nat) (hj : j < (n + m) * sz) :
    PT.get undefI (growRow c len o n sz m new) j = if h : j < n * sz then PT.get undefI c (o + j) else new[j - n * sz]'(by rw [Nat.add_mul] at hj; omega) := by
  rw [Nat.add_mul] at hj
  unfold growRow
  cases hb : (Nat.beq o 0 && Nat.ble len (Nat.mul (Nat.add n m) sz)) with
  | true =>
    simp only [Bool.and_eq_true] at hb
    have ho := Nat.eq_of_beq_eq_true hb.1
    subst ho
    simp only [Nat.mul_eq]
    rw [get_wrC]
    by_cases h : j < n * sz
    · rw [dif_pos h, dif_neg (by omega), Nat.zero_add]
    · rw [dif_neg h, dif_pos (by omega)]
  | false =>
    simp only [Nat.mul_eq]
    rw [get_wrC]
    by_cases h : j < n * sz
    · rw [dif_pos h, dif_neg (by omega), get_wrC, dif_pos (by rw [length_rdC]; omega)]
      have hk : j - 0 < (rdC c (n * sz) o).length := by rw [length_rdC]; omega
      have := get_rdC c (n * sz) o (j - 0) (by omega)
      rw [List.getElem?_eq_getElem hk] at this
      rw [Option.some.inj this, Nat.sub_zero]
    · rw [dif_neg h, dif_pos (by omega)]

/-- What the model's append does where it makes a new row. -/
theorem append_grows {w : World} {ts : Array TypeId} {rt t0 t1 e sz n c' m : Nat} {d : TypeDesc} {base : Option Addr} {y' : Value} {i : TypeInfo} {k : Nat} {zv : Value} {old' new' : Array Value}
    (ht0 : ts[0]? = some t0) (hu0 : P.underlying t0 = some (.slice e)) (ht1 : ts[1]? = some t1) (hu1 : P.underlying t1 = some d) (hd : ∀ q, d ≠ .int q) (hsz : size P e = some sz) (hi : infoI P e = some i) (hk : i.bytes = k + 1) (hroom : (4 * (n + m) + 4000) * (k + 1) ≤ 2 ^ 48)
    (hz : ∀ w, (zeroValue e).run P w = .ok zv w) (hm : (Builtin.lenOf y').run P w = .ok m w) (hgt : c' < n + m)
    (hold : (Builtin.firstCells sz n (.slice base n c')).run P (drawn w) = .ok old' (drawn w)) (hnew : (Builtin.firstCells sz m y').run P (drawn w) = .ok new' (drawn w)) :
    ∃ newCap, n + m ≤ newCap ∧ (Builtin.append_ ts rt #[.slice base n c', y']).run P w =
      .ok (.slice (some ⟨w.heap.size, 0, none⟩) (n + m) newCap) (pushed (drawn w) (.cells (old' ++ new' ++ Builtin.zeroCells zv.cells (newCap - (n + m))) e)) := by
  refine ⟨(n + m) + w.tape w.drawn (.appendCap (n + m) c' e) % (2 ^ 63 - (n + m)), Nat.le_add_right _ _, ?_⟩
  have hch : (choose (.appendCap (n + m) c' e)).run P w = .ok ((n + m) + w.tape w.drawn (.appendCap (n + m) c' e) % (2 ^ 63 - (n + m))) (drawn w) := by
    simp only [run_choose, Question.forced, Bool.false_eq_true, if_false]; rfl
  generalize (n + m) + w.tape w.drawn (.appendCap (n + m) c' e) % (2 ^ 63 - (n + m)) = newCap at hch ⊢
  have hnz : (match d with | .int _ => true | _ => false) = false := by cases d <;> first | rfl | exact absurd rfl (hd _)
  have hbig : ¬ (Builtin.nextslicecap (n + m) c' * i.bytes > 2 ^ 48) := by
    rw [hk]
    have := Nat.mul_le_mul_right (k + 1) (nextcap_le hgt)
    omega
  have hb0 : ¬ (i.bytes = 0) := by omega
  unfold Builtin.append_
  simp only [ht0, ht1, List.getElem?_toArray, List.getElem?_cons_zero, List.getElem?_cons_succ, Sem.run_bind, run_underlying hu0, run_underlying hu1, Result.andThen_ok, run_sizeOf hsz, Sem.run_pure, hnz, Bool.false_eq_true, if_false, hm,
    run_typeInfo (infoI_eq hi), if_neg (show ¬ (n + m ≤ c') by omega), false_or, hb0, and_false, if_neg hbig, hch, run_askRoom, hold, Bool.not_false, if_true, hnew, hz, run_newRow]
  rfl

/-- What the model's append does where it makes a row of zeros. -/
theorem append_growsZ {w : World} {ts : Array TypeId} {rt t0 t1 e sz m : Nat} {q : IntKind} {i : TypeInfo} {k : Nat} {zv : Value}
    (ht0 : ts[0]? = some t0) (hu0 : P.underlying t0 = some (.slice e)) (ht1 : ts[1]? = some t1) (hu1 : P.underlying t1 = some (.int q)) (hsz : size P e = some sz) (hsz0 : sz ≠ 0) (hi : infoI P e = some i) (hk : i.bytes = k + 1) (hroom : (4 * (m + 1) + 4000) * (k + 1) ≤ 2 ^ 48)
    (hz : ∀ w, (zeroValue e).run P w = .ok zv w) :
    ∃ newCap, m + 1 ≤ newCap ∧ (Builtin.append_ ts rt #[.slice none 0 0, .int .i64 ((m + 1 : Nat) : Int)]).run P w =
      .ok (.slice (some ⟨w.heap.size, 0, none⟩) (m + 1) newCap) (pushed (drawn w) (.cells (#[] ++ Builtin.zeroCells zv.cells (m + 1) ++ Builtin.zeroCells zv.cells (newCap - (m + 1))) e)) := by
  refine ⟨(m + 1) + w.tape w.drawn (.appendCap (m + 1) 0 e) % (2 ^ 63 - (m + 1)), Nat.le_add_right _ _, ?_⟩
  have hch : (choose (.appendCap (m + 1) 0 e)).run P w = .ok ((m + 1) + w.tape w.drawn (.appendCap (m + 1) 0 e) % (2 ^ 63 - (m + 1))) (drawn w) := by
    simp only [run_choose, Question.forced, Bool.false_eq_true, if_false]; rfl
  generalize (m + 1) + w.tape w.drawn (.appendCap (m + 1) 0 e) % (2 ^ 63 - (m + 1)) = newCap at hch ⊢
  have hbig : ¬ (Builtin.nextslicecap (m + 1) 0 * i.bytes > 2 ^ 48) := by
    rw [hk]
    have := Nat.mul_le_mul_right (k + 1) (nextcap_le (show 0 < m + 1 by omega))
    omega
  have hb0 : ¬ (i.bytes = 0) := by omega
  have hm1 : 4 * (m + 1) + 4000 ≤ 2 ^ 48 := Nat.le_trans (Nat.le_mul_of_pos_right _ (by omega)) hroom
  have hwrap : IntKind.i64.wrap ((m + 1 : Nat) : Int) = ((m + 1 : Nat) : Int) := by
    unfold IntKind.wrap; simp [IntKind.signed, IntKind.bits]; omega
  have hlt : ¬ (((m + 1 : Nat) : Int) < 0) := by omega
  have hmb : (m + 1) * (k + 1) ≤ 2 ^ 48 := Nat.le_trans (Nat.mul_le_mul_right _ (by omega)) hroom
  have hbig2 : ¬ (((m + 1 : Nat) : Int) * (i.bytes : Int) > 2 ^ 48) := by
    rw [hk]
    have : (((m + 1) * (k + 1) : Nat) : Int) ≤ ((2 ^ 48 : Nat) : Int) := Int.ofNat_le.2 hmb
    rw [Int.natCast_mul] at this
    omega
  have hmax : ¬ (((m + 1 : Nat) : Int) > IntKind.i64.max) := by
    simp [IntKind.max, IntKind.signed, IntKind.bits]; omega
  have hns : ¬ ((m + 1) * sz = 0) := by
    intro h0
    rcases Nat.mul_eq_zero.1 h0 with h0 | h0 <;> omega
  have hai : ∀ w', (asInt (.int .i64 ((m + 1 : Nat) : Int))).run P w' = .ok ((m + 1 : Nat) : Int) w' := fun _ => rfl
  have hfc : ∀ w', (Builtin.firstCells sz 0 (.slice none 0 0)).run P w' = .ok #[] w' := fun _ => rfl
  unfold Builtin.append_
  simp only [ht0, ht1, List.getElem?_toArray, List.getElem?_cons_zero, List.getElem?_cons_succ, Sem.run_bind, run_underlying hu0, run_underlying hu1, Result.andThen_ok, run_sizeOf hsz, Sem.run_pure, if_true, hai, hwrap, if_neg hlt, Int.toNat_natCast,
    run_typeInfo (infoI_eq hi), if_neg hbig2, Nat.zero_add, if_neg (show ¬ (m + 1 ≤ 0) by omega), hmax, false_and, if_false, if_neg hbig, hch, run_askRoom, hfc, Bool.not_true, Bool.false_eq_true, if_neg hns, hz, run_newRow]
  rfl
end Go.Eng
