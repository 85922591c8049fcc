/- A part of the proof: an interpreter of the program, shown right once, and the laws that it computes. -/
import Derived.Test.YtphdmkiedglfmaaGreatEng13
set_option linter.constructorNameAsVariable false
set_option linter.unusedVariables false
set_option linter.unusedSimpArgs false
namespace Go.Eng
variable {P : Program} {γ : Gam}

theorem zero_rel {ρ : Rho} {t : Nat} {z : IV} (h : zero P t = some z) : ∃ v, (∀ w, (zeroValue t).run P w = .ok v w) ∧ VR ρ γ z v := by
  obtain ⟨v, hv, hrun⟩ := run_zeroValue h
  exact ⟨v, hrun, VR.ofValue hv⟩

theorem pair_rel {ρ : Rho} {a : IV} {a' : Value} {b : Bool} (h : VR ρ γ a a') : VR ρ γ (.tup [a, .bool b]) (.tuple #[a', .bool b]) :=
  .tup _ _ (.cons _ _ _ _ h (.cons _ _ _ _ (.bool b) .nil))

theorem holds_rel {ρ : Rho} {a : IV} {a' : Value} {ok : Bool} (h : VR ρ γ a a') : VR ρ γ (holdsI ok a) (if ok = true then .tuple #[a', .bool true] else a') := by
  cases ok
  · exact h
  · exact pair_rel h

theorem assertI_sim {ρ : Rho} {s : St} {w : World} {t xt : Nat} {ok : Bool} {want : Array (String × TypeId)} {x v : IV} {x' : Value} (h : Rel P γ ρ s w) (hu : undI P t = some (.interface want)) (hx : VR ρ γ x x') (hr : assertI P t ok want x = some v) :
    Yields P γ ρ s w (Instr.typeAssert x' xt t ok) v s := by
  unfold assertI at hr
  have fails : ∀ {q : IV}, failsI P t ok = some q → ∃ z', ok = true ∧ (∀ w, (zeroValue t).run P w = .ok z' w) ∧ VR ρ γ q (.tuple #[z', .bool false]) := by
    intro q hq
    unfold failsI at hq
    cases ok with
    | false => cases hq
    | true =>
      cases hz : zero P t with
      | none => simp [hz] at hq
      | some z =>
        simp [hz] at hq; subst hq
        obtain ⟨z', h1, h2⟩ := zero_rel (ρ := ρ) (γ := γ) hz
        exact ⟨z', rfl, h1, pair_rel h2⟩
  cases hx <;> simp only at hr <;> (try (cases hr; done))
  · obtain ⟨z', rfl, h1, h2⟩ := fails hr
    refine Yields.same h ?_ h2
    unfold Instr.typeAssert
    simp only [Sem.run_bind, run_underlying (undI_eq hu), Result.andThen_ok, if_true, h1, Sem.run_pure]
  · rename_i d y y' hy
    unfold meets at hr
    cases hi : infoI P d with
    | none => simp [hi] at hr
    | some i =>
      simp only [hi] at hr
      cases hm : Instr.missingMethod want i.methods with
      | none =>
        simp only [hm] at hr; cases hr
        refine Yields.same h ?_ (holds_rel (.iface d y y' hy))
        unfold Instr.typeAssert
        simp only [Sem.run_bind, run_underlying (undI_eq hu), Result.andThen_ok, run_typeInfo (infoI_eq hi), hm, Sem.run_pure]
      | some q =>
        simp only [hm] at hr
        obtain ⟨z', rfl, h1, h2⟩ := fails hr
        refine Yields.same h ?_ h2
        unfold Instr.typeAssert
        simp only [Sem.run_bind, run_underlying (undI_eq hu), Result.andThen_ok, run_typeInfo (infoI_eq hi), hm, if_true, h1, Sem.run_pure]

theorem assertC_sim {ρ : Rho} {s : St} {w : World} {t xt : Nat} {ok : Bool} {u : TypeDesc} {x v : IV} {x' : Value} (h : Rel P γ ρ s w) (hu : undI P t = some u) (hni : ∀ ms, u ≠ .interface ms) (hx : VR ρ γ x x') (hr : assertC P t ok x = some v) :
    Yields P γ ρ s w (Instr.typeAssert x' xt t ok) v s := by
  unfold assertC at hr
  have fails : ∀ {q : IV}, failsI P t ok = some q → ∃ z', ok = true ∧ (∀ w, (zeroValue t).run P w = .ok z' w) ∧ VR ρ γ q (.tuple #[z', .bool false]) := by
    intro q hq
    unfold failsI at hq
    cases ok with
    | false => cases hq
    | true =>
      cases hz : zero P t with
      | none => simp [hz] at hq
      | some z =>
        simp [hz] at hq; subst hq
        obtain ⟨z', h1, h2⟩ := zero_rel (ρ := ρ) (γ := γ) hz
        exact ⟨z', rfl, h1, pair_rel h2⟩
  cases hx <;> simp only at hr <;> (try (cases hr; done))
  · obtain ⟨z', rfl, h1, h2⟩ := fails hr
    refine Yields.same h ?_ h2
    unfold Instr.typeAssert
    simp only [Sem.run_bind, run_underlying (undI_eq hu), Result.andThen_ok]
    cases u <;> first
      | exact absurd rfl (hni _)
      | simp only [if_true, Sem.run_bind, h1, Result.andThen_ok, Sem.run_pure]
  · rename_i d y y' hy
    cases hb : Nat.beq d t with
    | true =>
      have := Nat.eq_of_beq_eq_true hb
      subst this
      simp only [hb] at hr; cases hr
      refine Yields.same h ?_ (holds_rel hy)
      unfold Instr.typeAssert
      simp only [Sem.run_bind, run_underlying (undI_eq hu), Result.andThen_ok]
      cases u <;> first
        | exact absurd rfl (hni _)
        | simp only [if_true, Sem.run_pure]
    | false =>
      simp only [hb] at hr
      have hne : ¬ d = t := fun e => by subst e; simp at hb
      obtain ⟨z', rfl, h1, h2⟩ := fails hr
      refine Yields.same h ?_ h2
      unfold Instr.typeAssert
      simp only [Sem.run_bind, run_underlying (undI_eq hu), Result.andThen_ok]
      cases u <;> first
        | exact absurd rfl (hni _)
        | simp only [if_neg hne, if_true, Sem.run_bind, h1, Result.andThen_ok, Sem.run_pure]

theorem extract_sim {ρ : Rho} {s s' : St} {w : World} {i : Nat} {x v : IV} {x' : Value} (h : Rel P γ ρ s w) (hx : VR ρ γ x x') (hr : extrV i x s = .ok v s') : Yields P γ ρ s w (Instr.extract x' i) v s' := by
  cases hx <;> (try (simp [extrV] at hr; done))
  rename_i l a hl
  simp only [extrV] at hr
  cases hn : Eng.nth l i with
  | none => rw [hn] at hr; cases hr
  | some q =>
    rw [hn] at hr
    change R.ok q s = .ok v s' at hr
    cases hr
    obtain ⟨v', h1, h2⟩ := hl.nth hn
    refine Yields.same h ?_ h2
    unfold Instr.extract
    have : a[i]? = some v' := by simpa using h1
    simp only [this, Sem.run_pure]

/- builtins -/
theorem argT_eq {ts : Array TypeId} {i : Nat} {d : TypeDesc} (h : argT P ts i = some d) : ∃ t, ts[i]? = some t ∧ P.underlying t = some d := by
  unfold argT at h
  split at h
  · rename_i t ht; exact ⟨t, ht, undI_eq h⟩
  · cases h

theorem lenStr_sim {ρ : Rho} {s s' : St} {w : World} {ts : Array TypeId} {rt : TypeId} {x v : IV} {x' : Value} (h : Rel P γ ρ s w) (hd : argT P ts 0 = some .string) (hx : VR ρ γ x x') (hr : lenStr x s = .ok v s') :
    Yields P γ ρ s w (Builtin.len_ ts rt #[x']) v s' := by
  obtain ⟨t, ht, hu⟩ := argT_eq hd
  cases hx <;> (try (simp [lenStr] at hr; done))
  · rename_i bs l hl
    simp only [lenStr] at hr; cases hr
    refine Yields.same h (v' := goInt bs.size) ?_ ?_
    · unfold Builtin.len_
      simp only [ht, List.getElem?_toArray, List.getElem?_cons_zero, Sem.run_bind, run_underlying hu, Result.andThen_ok, Sem.run_pure]
    · subst hl
      have : (bs.data.toList.map UInt8.toNat).length = bs.size := by simp
      rw [this]; exact .int _ _
  · rename_i bs l hl hcs
    simp only [lenStr] at hr; cases hr
    refine Yields.same h (v' := goInt bs.size) ?_ ?_
    · unfold Builtin.len_
      simp only [ht, List.getElem?_toArray, List.getElem?_cons_zero, Sem.run_bind, run_underlying hu, Result.andThen_ok, Sem.run_pure]
    · have : l.length = bs.size := by have := congrArg List.length hl; simpa using this.symm
      rw [this]; exact .int _ _

theorem lenSl_sim {ρ : Rho} {s s' : St} {w : World} {ts : Array TypeId} {rt : TypeId} {x v : IV} {x' : Value} (h : Rel P γ ρ s w) (hd : ∃ e, argT P ts 0 = some (.slice e)) (hx : VR ρ γ x x') (hr : lenSl x s = .ok v s') :
    Yields P γ ρ s w (Builtin.len_ ts rt #[x']) v s' := by
  obtain ⟨e, hd⟩ := hd
  obtain ⟨t, ht, hu⟩ := argT_eq hd
  cases hx <;> (try (simp [lenSl] at hr; done)) <;>
  · simp only [lenSl] at hr; cases hr
    refine Yields.same h ?_ (.int _ _)
    unfold Builtin.len_
    simp only [ht, List.getElem?_toArray, List.getElem?_cons_zero, Sem.run_bind, run_underlying hu, Result.andThen_ok, Sem.run_pure]
    rfl

theorem minI_eq (a b : Int) : minI a b = if b < a then b else a := by
  unfold minI; rw [ltI_eq]; by_cases h : b < a <;> simp [h]
theorem maxI_eq (a b : Int) : maxI a b = if b > a then b else a := by
  unfold maxI; rw [ltI_eq]; by_cases h : a < b <;> simp [h]
theorem rngMM_val {mx : Bool} {j : Nat} {k : IntKind} {c : Int} {v : IV} {ρ : Rho} (hv : VR ρ γ (.sym j) (γ j)) (hr : 10000000 ≤ j → RngOk γ j) (h : rngMM mx j k c = some v) :
    k = .i64 ∧ ∃ n : Int, γ j = .int .i64 n ∧ ((mx = true → VR ρ γ v (.int .i64 (if c > n then c else n))) ∧ (mx = false → VR ρ γ v (.int .i64 (if c < n then c else n)))) := by
  unfold rngMM at h
  cases hrg : rngIs j with
  | false => rw [hrg] at h; cases h
  | true =>
    obtain ⟨n, n1, n2, hg⟩ := rng_val (hr (Nat.le_of_ble_eq_true hrg))
    rw [hrg] at h
    cases k <;> (try (cases h; done))
    refine ⟨rfl, n, hg, ?_⟩
    cases c with
    | negSucc m => cases h
    | ofNat m =>
      simp only at h
      cases h1 : Nat.ble m (rngLo j) with
      | true =>
        have h1' := Nat.le_of_ble_eq_true h1
        rw [h1] at h
        simp only [Option.some.injEq] at h
        have e1 : ¬ (Int.ofNat m > (n : Int)) := by show ¬ ((m : Int) > n); omega
        constructor
        · rintro rfl
          rw [if_neg e1, ← hg, ← h]
          exact hv
        · rintro rfl
          by_cases e2 : (Int.ofNat m < (n : Int))
          · rw [if_pos e2, ← h]; exact .int _ _
          · have : (n : Int) = Int.ofNat m := by
              show (n : Int) = (m : Int)
              have e2 : ¬ ((m : Int) < n) := e2
              omega
            rw [if_neg e2, ← h, this]; exact .int _ _
      | false =>
        rw [h1] at h
        simp only at h
        cases h2 : Nat.ble (rngHi j) m with
        | false => rw [h2] at h; cases h
        | true =>
          have h2' := Nat.le_of_ble_eq_true h2
          rw [h2] at h
          simp only [Option.some.injEq] at h
          have e1 : ¬ (Int.ofNat m < (n : Int)) := by show ¬ ((m : Int) < n); omega
          constructor
          · rintro rfl
            by_cases e2 : (Int.ofNat m > (n : Int))
            · rw [if_pos e2, ← h]; exact .int _ _
            · have : (n : Int) = Int.ofNat m := by
                show (n : Int) = (m : Int)
                have e2 : ¬ ((m : Int) > n) := e2
                omega
              rw [if_neg e2, ← h, this]; exact .int _ _
          · rintro rfl
            rw [if_neg e1, ← hg, ← h]
            exact hv
theorem okR_inv {s s' : St} {v : IV} : ∀ {o : Option IV}, okR s o = .ok v s' → o = some v ∧ s' = s
  | some u, h => by cases h; exact ⟨rfl, rfl⟩
  | none, h => by cases h
theorem min_sim {ρ : Rho} {s s' : St} {w : World} {ts : Array TypeId} {rt : TypeId} {x y v : IV} {x' y' : Value} (h : Rel P γ ρ s w) (hx : VR ρ γ x x') (hy : VR ρ γ y y') (hr : doMinMax false minI x y s = .ok v s') : Yields P γ ρ s w (Builtin.min_ ts rt #[x', y']) v s' := by
  cases hx <;> (try (simp [doMinMax] at hr; done))
  · cases hy <;> (try (simp [doMinMax] at hr; done))
    · rename_i k a k' b
      simp only [doMinMax] at hr
      cases hk : kindEq k k' with
      | false => rw [hk] at hr; cases hr
      | true =>
        rw [hk] at hr; cases hr
        rw [minI_eq]
        exact Yields.same h rfl (.int _ _)
    · rename_i k a j q1 q2 q3 q4 q5
      obtain ⟨e1, rfl⟩ := okR_inv hr
      obtain ⟨rfl, n, hg, -, h2⟩ := rngMM_val (ρ := ρ) (.sym j q1 q2 q3 q4 q5) q5 e1
      have h2 := h2 rfl
      rw [hg]
      have e : (if a < n then a else n) = (if n < a then n else a) := by split <;> split <;> omega
      rw [e] at h2
      exact Yields.same h rfl h2
  · cases hy <;> (try (simp [doMinMax] at hr; done))
    · rename_i j q1 q2 q3 q4 q5 k b
      obtain ⟨e1, rfl⟩ := okR_inv hr
      obtain ⟨rfl, n, hg, -, h2⟩ := rngMM_val (ρ := ρ) (.sym j q1 q2 q3 q4 q5) q5 e1
      rw [hg]
      exact Yields.same h rfl (h2 rfl)
theorem max_sim {ρ : Rho} {s s' : St} {w : World} {ts : Array TypeId} {rt : TypeId} {x y v : IV} {x' y' : Value} (h : Rel P γ ρ s w) (hx : VR ρ γ x x') (hy : VR ρ γ y y') (hr : doMinMax true maxI x y s = .ok v s') : Yields P γ ρ s w (Builtin.max_ ts rt #[x', y']) v s' := by
  cases hx <;> (try (simp [doMinMax] at hr; done))
  · cases hy <;> (try (simp [doMinMax] at hr; done))
    · rename_i k a k' b
      simp only [doMinMax] at hr
      cases hk : kindEq k k' with
      | false => rw [hk] at hr; cases hr
      | true =>
        rw [hk] at hr; cases hr
        rw [maxI_eq]
        exact Yields.same h rfl (.int _ _)
    · rename_i k a j q1 q2 q3 q4 q5
      obtain ⟨e1, rfl⟩ := okR_inv hr
      obtain ⟨rfl, n, hg, h2, -⟩ := rngMM_val (ρ := ρ) (.sym j q1 q2 q3 q4 q5) q5 e1
      have h2 := h2 rfl
      rw [hg]
      have e : (if a > n then a else n) = (if n > a then n else a) := by split <;> split <;> omega
      rw [e] at h2
      exact Yields.same h rfl h2
  · cases hy <;> (try (simp [doMinMax] at hr; done))
    · rename_i j q1 q2 q3 q4 q5 k b
      obtain ⟨e1, rfl⟩ := okR_inv hr
      obtain ⟨rfl, n, hg, h2, -⟩ := rngMM_val (ρ := ρ) (.sym j q1 q2 q3 q4 q5) q5 e1
      rw [hg]
      exact Yields.same h rfl (h2 rfl)

theorem cap_sim {ρ : Rho} {s s' : St} {w : World} {ts : Array TypeId} {rt : TypeId} {x v : IV} {x' : Value} (h : Rel P γ ρ s w) (hd : ∃ e, argT P ts 0 = some (.slice e)) (hx : VR ρ γ x x') (hr : capOf x s = .ok v s') : Yields P γ ρ s w (Builtin.cap_ ts rt #[x']) v s' := by
  obtain ⟨e, hd1⟩ := hd
  obtain ⟨t, ht, hu⟩ := argT_eq hd1
  cases hx <;> (try (simp [capOf] at hr; done))
  · simp only [capOf] at hr; cases hr
    refine Yields.same h ?_ (.int _ _)
    unfold Builtin.cap_
    simp only [ht, List.getElem?_toArray, List.getElem?_cons_zero, Sem.run_bind, run_underlying hu, Result.andThen_ok, Sem.run_pure]
    rfl
  · simp only [capOf] at hr; cases hr
    refine Yields.same h ?_ (.int _ _)
    unfold Builtin.cap_
    simp only [ht, List.getElem?_toArray, List.getElem?_cons_zero, Sem.run_bind, run_underlying hu, Result.andThen_ok, Sem.run_pure]
    rfl

theorem data_sim {ρ : Rho} {s s' : St} {w : World} {ts : Array TypeId} {rt : TypeId} {x v : IV} {x' : Value} (h : Rel P γ ρ s w) (hx : VR ρ γ x x') (hr : doData x s = .ok v s') : Yields P γ ρ s w (Builtin.unsafeSliceData_ ts rt #[x']) v s' := by
  unfold doData at hr
  split at hr <;> (try (cases hr; done))
  · cases hx; cases hr
    exact Yields.same h rfl .nilptr
  · rename_i b o n c ex
    cases hr
    obtain ⟨p, off, c', hb, rfl, hoff, hcc, hex1, hex2⟩ := hx.sl_inv
    have : off = p.shift + o := by
      cases ex with
      | true => exact (hex1 rfl).1
      | false => exact (hex2 rfl).2.1.resolve_right (fun h => by omega)
    subst this
    refine Yields.same h ?_ (.ptr b o p hb)
    have hc0 : c' ≠ 0 := by omega
    have e : Builtin.unsafeSliceData_ ts rt #[.slice (some ⟨p.blk, p.shift + o, none⟩) n c'] = if c' ≠ 0 then pure (.pointer (some ⟨p.blk, p.shift + o, none⟩)) else _ := rfl
    rw [e, if_pos hc0]
    rfl

/- texts, sign by sign -/
theorem range_sim {ρ : Rho} {s s' : St} {w : World} {t : Nat} {x v : IV} {x' : Value} (h : Rel P γ ρ s w) (ht : isStrT P t = true) (hx : VR ρ γ x x') (hr : rangeV x s = .ok v s') : Yields P γ ρ s w (Instr.range t x') v s' := by
  have hu : P.underlying t = some .string := by
    unfold isStrT at ht
    split at ht
    · rename_i hu; exact undI_eq hu
    · cases ht
  have key : ∀ (bs : ByteArray) (l : List Nat), SR γ l bs → Yields P γ ρ s w (Instr.range t (.string bs)) (.ptr s.next 0) (s.new (.siter l 0)) := by
    intro bs l hl
    let p : Pl := ⟨w.heap.size, 0, 0, 0⟩
    obtain ⟨h1, h2⟩ := h.new (p := p) rfl (x := .siter l 0) (o := .stringIter bs 0) (.siter l 0 bs (by simpa using hl.1) hl.2 (Nat.zero_le _) rfl)
    refine ⟨.pointer (some ⟨w.heap.size, 0, none⟩), _, _, ?_, h2, h1, ?_⟩
    · unfold Instr.range
      simp only [Sem.run_bind, run_underlying hu, Result.andThen_ok, Sem.run_pure, run_newObj]
      exact rfl
    · exact VR.ptr (ρ := ρ.with s.next p) (γ := γ) s.next 0 p (Rho.with_self _ _ _)
  cases hx <;> (try (simp [rangeV] at hr; done))
  · rename_i bs l hl
    simp only [rangeV] at hr
    injection hr with hv hs
    subst hv hs
    exact key bs _ (SR.plain hl)
  · rename_i bs l hl hc
    simp only [rangeV] at hr
    injection hr with hv hs
    subst hv hs
    exact key bs l ⟨hl, hc⟩

theorem run_getObj {w : World} {r : Nat} {o : Obj} (h : w.heap[r]? = some o) (hc : ∀ a e f, o ≠ .cells a e f) : (getObj r).run P w = .ok o w := by
  unfold getObj
  simp only [Sem.run, h]

theorem run_setObj {w : World} {r : Nat} {o o' : Obj} (h : w.heap[r]? = some o) (hc : ∀ a e f, o ≠ .cells a e f) : (setObj r o').run P w = .ok () (setRow w r o') := by
  unfold setObj
  simp only [Sem.run, h]
  cases o <;> first
    | exact absurd rfl (hc _ _ _)
    | rfl

/-- A sign of one byte. -/
theorem decode_one {c : Nat} (h : c < 128) (l : List Nat) : decode (c :: l) = (c, 1) := by
  have h0 : byteAt (c :: l) 0 = c := rfl
  unfold decode
  rw [h0]
  have : Nat.blt c 128 = true := by rw [Nat.blt_eq]; exact h
  rw [this]
theorem next_sim {ρ : Rho} {s s' : St} {w : World} {rt : TypeId} {x v : IV} {x' : Value} (h : Rel P γ ρ s w) (hx : VR ρ γ x x') (hr : nextV x s = .ok v s') : Yields P γ ρ s w (Instr.next x' true rt) v s' := by
  cases hx <;> (try (simp [nextV] at hr; done))
  rename_i b o p hb
  simp only [nextV] at hr
  cases o with
  | succ o => cases hr
  | zero =>
    simp only at hr
    cases hg : s.get b with
    | siter l pos =>
      rw [hg] at hr
      obtain ⟨ob, h1, h2⟩ := h.live b p hb (by rw [hg]; exact fun h => h)
      rw [hg] at h2
      cases h2 with
      | siter _ _ bs hl hlc hp hs0 =>
        have hget : (getObj p.blk).run P w = .ok (.stringIter bs pos) w := run_getObj h1 (by intro _ _ _ h; cases h)
        rw [hs0]
        cases l with
        | nil =>
          simp only [nextIn] at hr; cases hr
          have hge : ¬ pos < bs.size := by
            intro hlt
            have : ((bs.data.toList.map UInt8.toNat).drop pos).length = 0 := by rw [hl]; rfl
            simp at this; omega
          refine Yields.same h (v' := .tuple #[.bool false]) ?_ (.tup _ _ (.cons _ _ _ _ (.bool _) .nil))
          unfold Instr.next
          simp only [Sem.run_bind, hget, Result.andThen_ok, if_neg hge, Sem.run_pure]
        | cons c l =>
          simp only [nextIn] at hr
          have hlt : pos < bs.size := by
            rcases Nat.lt_or_ge pos bs.size with hlt | hge
            · exact hlt
            · have : (bs.data.toList.map UInt8.toNat).drop pos = [] := List.drop_eq_nil_of_le (by simpa using hge)
              rw [hl] at this; cases this
          have hlen : (bs.data.toList.map UInt8.toNat).length = bs.size := by
            simp only [List.length_map, Array.length_toList]
            rfl
          -- a sign d of n bytes, the rest r
          have fin : ∀ (d n : Nat) (r : List Nat) (sv : IV), Utf8.decode bs pos = (d, n) → (bs.data.toList.map UInt8.toNat).drop (pos + n) = r.map (den γ) → (∀ c ∈ r, CodeOk γ c) → n ≤ bs.size - pos →
              VR ρ γ sv (.int .i32 (Int.ofNat d)) → Yields P γ ρ s w (Instr.next (.pointer (some ⟨p.blk, 0 + 0, none⟩)) true rt) (.tup [.bool true, .int .i64 (Int.ofNat pos), sv]) (s.put b (.siter r (pos + n))) := by
            intro d n r sv hdec hdr hrc hn hsv
            have hput := h.put (x := .siter r (pos + n)) (o := .stringIter bs (pos + n)) hb (by rw [hg]; exact fun h => h)
              (.siter _ _ _ hdr hrc (by omega) hs0)
            refine ⟨.tuple #[.bool true, goInt pos, .int .i32 (Int.ofNat d)], _, _, ?_, hput.2, hput.1, ?_⟩
            · unfold Instr.next
              simp only [Sem.run_bind, hget, Result.andThen_ok, if_pos hlt, hdec]
              simp only [Sem.run_bind, run_setObj h1 (by intro _ _ _ h; cases h), Result.andThen_ok, Sem.run_pure]
              rfl
            · exact .tup _ _ (.cons _ _ _ _ (.bool _) (.cons _ _ _ _ (.int _ _) (.cons _ _ _ _ hsv .nil)))
          have hdec0 : Utf8.decode bs pos = decode (den γ c :: l.map (den γ)) := by rw [← decode_eq, hl]; rfl
          have hdr1 : (bs.data.toList.map UInt8.toNat).drop (pos + 1) = l.map (den γ) := by rw [← List.drop_drop, hl]; rfl
          unfold nextC at hr
          split at hr
          · rename_i hc
            have hc' : c < 128 := by rw [Nat.blt_eq] at hc; exact hc
            injection hr with hv hs
            subst hv hs
            refine fin c 1 l _ ?_ hdr1 (fun c hc => hlc c (by simp [hc])) (by omega) (.int _ _)
            rw [hdec0, den_small (by omega), decode_one hc']
          · split at hr
            · rename_i hc
              have hc' : 256 ≤ c := by
                rcases Nat.lt_or_ge c 256 with h | h
                · exact absurd hc (by simp [Nat.blt_eq, h])
                · exact h
              have hco : CodeOk γ c := hlc c (by simp)
              rcases hco with h | ⟨_, hc2, n, n1, n2, g1, g2, g3⟩
              · omega
              · injection hr with hv hs
                subst hv hs
                have n3 := hiL_le (c - 256)
                have hden : den γ c = n := by unfold den denL; rw [if_neg (by omega), g1]; simp
                have hk : Nat.add 3000 (Nat.sub c 256) = 3000 + (c - 256) := rfl
                refine fin n 1 l _ ?_ hdr1 (fun c hc => hlc c (by simp [hc])) (by omega) ?_
                · rw [hdec0, hden, decode_one (by omega)]
                · rw [hk]
                  have hm : (3000 + (c - 256)) % 1000 = c - 256 := by omega
                  have := VR.sym (ρ := ρ) (γ := γ) (3000 + (c - 256)) (by rw [g3]; rfl) (by omega) (by omega) (by rw [hm]; exact fun _ _ => ⟨n, n1, n2, g1, g2, g3⟩) (fun h => absurd h (by omega))
                  rw [g3] at this
                  exact this
            · split at hr <;> (try (cases hr; done))
              rename_i hall
              have hall' : ∀ x ∈ l, x < 256 := fun x hx => by have := (allB_iff _ _).1 hall x hx; rw [Nat.blt_eq] at this; exact this
              rename_i hc _
              have hc' : c < 256 := by simpa [Nat.blt_eq] using hc
              have hcl : ∀ x ∈ c :: l, x < 256 := by
                intro x hx
                rcases List.mem_cons.1 hx with rfl | hx
                · exact hc'
                · exact hall' x hx
              have hmap : (den γ c :: l.map (den γ)) = c :: l := map_den_small (l := c :: l) hcl
              cases hd : dropN (decode (c :: l)).2 (c :: l) with
              | none => rw [hd] at hr; cases hr
              | some rest =>
                rw [hd] at hr
                simp only [nextR] at hr
                injection hr with hv hs
                subst hv hs
                obtain ⟨hle, rfl⟩ := dropN_eq hd
                refine fin _ _ _ _ (by rw [hdec0, hmap]) ?_ ?_ ?_ (.int _ _)
                · rw [map_den_small (fun x hx => hcl x (List.mem_of_mem_drop hx)), ← List.drop_drop, hl]
                  show List.drop _ (den γ c :: l.map (den γ)) = _
                  rw [hmap]
                · exact fun x hx => .inl (hcl x (List.mem_of_mem_drop hx))
                · have : ((bs.data.toList.map UInt8.toNat).drop pos).length = (c :: l).length := by rw [hl]; simp
                  rw [List.length_drop, hlen] at this
                  omega
    | _ => rw [hg] at hr; cases hr
end Go.Eng
