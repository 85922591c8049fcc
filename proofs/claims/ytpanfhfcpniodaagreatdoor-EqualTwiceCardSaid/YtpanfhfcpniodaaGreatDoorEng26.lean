/- A part of the proof: an interpreter of the program, shown right once, and the laws that it computes. -/
import Derived.Test.YtpanfhfcpniodaaGreatDoorEng25
set_option linter.constructorNameAsVariable false
set_option linter.unusedVariables false
set_option linter.unusedSimpArgs false
namespace Go.Eng
variable {P : Program} {γ : Gam}

theorem argsT_ok {n : Nat} : ∀ (m i : Nat) {f}, argsT n m i = .mk f → (m = 0 ∨ i + m ≤ n) ∧ ∀ (l : List IV) (env env' : Env), f l env = some env' → l.length = m ∧
    ∀ t ft gt, slotT n t = .mk ft gt → ft env' = if i ≤ t ∧ t < i + m then l.getD (t - i) undefI else ft env
  | 0, i, f, h => by
    cases h
    refine ⟨.inl rfl, fun l env env' hl => ?_⟩
    cases l with
    | nil => cases hl; exact ⟨rfl, fun t ft gt _ => by rw [if_neg (by omega)]⟩
    | cons v l => cases hl
  | m + 1, i, f, h => by
    unfold argsT at h
    cases hs : slotT n i with
    | no => rw [hs] at h; cases h
    | mk fi gi =>
      rw [hs] at h
      simp only at h
      cases ha : argsT n m (i + 1) with
      | no => rw [ha] at h; cases h
      | mk f' =>
        rw [ha] at h; cases h
        have hin := slot_lt hs
        obtain ⟨h1, h2⟩ := argsT_ok m (i + 1) ha
        refine ⟨.inr (by rcases h1 with h1 | h1 <;> omega), fun l env env' hl => ?_⟩
        cases l with
        | nil => cases hl
        | cons v l =>
          change f' l (gi v env) = some env' at hl
          obtain ⟨q1, q2⟩ := h2 l _ _ hl
          refine ⟨by simp [q1], fun t ft gt ht => ?_⟩
          rw [q2 t ft gt ht, slot_put hs ht]
          by_cases e : t = i
          · subst e
            rw [if_neg (by omega), if_pos rfl, if_pos (by omega), Nat.sub_self]; rfl
          · by_cases e2 : i + 1 ≤ t ∧ t < i + 1 + m
            · rw [if_pos e2, if_pos (by omega)]
              obtain ⟨d, hd⟩ : ∃ d, t - i = d + 1 := ⟨t - i - 1, by omega⟩
              rw [hd, show t - (i + 1) = d by omega]; rfl
            · rw [if_neg e2, if_neg e, if_neg (by omega)]

theorem VRs.getD {ρ : Rho} : ∀ {l : List IV} {l' : List Value}, VRs ρ γ l l' → ∀ k, VR ρ γ (l.getD k undefI) (l'.getD k undef)
  | _, _, .nil, k => .tup [] #[] .nil
  | _, _, .cons _ _ _ _ h _, 0 => h
  | _, _, .cons _ _ _ _ _ hs, k + 1 => VRs.getD hs k

theorem enter_ER {n m : Nat} {ρ : Rho} {f} (hf : argsT n m 0 = .mk f) {l : List IV} {l' : List Value} {env : Env} (he : f l .e = some env) (hl : VRs ρ γ l l') :
    ER γ n ρ env { tmps := l'.toArray ++ Array.replicate (n - l'.toArray.size) undef, defers := [] } := by
  obtain ⟨h1, h2⟩ := argsT_ok m 0 hf
  obtain ⟨h3, h4⟩ := h2 l _ _ he
  have hlen := hl.length
  refine ⟨by simp; omega, rfl, fun t ft gt ht => ?_⟩
  have htn := slot_lt ht
  rw [h4 t ft gt ht, slot_e ht]
  by_cases e : t < m
  · rw [if_pos (by omega)]
    have : (l'.toArray ++ Array.replicate (n - l'.toArray.size) undef).getD t undef = l'.getD (t - 0) undef := by
      rw [Array.getD_eq_getD_getElem?, Array.getElem?_append_left (by simp; omega), List.getD_eq_getElem?_getD]
      simp
    rw [this]
    exact hl.getD _
  · rw [if_neg (by omega)]
    have : (l'.toArray ++ Array.replicate (n - l'.toArray.size) undef).getD t undef = undef := by
      rw [Array.getD_eq_getD_getElem?, Array.getElem?_append_right (by simp; omega), Array.getElem?_replicate]
      split <;> rfl
    rw [this]
    exact .tup [] #[] .nil

theorem loadV_sim {ρ : Rho} {s : St} {w : World} {t b o : Nat} {p : Pl} {v : IV} (h : Rel P γ ρ s w) (hb : ρ b = some p) (hr : loadV P t b o s = some v) :
    ∃ v', (loadVar t ⟨p.blk, p.shift + o, none⟩).run P w = .ok v' w ∧ VR ρ γ v v' := by
  unfold loadV at hr
  split at hr <;> (try (cases hr; done))
  · rename_i ht
    split at hr <;> (try (cases hr; done))
    rename_i n hn
    cases hg : s.rd b o n with
    | none => rw [hg] at hr; cases hr
    | some l =>
      rw [hg] at hr
      cases hr
      obtain ⟨arr, e, fr, h1, h2, h3⟩ := h.rd hb hg
      refine ⟨_, ?_, .agg l _ h3⟩
      unfold loadVar
      simp only [Sem.run_bind, Sem.run_pure, Result.andThen_ok, run_isAgg ht, if_true, run_sizeOf hn, run_loadCells h1 h2]
  · rename_i ht
    cases hg : s.get b with
    | cells c len e fz str =>
      rw [hg] at hr
      change Bool.rec (motive := fun _ => Option IV) none (some (PT.get undefI c o)) (Nat.ble (o + 1) len) = some v at hr
      cases hbl : Nat.ble (o + 1) len with
      | false => rw [hbl] at hr; cases hr
      | true =>
        rw [hbl] at hr
        cases hr
        have hlen := Nat.le_of_ble_eq_true hbl
        obtain ⟨arr, fr, h1, h2⟩ := h.row hb hg
        cases h2 with
        | cells _ _ _ _ _ _ _ hl' ha hc hf hs htg hz =>
          obtain ⟨v', hv1, hv2⟩ := hc o (by omega)
          refine ⟨v', ?_, hv2⟩
          unfold loadVar
          simp only [Sem.run_bind, Sem.run_pure, Result.andThen_ok, run_isAgg ht, Bool.false_eq_true, if_false, run_load, cell_eq h1, hv1]
    | map es cl => rw [hg] at hr; cases hr
    | siter r p => rw [hg] at hr; cases hr
    | dead => rw [hg] at hr; cases hr

def resM (tmps : Array Value) : ResultVar → Sem Value
  | .tmp t => pure (tmps.getD t undef)
  | .cell a t => do loadVar t (← asAddr (tmps.getD a undef))

theorem resT_ok {n : Nat} {ρ : Rho} {s : St} {w : World} {env : Env} {a : Go.Act} (h : Rel P γ ρ s w) (hE : ER γ n ρ env a) : ∀ (l : List ResultVar) {g}, resT P n l = .mk g → ∀ {vs}, g env s = some vs →
    ∃ vs' : List Value, (l.mapM (resM a.tmps)).run P w = .ok vs' w ∧ VRs ρ γ vs vs'
  | [], g, hg, vs, hv => by
    cases hg; cases hv
    exact ⟨[], rfl, .nil⟩
  | x :: l, g, hg, vs, hv => by
    unfold resT at hg
    cases hs : slotT n (resSlot x) with
    | no => rw [hs] at hg; cases hg
    | mk f gs =>
      rw [hs] at hg
      simp only at hg
      cases hl : resT P n l with
      | no => rw [hl] at hg; cases hg
      | mk g' =>
        rw [hl] at hg; cases hg
        change consR (resOne P s (f env) x) (g' env s) = some vs at hv
        unfold consR at hv
        split at hv <;> (try (cases hv; done))
        rename_i v hv1
        split at hv <;> (try (cases hv; done))
        rename_i rest hv2
        cases hv
        obtain ⟨rest', q1, q2⟩ := resT_ok h hE l hl hv2
        have hslot := hE.slots _ f gs hs
        have hx : ∃ v', (resM a.tmps x).run P w = .ok v' w ∧ VR ρ γ v v' := by
          cases x with
          | tmp t => cases hv1; exact ⟨_, rfl, hslot⟩
          | cell c t =>
            change VR ρ γ (f env) (a.tmps.getD c undef) at hslot
            unfold resOne at hv1
            simp only at hv1
            generalize f env = fe at hv1 hslot
            generalize hcv : a.tmps.getD c undef = cv at hslot
            cases hslot <;> (try (cases hv1; done))
            rename_i b o p hb
            obtain ⟨v', m1, m2⟩ := loadV_sim h hb hv1
            refine ⟨v', ?_, m2⟩
            unfold resM
            simp only [hcv, asAddr, Sem.run_bind, Sem.run_pure, Result.andThen_ok, m1]
        obtain ⟨v', q3, q4⟩ := hx
        refine ⟨v' :: rest', ?_, .cons _ _ _ _ q4 q2⟩
        simp only [List.mapM_cons, Sem.run_bind, q3, q1, Result.andThen_ok, Sem.run_pure]

theorem results_ok {n : Nat} {ρ : Rho} {s : St} {w : World} {env : Env} {a : Go.Act} {fn : Func} (h : Rel P γ ρ s w) (hE : ER γ n ρ env a) {g} (hg : resT P n fn.results.toList = .mk g) {vs} (hv : g env s = some vs) :
    ∃ v', (results fn a.tmps).run P w = .ok v' w ∧ VR ρ γ (oneOr vs) v' := by
  obtain ⟨vs', q1, q2⟩ := resT_ok h hE fn.results.toList hg hv
  have e : results fn a.tmps = (do let vs ← fn.results.mapM (resM a.tmps); pure (if h : vs.size = 1 then vs[0] else .tuple vs)) := by
    unfold results
    congr 2
  have hm : (fn.results.mapM (resM a.tmps)).run P w = .ok vs'.toArray w := by
    rw [Array.mapM_eq_mapM_toList, Sem.run_map, q1]; rfl
  refine ⟨if h : vs'.toArray.size = 1 then vs'.toArray[0] else .tuple vs'.toArray, ?_, ?_⟩
  · rw [e]; simp only [Sem.run_bind, hm, Result.andThen_ok, Sem.run_pure]
  · have hlen := q2.length
    match vs, vs', q2 with
    | [], [], q2 => exact .tup [] #[] .nil
    | [v], [v'], .cons _ _ _ _ hv _ => exact hv
    | v :: v2 :: l, v' :: v2' :: l', q2 => exact .tup _ _ q2

theorem runF_ok (hD : DrawnOk P γ) {X : Ext} {r : Runs} (hX : ExtOk P γ X) (hr : RunsOk P γ r) : RecOk P γ (runF P X r) := by
  intro f args s k v1 s1 h
  unfold runF at h
  split at h
  rename_i g hg
  unfold fnT at hg
  cases hf : funI P f with
  | none => rw [hf] at hg; cases hg; cases h
  | some fn =>
    rw [hf] at hg
    simp only at hg
    cases hb : fn.body with
    | none => rw [hb] at hg; cases hg; cases h
    | some c =>
      rw [hb] at hg
      simp only at hg
      unfold fnAt at hg
      cases hc : codeT P fn.ntmps c with
      | mk F =>
        rw [hc] at hg
        simp only at hg
        cases ha : argsT fn.ntmps (fn.params.size + fn.nfree) 0 with
        | no => rw [ha] at hg; cases hg; cases h
        | mk fa =>
          rw [ha] at hg
          simp only at hg
          cases hres : resT P fn.ntmps fn.results.toList with
          | no => rw [hres] at hg; cases hg; cases h
          | mk res =>
            rw [hres] at hg; cases hg
            dsimp only at h
            cases henv : fa args .e with
            | none => rw [henv] at h; cases h
            | some env =>
              rw [henv] at h
              change F X r env s (fun env s => resR k s (res env s)) (atEnd fun env s => resR k s (res env s)) = .ok v1 s1 at h
              obtain ⟨e, env', s', q1, q2⟩ := code_ok hD hX hr c hc env s _ _ v1 s1 h
              have hend : ∃ vs, res env' s' = some vs ∧ k (oneOr vs) s' = .ok v1 s1 ∧ (e = .normal ∨ e = .ret) := by
                have key : resR k s' (res env' s') = .ok v1 s1 → ∃ vs, res env' s' = some vs ∧ k (oneOr vs) s' = .ok v1 s1 := by
                  intro hk
                  unfold resR at hk
                  split at hk <;> (try (cases hk; done))
                  rename_i vs hvs
                  exact ⟨vs, hvs, hk⟩
                cases e with
                | normal => obtain ⟨vs, m1, m2⟩ := key q1; exact ⟨vs, m1, m2, .inl rfl⟩
                | ret => obtain ⟨vs, m1, m2⟩ := key q1; exact ⟨vs, m1, m2, .inr rfl⟩
                | exit i => cases q1
                | goto i => cases q1
              obtain ⟨vs, m1, m2, m3⟩ := hend
              refine ⟨oneOr vs, s', m2, fun ρ w args' hrel hgl hv => ?_⟩
              refine calls_of_wp (funI_eq hf) hb ?_
              refine q2 ρ w _ hrel hgl (enter_ER ha henv hv) _ ?_
              intro ρ' w' a' g1 g2 g3
              obtain ⟨v', p1, p2⟩ := results_ok g2 g3 hres m1
              rcases m3 with rfl | rfl
              · exact ⟨g3.defers, v', p1, v', ρ', rfl, g1, g2, p2⟩
              · exact ⟨g3.defers, v', p1, v', ρ', rfl, g1, g2, p2⟩

/-- The whole of it. -/
theorem run_ok (hD : DrawnOk P γ) {X : Ext} (hX : ExtOk P γ X) : ∀ m, RunsOk P γ (run P X m)
  | 0 => { l := fun _ _ _ _ _ _ _ _ h => (nomatch (show R.no = R.ok _ _ from h)), s := fun _ _ _ _ _ _ _ _ _ h => (nomatch (show R.no = R.ok _ _ from h)), f := fun _ _ _ _ _ _ h => (nomatch (show R.no = R.ok _ _ from h)) }
  | m + 1 => ⟨runL_ok hD hX (run_ok hD hX m), runS_ok hD hX (run_ok hD hX m), runF_ok hD hX (run_ok hD hX m)⟩
end Go.Eng
