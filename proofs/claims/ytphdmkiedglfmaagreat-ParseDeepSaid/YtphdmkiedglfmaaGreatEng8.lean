/- A part of the proof: an interpreter of the program, shown right once, and the laws that it computes. -/
import Derived.Test.YtphdmkiedglfmaaGreatEng5
set_option linter.constructorNameAsVariable false
set_option linter.unusedVariables false
set_option linter.unusedSimpArgs false
namespace Go.Eng
variable {P : Program} {γ : Gam}

theorem part_sim {ρ : Rho} {t off : Nat} {l : List IV} {a : Array Value} {v : IV} {w : World} (hl : VRs ρ γ l a.toList) (h : Eng.part P t l off = some v) :
    ∃ v', (Go.part t a off).run P w = .ok v' w ∧ VR ρ γ v v' := by
  unfold Eng.part at h
  unfold Go.part
  cases ht : aggT P t with
  | none => simp [ht] at h
  | some b =>
    cases b with
    | true =>
      simp only [ht] at h
      cases hn : size P t with
      | none => simp [hn] at h
      | some n =>
        simp only [hn] at h
        cases hd : dropN off l with
        | none => simp [hd] at h
        | some r =>
          simp only [hd] at h
          cases hk : takeN n r with
          | none => simp [hk] at h
          | some q =>
            simp only [hk] at h
            cases h
            obtain ⟨h1, h2⟩ := hl.drop hd
            obtain ⟨h3, h4⟩ := h2.take hk
            refine ⟨.agg (a.extract off (off + n)), by simp only [Sem.run_bind, run_isAgg ht, Result.andThen_ok, if_true, run_sizeOf hn, Sem.run_pure], .agg _ _ ?_⟩
            simp only [Array.toList_extract, List.extract_eq_take_drop]
            rw [show off + n - off = n by omega]; exact h4
    | false =>
      simp only [ht] at h
      obtain ⟨v', h1, h2⟩ := hl.nth h
      refine ⟨v', ?_, h2⟩
      have : a[off]? = some v' := by simpa using h1
      simp only [Sem.run_bind, run_isAgg ht, Result.andThen_ok, Bool.false_eq_true, if_false, this, Sem.run_pure]

/-- What the model's '==' does with a struct's fields. -/
def fieldsM (rec : TypeId → Value → Value → Sem Bool) (xs ys : Array Value) : List Field → Sem Bool
  | [] => pure true
  | f :: fs => do
    if f.name ≠ "_" then
      if !(← rec f.type (← Go.part f.type xs f.offset) (← Go.part f.type ys f.offset)) then pure false else fieldsM rec xs ys fs
    else fieldsM rec xs ys fs

theorem fields_sim {ρ : Rho} {w : World} {rec : Nat → IV → IV → Option Bool} {recM : TypeId → Value → Value → Sem Bool} {xs ys : List IV} {xs' ys' : Array Value} (hx : VRs ρ γ xs xs'.toList) (hy : VRs ρ γ ys ys'.toList)
    (hrec : ∀ (t : Nat) (a b : IV) (a' b' : Value) (r : Bool), VR ρ γ a a' → VR ρ γ b b' → rec t a b = some r → (recM t a' b').run P w = .ok r w) :
    ∀ {fs : List Field} {r : Bool}, eqFields P rec xs ys fs = some r → (fieldsM recM xs' ys' fs).run P w = .ok r w
  | [], r, h => by simp [eqFields] at h; subst h; rfl
  | f :: fs, r, h => by
    unfold eqFields at h
    unfold fieldsM
    by_cases hn : f.name = "_"
    · simp [hn] at h
    · rw [if_neg hn] at h
      simp only [ne_eq, hn, not_false_eq_true, if_true]
      cases h1 : Eng.part P f.type xs f.offset with
      | none => simp [h1] at h
      | some a =>
        simp only [h1] at h
        cases h2 : Eng.part P f.type ys f.offset with
        | none => simp [h2] at h
        | some b =>
          simp only [h2] at h
          obtain ⟨a', ha1, ha2⟩ := part_sim (P := P) (w := w) hx h1
          obtain ⟨b', hb1, hb2⟩ := part_sim (P := P) (w := w) hy h2
          cases h3 : rec f.type a b with
          | none => simp [h3] at h
          | some q =>
            have hq := hrec _ _ _ _ _ _ ha2 hb2 h3
            simp only [Sem.run_bind, ha1, hb1, hq, Result.andThen_ok]
            cases q with
            | true => simp only [h3] at h; simp only [Bool.not_true, Bool.false_eq_true, if_false]; exact fields_sim hx hy hrec h
            | false => simp [h3] at h; subst h; rfl

theorem forIn_fields (recM : TypeId → Value → Value → Sem Bool) (xs ys : Array Value) : ∀ (fs : List Field),
    (do
      let r ← forIn fs ((none, ()) : Option Bool × Unit) fun f _ => do
        if f.name ≠ "_" then
          if !(← recM f.type (← Go.part f.type xs f.offset) (← Go.part f.type ys f.offset)) then pure (ForInStep.done (some false, ())) else pure (ForInStep.yield (none, ()))
        else pure (ForInStep.yield (none, ()))
      match r.1 with
      | some a => pure a
      | none => pure true : Sem Bool) = fieldsM recM xs ys fs := by
  intro fs
  induction fs with
  | nil => rfl
  | cons f fs ih =>
    rw [List.forIn_cons]
    unfold fieldsM
    rw [← ih]
    by_cases hn : f.name = "_"
    · simp [hn]
    · simp only [ne_eq, hn, not_false_eq_true, if_true, bind_assoc]
      congr 1; funext a
      congr 1; funext b
      congr 1; funext c
      cases c <;> simp

def elemsM (rec : TypeId → Value → Value → Sem Bool) (e n : Nat) (xs ys : Array Value) : List Nat → Sem Bool
  | [] => pure true
  | i :: is => do
    if !(← rec e (← Go.part e xs (i * n)) (← Go.part e ys (i * n))) then pure false else elemsM rec e n xs ys is
theorem elems_sim {ρ : Rho} {w : World} {rec : Nat → IV → IV → Option Bool} {recM : TypeId → Value → Value → Sem Bool} {e n : Nat} {xs ys : List IV} {xs' ys' : Array Value} (hx : VRs ρ γ xs xs'.toList) (hy : VRs ρ γ ys ys'.toList)
    (hrec : ∀ (t : Nat) (a b : IV) (a' b' : Value) (r : Bool), VR ρ γ a a' → VR ρ γ b b' → rec t a b = some r → (recM t a' b').run P w = .ok r w) :
    ∀ {m i : Nat} {r : Bool}, eqElems P rec e n xs ys m i = some r → (elemsM recM e n xs' ys' (List.range' i m)).run P w = .ok r w
  | 0, i, r, h => by simp [eqElems] at h; subst h; rfl
  | m + 1, i, r, h => by
    unfold eqElems at h
    rw [List.range'_succ]
    unfold elemsM
    simp only [Nat.mul_eq, Nat.succ_eq_add_one] at h
    cases h1 : Eng.part P e xs (i * n) with
    | none => simp [h1] at h
    | some a =>
      simp only [h1] at h
      cases h2 : Eng.part P e ys (i * n) with
      | none => simp [h2] at h
      | some b =>
        simp only [h2] at h
        obtain ⟨a', ha1, ha2⟩ := part_sim (P := P) (w := w) hx h1
        obtain ⟨b', hb1, hb2⟩ := part_sim (P := P) (w := w) hy h2
        cases h3 : rec e a b with
        | none => simp [h3] at h
        | some q =>
          have hq := hrec _ _ _ _ _ _ ha2 hb2 h3
          simp only [Sem.run_bind, ha1, hb1, hq, Result.andThen_ok]
          cases q with
          | true => simp only [h3] at h; simp only [Bool.not_true, Bool.false_eq_true, if_false]; exact elems_sim hx hy hrec h
          | false => simp [h3] at h; subst h; rfl
theorem forIn_elems (recM : TypeId → Value → Value → Sem Bool) (e n : Nat) (xs ys : Array Value) : ∀ (is : List Nat),
    (do
      let r ← forIn is ((none, ()) : Option Bool × Unit) fun i _ => do
        if !(← recM e (← Go.part e xs (i * n)) (← Go.part e ys (i * n))) then pure (ForInStep.done (some false, ())) else pure (ForInStep.yield (none, ()))
      match r.1 with
      | some a => pure a
      | none => pure true : Sem Bool) = elemsM recM e n xs ys is := by
  intro is
  induction is with
  | nil => rfl
  | cons i is ih =>
    rw [List.forIn_cons]
    unfold elemsM
    rw [← ih]
    simp only [bind_assoc]
    congr 1; funext a
    congr 1; funext b
    congr 1; funext c
    cases c <;> simp

theorem eqv_succ (d t : Nat) (x y : IV) : eqv P (d + 1) t x y = eqvIn P (eqv P d) t x y := rfl

theorem eqv_sim {ρ : Rho} {s : St} {w : World} (hr : Rel P γ ρ s w) : ∀ (d : Nat) {t : Nat} {x y : IV} {x' y' : Value} {r : Bool}, VR ρ γ x x' → VR ρ γ y y' → eqv P d t x y = some r → (Op.equalIn d t x' y').run P w = .ok r w
  | 0, t, x, y, x', y', r, _, _, h => by simp [eqv] at h
  | d + 1, t, x, y, x', y', r, hx, hy, h => by
    rw [eqv_succ] at h
    unfold eqvIn at h
    cases hu : undI P t with
    | none => simp [hu] at h
    | some u =>
      simp only [hu] at h
      have hru := run_underlying (undI_eq hu) w
      unfold Op.equalIn
      simp only [Sem.run_bind, hru, Result.andThen_ok]
      unfold eqAt at h
      cases u <;> simp only at h <;> (try (cases h; done))
      case bool =>
        cases hx <;> cases hy <;> simp at h
        subst h; rfl
      case int =>
        cases hx <;> cases hy <;> simp at h
        · split at h
          · rename_i hk
            cases h
            have := (kindEq_iff _ _).1 hk
            subst this
            simp [eqI_eq]
          · cases h
        · rename_i a ha hia hsa hla hra b hb hib hsb hlb hrb
          split at h <;> (try (cases h; done))
          rename_i hab
          split at h <;> (try (cases h; done))
          rename_i hlt
          have hab' := Nat.eq_of_beq_eq_true hab
          subst hab'
          obtain ⟨n, hn⟩ := hia (by simpa [Nat.blt_eq] using hlt)
          cases h
          rw [hn]
          simp
      case string =>
        cases hx with
        | str s1 l1 h1 => cases hy with
          | str s2 l2 h2 => simp at h; subst h; subst h1 h2; rw [listEq_bytes]; simp only [Sem.run_pure]; congr 1; rw [show (s1 == s2) = (s1.data == s2.data) from rfl, Bool.eq_iff_iff]; simp [toList_data]
          | _ => simp at h
        | _ => cases hy <;> simp at h
      case pointer e =>
        cases hx <;> cases hy <;> simp at h
        · subst h; rfl
        · subst h; rfl
        · subst h; rfl
        · rename_i b o p hb b' o' p' hb'
          unfold ptrEq at h
          cases hs : size P e with
          | none => simp [hs] at h
          | some n =>
            cases n with
            | zero => simp [hs] at h
            | succ n =>
              simp only [hs] at h
              cases hbb : Nat.beq b b' with
              | false => simp [hbb] at h
              | true =>
                simp only [hbb] at h
                have := Nat.eq_of_beq_eq_true hbb
                subst this
                rw [hb] at hb'; cases hb'
                cases h
                simp only [run_sizeOf hs, Sem.run_bind, Result.andThen_ok, ne_eq, Nat.add_eq_zero_iff, Nat.succ_ne_self, and_false, not_false_eq_true, if_true, sameAddr, beq_self_eq_true, Sem.run_pure, Nat.one_ne_zero]
                congr 1
                rw [Bool.eq_iff_iff]
                simp
      case interface ms =>
        cases hx <;> cases hy <;> simp at h
        · subst h; rfl
        · subst h; rfl
        · subst h; rfl
        · rename_i tx vx vx' hvx ty vy vy' hvy
          unfold ifaceEq at h
          cases hbb : Nat.beq tx ty with
          | false =>
            simp [hbb] at h; subst h
            have hne : tx ≠ ty := fun e => by subst e; simp at hbb
            simp [hne]
          | true =>
            have := Nat.eq_of_beq_eq_true hbb
            subst this
            simp only [hbb] at h
            cases hi : infoI P tx with
            | none => simp [hi] at h
            | some i =>
              simp only [hi] at h
              cases hc : i.comparable with
              | false => simp [hc] at h
              | true =>
                simp only [hc] at h
                simp only [ne_eq, not_true_eq_false, if_false, Sem.run_bind, run_typeInfo (infoI_eq hi), Result.andThen_ok, hc, Bool.not_true, Bool.false_eq_true]
                exact eqv_sim hr d hvx hvy h
      case array len e =>
        cases hx <;> cases hy <;> simp at h
        rename_i xs xs' hxs ys ys' hys
        cases hs : size P e with
        | none => simp [hs] at h
        | some n =>
          simp only [hs] at h
          have := elems_sim (P := P) (w := w) (recM := Op.equalIn d) hxs hys (fun _ _ _ _ _ _ ha hb hrr => eqv_sim hr d ha hb hrr) h
          rw [← forIn_elems] at this
          simp only [Sem.run_bind, run_sizeOf hs, Result.andThen_ok]
          simp only [Std.Legacy.Range.forIn_eq_forIn_range', Std.Legacy.Range.size, Nat.sub_zero, Nat.add_one_sub_one, Nat.div_one]
          rw [Sem.run_bind] at this
          refine Eq.trans ?_ this
          congr 1
          funext a w'
          obtain ⟨a1, a2⟩ := a
          cases a1 <;> rfl
      case struct fs =>
        cases hx <;> cases hy <;> simp at h
        rename_i xs xs' hxs ys ys' hys
        cases hst : P.stoodInHeld t with
        | true => simp [hst] at h
        | false =>
          simp only [hst] at h
          have := fields_sim (P := P) (w := w) (recM := Op.equalIn d) hxs hys (fun _ _ _ _ _ _ ha hb hrr => eqv_sim hr d ha hb hrr) h
          rw [← forIn_fields] at this
          simp only [run_program, Result.andThen_ok, hst, Bool.false_eq_true, if_false, Sem.run_bind]
          rw [← Array.forIn_toList]
          rw [Sem.run_bind] at this
          refine Eq.trans ?_ this
          congr 1
          funext a w'
          obtain ⟨a1, a2⟩ := a
          cases a1 <;> rfl
      case slice e =>
        cases hx <;> cases hy <;> simp at h <;> subst h <;> rfl
      case map k e =>
        cases hx <;> cases hy <;> simp at h <;> subst h <;> rfl
      case func a b c =>
        cases hx <;> cases hy <;> simp at h <;> subst h <;> rfl
end Go.Eng
