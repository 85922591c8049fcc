/- A part of the proof: an interpreter of the program, shown right once, and the laws that it computes. -/
import Derived.Test.YtpanfhfcpniodaaGreatDoorEng2
set_option linter.constructorNameAsVariable false
set_option linter.unusedVariables false
namespace Go.Eng

/- lists as tables -/
theorem tabOf_cons {α : Type} (x : α) (l : List α) (i : Nat) (t : PT (Option α)) : tabOf (x :: l) i t = tabOf l (i + 1) (PT.set none t i (some x)) := rfl
theorem get_tabOf {α : Type} : ∀ (l : List α) (i : Nat) (t : PT (Option α)) (k : Nat), PT.get none (tabOf l i t) k = if i ≤ k ∧ k < i + l.length then l[k - i]? else PT.get none t k := by
  intro l
  induction l with
  | nil => intro i t k; rw [if_neg (by simp)]; rfl
  | cons x l ih =>
    intro i t k
    rw [tabOf_cons, ih, PT.get_set]
    by_cases h1 : k = i
    · subst h1
      rw [if_neg (by omega), if_pos rfl, if_pos (by simp)]
      simp
    · by_cases h2 : i ≤ k ∧ k < i + (x :: l).length
      · have h3 : i + 1 ≤ k ∧ k < i + 1 + l.length := by simp at h2; omega
        rw [if_pos h2, if_pos h3]
        have : k - i = (k - (i + 1)) + 1 := by omega
        rw [this]; rfl
      · have h3 : ¬ (i + 1 ≤ k ∧ k < i + 1 + l.length) := by simp at h2; omega
        rw [if_neg h2, if_neg h3, if_neg h1]

variable {P : Program}

theorem infoI_eq {t : Nat} {i : TypeInfo} (h : infoI P t = some i) : P.info? t = some i := by
  unfold infoI infoTab at h
  rw [get_tabOf] at h
  split at h
  · rename_i hk
    have hlt : t < P.types.size := by simpa using hk.2
    unfold Tables.info?
    rw [if_pos hlt]
    simpa using h
  · simp [PT.get_e] at h

theorem undI_eq {t : Nat} {d : TypeDesc} (h : undI P t = some d) : P.underlying t = some d := by
  unfold undI at h
  unfold Program.underlying
  cases hi : infoI P t with
  | none => simp [hi] at h
  | some i =>
    rw [infoI_eq hi]
    simp only [hi] at h
    obtain ⟨desc, str, sz, by_, hp, al, fa, z, cm, ms⟩ := i
    cases desc <;> simp at h ⊢ <;> (try exact h)
    rename_i nm u
    cases hj : infoI P u with
    | none => simp [hj] at h
    | some j => simp [hj] at h; exact ⟨j, infoI_eq hj, h⟩

theorem funI_eq {f : Nat} {fn : Func} (h : funI P f = some fn) : P.funcs[f]? = some fn := by
  unfold funI funTab at h
  rw [get_tabOf] at h
  split at h
  · simpa using h
  · simp [PT.get_e] at h

theorem size_eq {t n : Nat} (h : size P t = some n) : ∃ i, P.info? t = some i ∧ i.size = n := by
  unfold size at h
  cases hi : infoI P t with
  | none => simp [hi] at h
  | some i => simp [hi] at h; exact ⟨i, infoI_eq hi, h⟩

theorem zero_eq {t : Nat} {z : IV} (h : zero P t = some z) : ∃ i v, P.info? t = some i ∧ i.zero = some v ∧ ofValue v = some z := by
  unfold zero at h
  cases hi : infoI P t with
  | none => simp [hi] at h
  | some i =>
    simp only [hi] at h
    cases hz : i.zero with
    | none => simp [hz] at h
    | some v => simp only [hz] at h; exact ⟨i, v, infoI_eq hi, hz, h⟩

/- the model's own looks at types -/
theorem run_typeInfo {t : Nat} {i : TypeInfo} (h : P.info? t = some i) (w : World) : (typeInfo t).run P w = .ok i w := by
  unfold typeInfo; simp [h]
theorem run_underlying {t : Nat} {d : TypeDesc} (h : P.underlying t = some d) (w : World) : (underlying t).run P w = .ok d w := by
  unfold underlying; simp [h]
theorem run_sizeOf {t n : Nat} (h : size P t = some n) (w : World) : (sizeOf t).run P w = .ok n w := by
  obtain ⟨i, hi, hn⟩ := size_eq h
  unfold sizeOf; simp [run_typeInfo hi, hn]
theorem run_zeroValue {t : Nat} {z : IV} (h : zero P t = some z) : ∃ v, ofValue v = some z ∧ ∀ w, (zeroValue t).run P w = .ok v w := by
  obtain ⟨i, v, hi, hv, hz⟩ := zero_eq h
  exact ⟨v, hz, fun w => by unfold zeroValue; simp [run_typeInfo hi, hv]⟩
theorem run_isAgg {t : Nat} {b : Bool} (h : aggT P t = some b) (w : World) : (isAgg t).run P w = .ok b w := by
  unfold aggT at h
  unfold isAgg
  cases hu : undI P t with
  | none => simp [hu] at h
  | some d =>
    simp only [Sem.run_bind, run_underlying (undI_eq hu), Result.andThen_ok]
    cases d <;> simp [hu] at h <;> subst h <;> rfl

/- slots -/
def T8.top (t : T8) : IV := match t with
  | .v x => x
  | _ => undefI
noncomputable def kidF (i : Nat) (t : T8) : T8 := match kidT i with
  | .mk f => f t
noncomputable def updF (i : Nat) (u : T8 → T8) (t : T8) : T8 := match updT i with
  | .mk f => f u t
theorem kid_upd (i j : Nat) (hi : i < 8) (hj : j < 8) (u : T8 → T8) (t : T8) : kidF i (updF j u t) = if i = j then u (kidF j t) else kidF i t := by
  match i, hi, j, hj with
  | 0, _, 0, _ | 0, _, 1, _ | 0, _, 2, _ | 0, _, 3, _ | 0, _, 4, _ | 0, _, 5, _ | 0, _, 6, _ | 0, _, 7, _
  | 1, _, 0, _ | 1, _, 1, _ | 1, _, 2, _ | 1, _, 3, _ | 1, _, 4, _ | 1, _, 5, _ | 1, _, 6, _ | 1, _, 7, _
  | 2, _, 0, _ | 2, _, 1, _ | 2, _, 2, _ | 2, _, 3, _ | 2, _, 4, _ | 2, _, 5, _ | 2, _, 6, _ | 2, _, 7, _
  | 3, _, 0, _ | 3, _, 1, _ | 3, _, 2, _ | 3, _, 3, _ | 3, _, 4, _ | 3, _, 5, _ | 3, _, 6, _ | 3, _, 7, _
  | 4, _, 0, _ | 4, _, 1, _ | 4, _, 2, _ | 4, _, 3, _ | 4, _, 4, _ | 4, _, 5, _ | 4, _, 6, _ | 4, _, 7, _
  | 5, _, 0, _ | 5, _, 1, _ | 5, _, 2, _ | 5, _, 3, _ | 5, _, 4, _ | 5, _, 5, _ | 5, _, 6, _ | 5, _, 7, _
  | 6, _, 0, _ | 6, _, 1, _ | 6, _, 2, _ | 6, _, 3, _ | 6, _, 4, _ | 6, _, 5, _ | 6, _, 6, _ | 6, _, 7, _
  | 7, _, 0, _ | 7, _, 1, _ | 7, _, 2, _ | 7, _, 3, _ | 7, _, 4, _ | 7, _, 5, _ | 7, _, 6, _ | 7, _, 7, _ => cases t <;> rfl
  | i + 8, h, _, _ => omega
  | _, _, j + 8, h => omega

theorem slot2_eq (i j : Nat) : slot2 i j = .mk (fun env => T8.top (kidF j (kidF i env))) (fun x env => updF i (updF j fun _ => .v x) env) := by
  unfold slot2 kidF updF
  cases kidT i with
  | mk f => cases kidT j with
    | mk g => cases updT i with
      | mk u => cases updT j with
        | mk v =>
          simp only
          congr 1
          funext env
          cases g (f env) <;> rfl
theorem slot3_eq (i j k : Nat) : slot3 i j k = .mk (fun env => T8.top (kidF k (kidF j (kidF i env)))) (fun x env => updF i (updF j (updF k fun _ => .v x)) env) := by
  unfold slot3 kidF updF
  cases kidT i with
  | mk f => cases kidT j with
    | mk g => cases kidT k with
      | mk h => cases updT i with
        | mk u => cases updT j with
          | mk v => cases updT k with
            | mk w =>
              simp only
              congr 1
              funext env
              cases h (g (f env)) <;> rfl

theorem slot_lt {n t : Nat} {f : T8 → IV} {g : IV → T8 → T8} (h : slotT n t = .mk f g) : t < n := by
  unfold slotT at h
  cases hb : Nat.blt t n with
  | false => simp [hb] at h
  | true => simpa [Nat.blt_eq] using hb

theorem slot_put {n t t' : Nat} {f f' : T8 → IV} {g g' : IV → T8 → T8} (h : slotT n t = .mk f g) (h' : slotT n t' = .mk f' g') (x : IV) (env : T8) :
    f' (g x env) = if t' = t then x else f' env := by
  have ht := slot_lt h
  have ht' := slot_lt h'
  unfold slotT at h h'
  rw [show Nat.blt t n = true from by simpa [Nat.blt_eq] using ht] at h
  rw [show Nat.blt t' n = true from by simpa [Nat.blt_eq] using ht'] at h'
  simp only at h h'
  cases h1 : Nat.ble n 64 with
  | true =>
    have hn : n ≤ 64 := Nat.le_of_ble_eq_true h1
    simp only [h1] at h h'
    rw [slot2_eq] at h h'
    injection h with hf hg
    injection h' with hf' hg'
    subst hf hg hf' hg'
    simp only
    rw [kid_upd _ _ (by omega) (by omega)]
    by_cases e : t' / 8 = t / 8
    · rw [if_pos e, kid_upd _ _ (by omega) (by omega)]
      by_cases e2 : t' % 8 = t % 8
      · rw [if_pos e2, if_pos (by omega)]; rfl
      · rw [if_neg e2, if_neg (by omega), e]
    · rw [if_neg e, if_neg (by intro h; subst h; exact e rfl)]
  | false =>
    simp only [h1] at h h'
    cases h2 : Nat.ble n 512 with
    | false => simp [h2] at h
    | true =>
      have hn : n ≤ 512 := Nat.le_of_ble_eq_true h2
      simp only [h2] at h h'
      rw [slot3_eq] at h h'
      injection h with hf hg
      injection h' with hf' hg'
      subst hf hg hf' hg'
      simp only
      rw [kid_upd _ _ (by omega) (by omega)]
      by_cases e : t' / 64 = t / 64
      · rw [if_pos e, kid_upd _ _ (by omega) (by omega)]
        by_cases e1 : t' / 8 % 8 = t / 8 % 8
        · rw [if_pos e1, kid_upd _ _ (by omega) (by omega)]
          by_cases e2 : t' % 8 = t % 8
          · rw [if_pos e2, if_pos (by omega)]; rfl
          · rw [if_neg e2, if_neg (by omega), e, e1]
        · rw [if_neg e1, if_neg (by intro h; subst h; exact e1 rfl), e]
      · rw [if_neg e, if_neg (by intro h; subst h; exact e rfl)]

/-- Nothing stands in an empty one. -/
theorem slot_e {n t : Nat} {f : T8 → IV} {g : IV → T8 → T8} (h : slotT n t = .mk f g) : f .e = undefI := by
  have key : ∀ i, kidF i .e = .e := by
    intro i
    match i with
    | 0 | 1 | 2 | 3 | 4 | 5 | 6 => rfl
    | i + 7 => rfl
  unfold slotT at h
  split at h
  · split at h
    · rw [slot2_eq] at h
      injection h with hf hg
      subst hf
      simp only [key]; rfl
    · split at h
      · rw [slot3_eq] at h
        injection h with hf hg
        subst hf
        simp only [key]; rfl
      · simp at h
  · simp at h

/- rows of cells -/
theorem rdC_zero (c : PT IV) (o : Nat) : rdC c 0 o = [] := rfl
theorem rdC_succ (c : PT IV) (n o : Nat) : rdC c (n + 1) o = PT.get undefI c o :: rdC c n (o + 1) := rfl
theorem length_rdC (c : PT IV) : ∀ (n o : Nat), (rdC c n o).length = n
  | 0, _ => rfl
  | n + 1, o => by rw [rdC_succ, List.length_cons, length_rdC c n]
theorem get_rdC (c : PT IV) : ∀ (n o k : Nat), k < n → (rdC c n o)[k]? = some (PT.get undefI c (o + k))
  | 0, _, _, h => by omega
  | n + 1, o, 0, _ => by rw [rdC_succ]; rfl
  | n + 1, o, k + 1, h => by
    rw [rdC_succ, List.getElem?_cons_succ, get_rdC c n (o + 1) k (by omega)]
    congr 2; omega
theorem wrC_nil (c : PT IV) (o : Nat) : wrC [] c o = c := rfl
theorem wrC_cons (v : IV) (vs : List IV) (c : PT IV) (o : Nat) : wrC (v :: vs) c o = wrC vs (PT.set undefI c o v) (o + 1) := rfl
theorem get_wrC : ∀ (vs : List IV) (c : PT IV) (o k : Nat), PT.get undefI (wrC vs c o) k = if h : o ≤ k ∧ k < o + vs.length then vs[k - o]'(by omega) else PT.get undefI c k
  | [], c, o, k => by rw [dif_neg (by simp), wrC_nil]
  | v :: vs, c, o, k => by
    rw [wrC_cons, get_wrC vs, PT.get_set]
    by_cases h1 : k = o
    · subst h1
      rw [dif_neg (by omega), if_pos rfl, dif_pos (by simp)]
      simp
    · by_cases h2 : o ≤ k ∧ k < o + (v :: vs).length
      · have h3 : o + 1 ≤ k ∧ k < o + 1 + vs.length := by simp at h2; omega
        rw [dif_pos h2, dif_pos h3]
        have e : k - o = (k - (o + 1)) + 1 := by omega
        simp only [e, List.getElem_cons_succ]
      · have h3 : ¬ (o + 1 ≤ k ∧ k < o + 1 + vs.length) := by simp at h2; omega
        rw [dif_neg h2, dif_neg h3, if_neg h1]
end Go.Eng
