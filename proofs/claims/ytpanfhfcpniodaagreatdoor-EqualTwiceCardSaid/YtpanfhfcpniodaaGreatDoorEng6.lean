/- A part of the proof: an interpreter of the program, shown right once, and the laws that it computes. -/
import Derived.Test.YtpanfhfcpniodaaGreatDoorEng5
set_option linter.constructorNameAsVariable false
set_option linter.unusedVariables false
namespace Go.Eng
variable {P : Program} {γ : Gam}

/-- An operation of the model answers what the ideal one does. -/
def Yields (P : Program) (γ : Gam) (ρ : Rho) (s : St) (w : World) (m : Sem Value) (v : IV) (s' : St) : Prop :=
  ∃ v' w' ρ', m.run P w = .ok v' w' ∧ Goes ρ s w ρ' s' w' ∧ Rel P γ ρ' s' w' ∧ VR ρ' γ v v'
theorem Yields.same {ρ : Rho} {s : St} {w : World} {m : Sem Value} {v : IV} {v' : Value} (h : Rel P γ ρ s w) (hr : m.run P w = .ok v' w) (hv : VR ρ γ v v') : Yields P γ ρ s w m v s :=
  ⟨v', w, ρ, hr, Goes.refl ρ s w, h, hv⟩

theorem one_of {ρ : Rho} {v : IV} {v' : Value} (h : VR ρ γ v v') (ho : v.one = true) : v'.oneCell' = true := by
  cases h <;> first
    | rfl
    | assumption
    | (simp [IV.one] at ho)
theorem ones_of {ρ : Rho} {l : List IV} {l' : List Value} (h : VRs ρ γ l l') (ho : allB IV.one l = true) : ∀ v ∈ l', v.oneCell' = true := by
  rw [allB_iff] at ho
  induction l generalizing l' with
  | nil => cases h; simp
  | cons x l ih =>
    cases h with
    | cons v v' _ l'' h hs =>
      intro u hu
      cases hu with
      | head => exact one_of h (ho _ (by simp))
      | tail _ hm => exact ih hs (fun y hy => ho y (by simp [hy])) u hm

theorem VRs.of_get {ρ : Rho} : ∀ {l : List IV} {l' : List Value}, l.length = l'.length → (∀ (k : Nat) (v : IV), l[k]? = some v → ∃ v', l'[k]? = some v' ∧ VR ρ γ v v') → VRs ρ γ l l'
  | [], [], _, _ => .nil
  | x :: l, y :: l', hl, h => by
    obtain ⟨v', h1, h2⟩ := h 0 x rfl
    simp at h1; subst h1
    exact .cons _ _ _ _ h2 (VRs.of_get (by simpa using hl) fun k v hk => by simpa using h (k + 1) v (by simpa using hk))
  | [], y :: l', hl, _ => by simp at hl
  | x :: l, [], hl, _ => by simp at hl

theorem VRs.get {ρ : Rho} : ∀ {l : List IV} {l' : List Value}, VRs ρ γ l l' → ∀ {k : Nat} {v : IV}, l[k]? = some v → ∃ v', l'[k]? = some v' ∧ VR ρ γ v v'
  | _, _, .nil, k, v, h => by simp at h
  | _, _, .cons a a' l l' h hs, k, v, hk => by
    cases k with
    | zero => simp at hk; subst hk; exact ⟨a', rfl, h⟩
    | succ k => simp at hk; simpa using VRs.get hs hk

/-- A row that lives. -/
theorem Rel.row {ρ : Rho} {s : St} {w : World} (h : Rel P γ ρ s w) {b : Nat} {p : Pl} (hb : ρ b = some p) {c : PT IV} {len e fz str : Nat} (hg : s.get b = .cells c len e fz str) :
    ∃ arr fr, w.heap[p.blk]? = some (.cells arr e fr) ∧ OR P ρ γ p (.cells c len e fz str) (.cells arr e fr) := by
  obtain ⟨o, h1, h2⟩ := h.live b p hb (by rw [hg]; exact fun h => h)
  rw [hg] at h2
  cases h2 with
  | cells c len elem fz str arr fr hl ha hc hf hs ht hz => exact ⟨arr, fr, h1, .cells c len e fz str arr fr hl ha hc hf hs ht hz⟩

theorem rd_some {s : St} {b o n : Nat} {l : List IV} (h : s.rd b o n = some l) : ∃ c len e fz str, s.get b = .cells c len e fz str ∧ o + n ≤ len ∧ l = rdC c n o := by
  unfold St.rd rdIn at h
  cases hg : s.get b with
  | cells c len e fz str =>
    rw [hg] at h
    change Bool.rec (motive := fun _ => Option (List IV)) none (some (rdC c n o)) (Nat.ble (o + n) len) = some l at h
    cases hb : Nat.ble (o + n) len with
    | false => rw [hb] at h; cases h
    | true => rw [hb] at h; exact ⟨c, len, e, fz, str, rfl, Nat.le_of_ble_eq_true hb, (Option.some.inj h).symm⟩
  | map es cl => rw [hg] at h; cases h
  | siter r p => rw [hg] at h; cases h
  | dead => rw [hg] at h; cases h

theorem Rel.rd {ρ : Rho} {s : St} {w : World} (h : Rel P γ ρ s w) {b : Nat} {p : Pl} (hb : ρ b = some p) {o n : Nat} {l : List IV} (hr : s.rd b o n = some l) :
    ∃ arr e fr, w.heap[p.blk]? = some (.cells arr e fr) ∧ p.shift + o + n ≤ arr.size ∧ VRs ρ γ l (arr.extract (p.shift + o) (p.shift + o + n)).toList := by
  obtain ⟨c, len, e, fz, str, hg, hl, rfl⟩ := rd_some hr
  obtain ⟨arr, fr, h1, h2⟩ := h.row hb hg
  cases h2 with
  | cells _ _ _ _ _ _ _ hl' ha hc hf hs htg hz =>
    refine ⟨arr, e, fr, h1, by omega, VRs.of_get ?_ ?_⟩
    · rw [length_rdC]; simp; omega
    · intro k v hk
      have hkn : k < n := by
        have := (List.getElem?_eq_some_iff.1 hk).1
        rwa [length_rdC] at this
      rw [get_rdC c n o k hkn] at hk
      cases hk
      obtain ⟨v', hv1, hv2⟩ := hc (o + k) (by omega)
      refine ⟨v', ?_, hv2⟩
      simp only [Array.toList_extract, List.extract_eq_take_drop]
      rw [List.getElem?_take_of_lt (by omega), List.getElem?_drop]
      rw [← hv1]
      simp [Nat.add_assoc]

theorem wr_ok {s s' : St} {b o : Nat} {vs : List IV} (h : s.wr b o vs = .ok s') : ∃ c len e fz str, s.get b = .cells c len e fz str ∧ fz ≤ o ∧ o + vs.length ≤ len ∧ allB IV.one vs = true ∧ s' = s.put b (.cells (wrC vs c o) len e fz str) := by
  unfold St.wr wrIn at h
  cases hg : s.get b with
  | cells c len e fz str =>
    rw [hg] at h
    change Bool.rec (motive := fun _ => RS) .no (Bool.rec (motive := fun _ => RS) .no (Bool.rec (motive := fun _ => RS) .no (.ok (s.put b (.cells (wrC vs c o) len e fz str))) (allB IV.one vs)) (Nat.ble (o + vs.length) len)) (Nat.ble fz o) = .ok s' at h
    cases h1 : Nat.ble fz o with
    | false => rw [h1] at h; cases h
    | true =>
      rw [h1] at h
      cases h2 : Nat.ble (o + vs.length) len with
      | false => rw [h2] at h; cases h
      | true =>
        rw [h2] at h
        cases h3 : allB IV.one vs with
        | false => rw [h3] at h; cases h
        | true => rw [h3] at h; cases h; exact ⟨c, len, e, fz, str, rfl, Nat.le_of_ble_eq_true h1, Nat.le_of_ble_eq_true h2, rfl, rfl⟩
  | map es cl => rw [hg] at h; cases h
  | siter r p => rw [hg] at h; cases h
  | dead => rw [hg] at h; cases h

theorem Rel.wr {ρ : Rho} {s s' : St} {w : World} (h : Rel P γ ρ s w) {b : Nat} {p : Pl} (hb : ρ b = some p) {o : Nat} {vs : List IV} {vs' : List Value} (hv : VRs ρ γ vs vs') (hr : s.wr b o vs = .ok s') :
    ∃ w', (storeCells ⟨p.blk, p.shift + o, none⟩ vs').run P w = .ok () w' ∧ Goes ρ s w ρ s' w' ∧ Rel P γ ρ s' w' := by
  obtain ⟨c, len, e, fz, str, hg, hfz, hlen, hone, rfl⟩ := wr_ok hr
  obtain ⟨arr, fr, h1, h2⟩ := h.row hb hg
  have hll := hv.length
  cases h2 with
  | cells _ _ _ _ _ _ _ hl' ha hc hf hs htg hz =>
    have hrun := run_storeCells (P := P) vs' w p.blk (p.shift + o) 0 arr e fr h1 (by omega) (ones_of hv hone) (fun j hj hj' => hf j (by omega) (by omega))
    have hput := h.put (x := .cells (wrC vs c o) len e fz str) (o := .cells (wrArr arr (p.shift + o) vs') e fr) hb (by rw [hg]; exact fun h => h) (by
      refine .cells _ _ _ _ _ _ _ hl' (by rw [size_wrArr]; exact ha) ?_ hf hs htg hz
      intro j hj
      rw [get_wrC]
      by_cases hin : o ≤ j ∧ j < o + vs.length
      · rw [dif_pos hin, get_wrArr _ _ _ _ (by omega), if_pos (by omega)]
        have hk : vs[j - o]? = some (vs[j - o]'(by omega)) := List.getElem?_eq_getElem (by omega)
        obtain ⟨v', hv1, hv2⟩ := hv.get hk
        exact ⟨v', by rw [show p.shift + j - (p.shift + o) = j - o by omega]; exact hv1, hv2⟩
      · rw [dif_neg hin, get_wrArr _ _ _ _ (by omega), if_neg (by omega)]
        exact hc j hj)
    exact ⟨_, by simpa using hrun, hput.2, hput.1⟩

/-- A new row. -/
theorem Rel.row_new {ρ : Rho} {s : St} {w : World} (h : Rel P γ ρ s w) {l : List IV} {l' : List Value} {e n str : Nat} (hv : VRs ρ γ l l') (hz : size P e = some n) (rest : List Value) :
    ∃ p, p.blk = w.heap.size ∧ p.shift = 0 ∧ p.lim = l'.length + rest.length ∧ p.sz = n ∧ Rel P γ (ρ.with s.next p) (s.new (rowOf l e str)) (pushed w (.cells (l' ++ rest).toArray e)) ∧
      Goes ρ s w (ρ.with s.next p) (s.new (rowOf l e str)) (pushed w (.cells (l' ++ rest).toArray e)) ∧ Le ρ (ρ.with s.next p) ∧ ρ.with s.next p s.next = some p := by
  have hll := hv.length
  refine ⟨⟨w.heap.size, 0, l'.length + rest.length, n⟩, rfl, rfl, rfl, rfl, ?_⟩
  have hle := h.le_with ⟨w.heap.size, 0, l'.length + rest.length, n⟩
  obtain ⟨h1, h2⟩ := h.new (p := ⟨w.heap.size, 0, l'.length + rest.length, n⟩) rfl (x := rowOf l e str) (o := .cells (l' ++ rest).toArray e) (by
    refine .cells _ _ _ _ _ _ _ (by simp; omega) (by simp) ?_ (by intro j _ _ hj; simp at hj) (fun _ => ⟨.inl rfl, fun _ => rfl⟩) (fun _ => rfl) hz
    intro j hj
    rw [get_wrC, dif_pos (by omega)]
    have hk : l[j - 0]? = some (l[j - 0]'(by omega)) := List.getElem?_eq_getElem (by omega)
    obtain ⟨v', hv1, hv2⟩ := hv.get hk
    refine ⟨v', ?_, hv2.mono hle⟩
    simp only [Nat.sub_zero] at hv1
    simp only [Nat.zero_add, List.getElem?_toArray]
    rw [List.getElem?_append_left (by omega)]
    exact hv1)
  exact ⟨h1, h2, hle, Rho.with_self _ _ _⟩

/- operations on memory -/
theorem load1_sim {ρ : Rho} {s s' : St} {w : World} {t : Nat} {a v : IV} {a' : Value} (h : Rel P γ ρ s w) (ha : VR ρ γ a a') (ht : aggT P t = some false) (hr : load1 a s = .ok v s') :
    Yields P γ ρ s w (Instr.loadAt t a') v s' := by
  cases ha <;> (try (simp [load1, IV.onPtr] at hr; done))
  rename_i b o p hb
  change R.val s (cellOf o (s.get b)) = .ok v s' at hr
  cases hg : s.get b with
  | cells c len e fz str =>
    rw [hg] at hr
    change R.val s (Bool.rec (motive := fun _ => Option IV) none (some (PT.get undefI c o)) (Nat.ble (o + 1) len)) = .ok v s' at hr
    cases hbl : Nat.ble (o + 1) len with
    | false => rw [hbl] at hr; cases hr
    | true =>
      rw [hbl] at hr
      cases hr
      have hlen := Nat.le_of_ble_eq_true hbl
      obtain ⟨arr, fr, h1, h2⟩ := h.row hb hg
      cases h2 with
      | cells _ _ _ _ _ _ _ hl' ha hc hf hs htg hz =>
        obtain ⟨v', hv1, hv2⟩ := hc o (by omega)
        refine Yields.same h ?_ hv2
        unfold Instr.loadAt Instr.sureAddr loadVar
        simp only [Sem.run_bind, Sem.run_pure, Result.andThen_ok, run_isAgg ht, Bool.false_eq_true, if_false, run_load, cell_eq h1, hv1]
  | map es cl => rw [hg] at hr; cases hr
  | siter r p => rw [hg] at hr; cases hr
  | dead => rw [hg] at hr; cases hr

theorem loadA_sim {ρ : Rho} {s s' : St} {w : World} {t n : Nat} {a v : IV} {a' : Value} (h : Rel P γ ρ s w) (ha : VR ρ γ a a') (ht : aggT P t = some true) (hn : size P t = some n) (hr : loadA n a s = .ok v s') :
    Yields P γ ρ s w (Instr.loadAt t a') v s' := by
  cases ha <;> (try (simp [loadA] at hr; done))
  rename_i b o p hb
  simp only [loadA, valAgg] at hr
  cases hg : s.rd b o n with
  | none => rw [hg] at hr; cases hr
  | some l =>
    rw [hg] at hr
    cases hr
    obtain ⟨arr, e, fr, h1, h2, h3⟩ := h.rd hb hg
    refine Yields.same h ?_ (.agg l _ h3)
    unfold Instr.loadAt Instr.sureAddr loadVar
    simp only [Sem.run_bind, Sem.run_pure, Result.andThen_ok, run_isAgg ht, if_true, run_sizeOf hn, run_loadCells h1 h2]

theorem store_sim {ρ : Rho} {s s' : St} {w : World} {t n : Nat} {a v x : IV} {a' v' : Value} (h : Rel P γ ρ s w) (ha : VR ρ γ a a') (hv : VR ρ γ v v') (hn : size P t = some n) (hr : storeV n a v s = .ok x s') :
    x = undefI ∧ ∃ w', (Instr.storeAt t a' v').run P w = .ok () w' ∧ Goes ρ s w ρ s' w' ∧ Rel P γ ρ s' w' := by
  cases ha <;> (try (simp [storeV, IV.onPtr] at hr; done))
  rename_i b o p hb
  change Bool.rec (motive := fun _ => R) .no (s.wr b o v.cells).unit (Nat.beq v.cells.length n) = .ok x s' at hr
  cases hbl : Nat.beq v.cells.length n with
  | false => rw [hbl] at hr; cases hr
  | true =>
    rw [hbl] at hr
    change (s.wr b o v.cells).unit = .ok x s' at hr
    have hlen := Nat.eq_of_beq_eq_true hbl
    cases hw : s.wr b o v.cells with
    | no => rw [hw] at hr; cases hr
    | ok s1 =>
      rw [hw] at hr
      cases hr
      obtain ⟨w', h1, h2, h3⟩ := h.wr hb hv.cells hw
      refine ⟨rfl, w', ?_, h2, h3⟩
      unfold Instr.storeAt Instr.sureAddr storeVar
      have hsz : v'.cells.size = n := by have := hv.cells.length; simp at this; omega
      simp only [Sem.run_bind, Sem.run_pure, Result.andThen_ok, run_sizeOf hn, hsz, ne_eq, not_true_eq_false, if_false]
      simpa using h1
end Go.Eng
