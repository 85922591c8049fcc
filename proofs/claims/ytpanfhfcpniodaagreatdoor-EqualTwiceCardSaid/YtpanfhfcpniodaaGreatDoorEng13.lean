/- A part of the proof: an interpreter of the program, shown right once, and the laws that it computes. -/
import Derived.Test.YtpanfhfcpniodaaGreatDoorEng12
set_option linter.constructorNameAsVariable false
set_option linter.unusedVariables false
set_option linter.unusedSimpArgs false
namespace Go.Eng
variable {P : Program} {γ : Gam}

theorem size_of_zero {e : Nat} {z : IV} (h : zero P e = some z) : ∃ n, size P e = some n := by
  unfold zero at h; unfold size
  cases hi : infoI P e with
  | none => simp [hi] at h
  | some i => exact ⟨i.size, rfl⟩

/-- A new variable. -/
theorem newVar_sim {ρ : Rho} {s : St} {w : World} {e n : Nat} {v : IV} {v' : Value} (h : Rel P γ ρ s w) (hv : VR ρ γ v v') (hn : size P e = some n) {m : Sem Value}
    (hm : m = (do pure (.pointer (some (← newVar e v'))))) : Yields P γ ρ s w m (.ptr s.next 0) (s.new (rowOf v.cells e 0)) := by
  obtain ⟨p, hp1, hp2, hp3, hp4, h1, h2, hle, hself⟩ := h.row_new (str := 0) hv.cells hn []
  subst hm
  refine ⟨.pointer (some ⟨w.heap.size, 0, none⟩), _, _, ?_, h2, h1, ?_⟩
  · simp only [newVar, Sem.run_bind, run_newRow, Result.andThen_ok, Sem.run_pure, List.append_nil, Array.toArray_toList]
  · have := VR.ptr (ρ := ρ.with s.next p) (γ := γ) s.next 0 p hself
    rw [hp1, hp2] at this
    exact this

theorem alloc_sim {ρ : Rho} {s : St} {w : World} {e : Nat} {z : IV} (h : Rel P γ ρ s w) (hz : zero P e = some z) : Yields P γ ρ s w (Instr.alloc e true (.tuple #[])) (.ptr s.next 0) (s.new (rowOf z.cells e 0)) := by
  obtain ⟨n, hn⟩ := size_of_zero hz
  obtain ⟨v, hv, hrun⟩ := run_zeroValue hz
  obtain ⟨v', w', ρ', h1, h2⟩ := newVar_sim h (VR.ofValue (ρ := ρ) (γ := γ) hv) hn rfl
  refine ⟨v', w', ρ', ?_, h2⟩
  unfold Instr.alloc
  simp only [Sem.run_bind, hrun, Result.andThen_ok]
  simpa only [Sem.run_bind] using h1

theorem box_sim {ρ : Rho} {s : St} {w : World} {e n : Nat} {v : IV} {v' : Value} (h : Rel P γ ρ s w) (hv : VR ρ γ v v') (hn : size P e = some n) : Yields P γ ρ s w (Instr.box e v') (.ptr s.next 0) (s.new (rowOf v.cells e 0)) :=
  newVar_sim h hv hn rfl

/- parts of values -/
theorem putL_zero (l : List IV) (vs : List IV) : putL l 0 vs = match vs with
    | [] => some l
    | v :: vs => match l with
      | _ :: l => match putL l 0 vs with
        | some r => some (v :: r)
        | none => none
      | [] => none := by cases l <;> cases vs <;> rfl
/-- Values over a list's, from a place on. -/
def overL (l : List Value) (off : Nat) (vs : List Value) : List Value := l.take off ++ vs ++ l.drop (off + vs.length)
theorem putL_sim {ρ : Rho} : ∀ {off : Nat} {l vs r : List IV} {l' vs' : List Value}, VRs ρ γ l l' → VRs ρ γ vs vs' → putL l off vs = some r → off + vs'.length ≤ l'.length ∧ VRs ρ γ r (overL l' off vs')
  | 0, l, [], r, l', vs', hl, hv, h => by
    cases hv
    rw [putL_zero] at h; simp at h; subst h
    simpa [overL] using hl
  | 0, [], v :: vs, r, l', vs', hl, hv, h => by rw [putL_zero] at h; simp at h
  | 0, x :: l, v :: vs, r, l', vs', hl, hv, h => by
    rw [putL_zero] at h
    simp only at h
    cases hq : putL l 0 vs with
    | none => rw [hq] at h; cases h
    | some q =>
      rw [hq] at h; cases h
      cases hl with
      | cons _ x' _ l'' hx hls => cases hv with
        | cons _ v' _ vs'' hv' hvs =>
          obtain ⟨h1, h2⟩ := putL_sim (off := 0) hls hvs hq
          refine ⟨by simp at h1 ⊢; omega, ?_⟩
          simpa [overL] using VRs.cons _ _ _ _ hv' (by simpa [overL] using h2)
  | off + 1, [], vs, r, l', vs', hl, hv, h => by simp [putL] at h
  | off + 1, x :: l, vs, r, l', vs', hl, hv, h => by
    unfold putL at h
    cases hq : putL l off vs with
    | none => simp [hq] at h
    | some q =>
      simp [hq] at h; subst h
      cases hl with
      | cons _ x' _ l'' hx hls =>
        obtain ⟨h1, h2⟩ := putL_sim (off := off) hls hv hq
        refine ⟨by simp; omega, ?_⟩
        have e : off + 1 + vs'.length = (off + vs'.length) + 1 := by omega
        simpa [overL, e] using VRs.cons _ _ _ _ hx h2

theorem get_overL (l vs : List Value) (off i : Nat) (h : off + vs.length ≤ l.length) : (overL l off vs)[i]? = if i < off then l[i]? else if i < off + vs.length then vs[i - off]? else l[i]? := by
  unfold overL
  have ht : (l.take off).length = off := by simp; omega
  by_cases h1 : i < off
  · rw [if_pos h1, List.append_assoc, List.getElem?_append_left (by omega), List.getElem?_take_of_lt h1]
  · rw [if_neg h1]
    by_cases h2 : i < off + vs.length
    · rw [if_pos h2, List.getElem?_append_left (by simp; omega), List.getElem?_append_right (by omega), ht]
    · rw [if_neg h2, List.getElem?_append_right (by simp; omega), List.getElem?_drop]
      congr 1; simp; omega

theorem foldl_set : ∀ (vs : List Value) (cs : Array Value) (off j : Nat), off + j + vs.length ≤ cs.size →
    ((vs.zipIdx j).foldl (fun cs (c, j) => cs.setIfInBounds (off + j) c) cs).toList = overL cs.toList (off + j) vs
  | [], cs, off, j, h => by simp [overL]
  | v :: vs, cs, off, j, h => by
    simp only [List.length_cons] at h
    have hsz : cs.toList.length = cs.size := Array.length_toList
    rw [List.zipIdx_cons, List.foldl_cons, foldl_set vs _ off (j + 1) (by simp; omega)]
    apply List.ext_getElem?
    intro i
    rw [get_overL _ _ _ _ (by simp; omega), get_overL _ _ _ _ (by simp; omega)]
    simp only [Array.toList_setIfInBounds, List.length_cons]
    by_cases h1 : i < off + j
    · rw [if_pos h1, if_pos (by omega), List.getElem?_set_ne (by omega)]
    · rw [if_neg h1]
      by_cases h2 : i = off + j
      · subst h2
        rw [if_pos (by omega), if_pos (by omega), List.getElem?_set_self (by omega)]
        simp
      · rw [if_neg (by omega)]
        by_cases h3 : i < off + (j + 1) + vs.length
        · rw [if_pos h3, if_pos (by omega)]
          have e1 : i - (off + j) = (i - (off + (j + 1))) + 1 := by omega
          rw [e1, List.getElem?_cons_succ]
        · rw [if_neg h3, if_neg (by omega), List.getElem?_set_ne (by omega)]

theorem fill_sim {ρ : Rho} {place : Nat → Option (Nat × Nat)} : ∀ {ps : List (Nat × IV)} {ps' : List (Nat × Value)} {cells r : List IV} {cells' : Array Value}, VRs ρ γ cells cells'.toList →
    ps.map (·.1) = ps'.map (·.1) → VRs ρ γ (ps.map (·.2)) (ps'.map (·.2)) → Eng.fill place cells ps = some r → ∃ r', Instr.fill place cells' ps' = some r' ∧ VRs ρ γ r r'.toList
  | [], [], cells, r, cells', hc, _, _, h => by simp [Eng.fill] at h; subst h; exact ⟨cells', rfl, hc⟩
  | (i, v) :: ps, (i', v') :: ps', cells, r, cells', hc, hi, hv, h => by
    simp only [List.map_cons, List.cons.injEq] at hi
    obtain ⟨rfl, hi⟩ := hi
    cases hv with
    | cons _ _ _ _ hv hvs =>
      unfold Eng.fill at h
      unfold Instr.fill
      cases hp : place i with
      | none => simp [hp] at h
      | some q =>
        obtain ⟨off, sz⟩ := q
        simp only [hp] at h ⊢
        cases hb : Nat.beq v.cells.length sz with
        | false => simp [hb] at h
        | true =>
          simp only [hb] at h
          have hsz := Nat.eq_of_beq_eq_true hb
          cases hq : putL cells off v.cells with
          | none => simp [hq] at h
          | some c =>
            simp only [hq] at h
            have hcl := hv.cells.length
            obtain ⟨h1, h2⟩ := putL_sim hc hv.cells hq
            simp only [Array.length_toList] at h1 hcl
            have e1 : (v'.cells.size != sz || decide (off + v'.cells.size > cells'.size)) = false := by
              simp only [Bool.or_eq_false_iff, bne_eq_false_iff_eq, decide_eq_false_iff_not]
              constructor <;> omega
            have hfold : (Array.foldl (fun cs (x : Value × Nat) => cs.setIfInBounds (off + x.2) x.1) cells' v'.cells.zipIdx).toList = overL cells'.toList off v'.cells.toList := by
              rw [← Array.foldl_toList, Array.toList_zipIdx]
              have := foldl_set v'.cells.toList cells' off 0 (by simp; omega)
              simpa using this
            have hnext := fill_sim (place := place) (cells' := Array.foldl (fun cs (x : Value × Nat) => cs.setIfInBounds (off + x.2) x.1) cells' v'.cells.zipIdx) (by rw [hfold]; exact h2) hi hvs h
            obtain ⟨r', hr1, hr2⟩ := hnext
            refine ⟨r', ?_, hr2⟩
            rw [if_neg (by simpa using e1)]
            exact hr1
  | [], _ :: _, _, _, _, _, hi, _, _ => by simp at hi
  | _ :: _, [], _, _, _, _, hi, _, _ => by simp at hi
end Go.Eng
